/- SnapsHolds holds: for all numbers and all orders of letting go the law returns true. No condition beyond the given row. -/
import Derived.Test.YtjekfifnhdoamaaLawSh
import Derived.Test.YtjekfifnhdoamaaLiftU
set_option linter.unusedSimpArgs false
set_option linter.unusedVariables false
set_option linter.unnecessarySimpa false
namespace Go.Proofs.Ytjekfifnhdoamaa
open Go.ChangeShapes Go.WideShapes Go.ChangeAt Go.RowKit Go.Rg Go.St

theorem snapsHolds_own : ownKnob Try.prog.godebug = none := by kernel_rfl
theorem snapsHolds_laid : laidOutB Try.prog = true := by kernel_rfl

theorem sl1_of {w : World} {v : Value} {k : IntKind} {xs : List Int} (h : SlS w v 1 (fun n : Int => [Value.int k n]) xs) : Sl1 w v xs.length (fun i => .int k (nth xs i)) := by
  obtain ⟨a, cap, e, h0, h1, h2⟩ := h.ex
  refine ⟨a, cap, e, h0, h1, fun hn => ?_⟩
  obtain ⟨b, off, e2, hc⟩ := h2 hn
  exact ⟨b, off, e2, fun i hi => by have := hc i hi 0 (by omega); simpa using this⟩
set_option maxRecDepth 100000 in
theorem snapsHolds_lifted (os : Os) (started : os.Started) (H : Type) (enc : TypeId × Value → H) :
    ReturnsInHanded {} Try.checked os 5 .any (Rows.snapsHoldsSpec.pre6 enc Try.prog Try.f5 Rows.snapsHoldsRow.domain false) (Rows.snapsHoldsSpec.post enc Try.prog Try.f5 false true false false) := by
  refine law_lifted (C := Try.checked) (bt := 4) snapsHolds_own started (by kernel_rfl) Try.func5
    (ChangeSpec.witness6 (enc := enc) (C := Try.checked) false ⟨#[], #[.slice none 0 0, .slice none 0 0], []⟩ 8 (by kernel_rfl) (by kernel_rfl) (by kernel_rfl) (by kernel_rfl))
    snapsHolds_laid rfl Try.underlying4 rfl (by kernel_rfl) (fun ds h => by match ds, h with | [_, _], _ => rfl) ?_
  intro W base args ds p hval0 hA0 hsz0
  have hval : ∀ (j : Nat) t v, Try.f5.params[j]? = some t → args[j]? = some v → Value.okWide Try.prog W .any base t v := hval0
  have hA : DataW.TrodAll enc Try.prog W 0 (fun _ => true) true Try.f5.params.toList args.toList ds p := hA0
  have hsz : (DataW.weightsEach Try.prog Try.f5.params.toList ds).all (· ≤ reachBytes) = true := hsz0
  rw [Try.params5] at hA hval hsz
  clear hA0 hval0 hsz0
  obtain ⟨v0, v1, d0, d1, p0, p1, rfl, rfl, rfl, h0, h1⟩ := trodAll_two hA
  obtain ⟨l0, hl0, _, _⟩ := open_slS (α := Int) (sz := 1) Try.underlying39 (by kernel_rfl) (by omega) (tells_int Try.underlying30) (fun _ => rfl) (hval 0 39 v0 rfl rfl) h0
  obtain ⟨l1, hl1, hr1, _⟩ := open_slS (α := Int) (sz := 1) Try.underlying43 (by kernel_rfl) (by omega) (tells_int Try.underlying3) (fun _ => rfl) (hval 1 43 v1 rfl rfl) h1
  exact snapsHolds_walk v0 v1 l0.length (fun i => nth l0 i) l1 W (sl1_of hl0) (sl1_of hl1) (fun p hp => bounds_i64 (hr1 p hp))

theorem snapsHolds_holds : Rows.SnapsHoldsSaid :=
  OpenClaim.holds_of_wide 5 Try.f5 rfl rfl rfl rfl rfl rfl rfl ⟨rfl, rfl, rfl, rfl, rfl⟩ rfl rfl rfl rfl rfl (by kernel_rfl) Try.func5 (by kernel_rfl)
    (of_decide_eq_true (by kernel_rfl)) (by unfold Func.isWrapper; rw [if_neg (of_decide_eq_false (by kernel_rfl))]; exact ⟨rfl, rfl⟩)
    (fun os started H enc _ => snapsHolds_lifted os started H enc)
#print axioms snapsHolds_holds
end Go.Proofs.Ytjekfifnhdoamaa
