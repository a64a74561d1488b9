/- SnapsNil holds: for every call the law returns true. No condition beyond the given row. -/
import Derived.Test.YtjekfifnhdoamaaSn4
import Derived.Test.YtjekfifnhdoamaaOpenSn
set_option linter.unusedSimpArgs false
set_option linter.unusedVariables false
set_option linter.unnecessarySimpa false
namespace Go.Proofs.Ytjekfifnhdoamaa
open Go.ChangeShapes Go.WideShapes Go.ChangeAt Go.RowKit Go.Rg Go.St

theorem snapsNil_own : ownKnob Try.prog.godebug = none := by kernel_rfl
theorem snapsNil_laid : laidOutB Try.prog = true := by kernel_rfl

set_option maxRecDepth 100000 in
theorem snapsNil_lifted (os : Os) (started : os.Started) (H : Type) (enc : TypeId × Value → H) :
    ReturnsInHanded {} Try.checked os 6 .any (Rows.snapsNilSpec.pre6 enc Try.prog Try.f6 Rows.snapsNilRow.domain false) (Rows.snapsNilSpec.post enc Try.prog Try.f6 false true false false) := by
  refine law_lifted (C := Try.checked) (bt := 4) snapsNil_own started (by kernel_rfl) Try.func6
    (ChangeSpec.witness6 (enc := enc) (C := Try.checked) false ⟨#[], #[.agg #[.int .i64 0, .int .u64 0, .int .i64 0]], []⟩ 8 (by kernel_rfl) (by kernel_rfl) (by kernel_rfl) (by kernel_rfl))
    snapsNil_laid rfl Try.underlying4 rfl (by kernel_rfl) (fun ds h => by match ds, h with | [_], _ => rfl) ?_
  intro W base args ds p hval0 hA0 hsz0
  have hval : ∀ (j : Nat) t v, Try.f6.params[j]? = some t → args[j]? = some v → Value.okWide Try.prog W .any base t v := hval0
  have hA : DataW.TrodAll enc Try.prog W 0 (fun _ => true) true Try.f6.params.toList args.toList ds p := hA0
  have hsz : (DataW.weightsEach Try.prog Try.f6.params.toList ds).all (· ≤ reachBytes) = true := hsz0
  rw [Try.params6] at hA hval hsz
  clear hA0 hval0 hsz0
  obtain ⟨v0, d0, rfl, rfl, h0⟩ := trodAll_one hA
  obtain ⟨cs0, rfl⟩ := open_agg Try.underlying32 (hval 0 32 v0 rfl rfl)
  obtain ⟨fuel0, hf0⟩ := h0
  obtain ⟨c0, hcs0, hgood0⟩ := (tells_scall Try.underlying32 rfl (by kernel_rfl) Try.underlying30 (by kernel_rfl) Try.underlying3 (by kernel_rfl)) _ _ _ hf0
  obtain rfl : cs0 = (eSCall c0).toArray := by apply Array.toList_inj.1; simpa [Value.cells] using hcs0
  exact snapsNil_walk c0.kind c0.seq c0.id W

theorem snapsNil_holds : Rows.SnapsNilSaid :=
  OpenClaim.holds_of_wide 6 Try.f6 rfl rfl rfl rfl rfl rfl rfl ⟨rfl, rfl, rfl, rfl, rfl⟩ rfl rfl rfl rfl rfl (by kernel_rfl) Try.func6 (by kernel_rfl)
    (of_decide_eq_true (by kernel_rfl)) (by unfold Func.isWrapper; rw [if_neg (of_decide_eq_false (by kernel_rfl))]; exact ⟨rfl, rfl⟩)
    (fun os started H enc _ => snapsNil_lifted os started H enc)
#print axioms snapsNil_holds
end Go.Proofs.Ytjekfifnhdoamaa
