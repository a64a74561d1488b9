/- SimfsPlays holds: for all quotas and scripts the law returns true. No condition beyond the given row. -/
import Derived.Test.YtjekfifnhdoamaaLawPl
import Derived.Test.YtjekfifnhdoamaaOpenPl
set_option linter.unusedSimpArgs false
set_option linter.unusedVariables false
set_option linter.unnecessarySimpa false
namespace Go.Proofs.Ytjekfifnhdoamaa
open Go.ChangeShapes Go.WideShapes Go.ChangeAt Go.RowKit Go.Rg Go.St

theorem simfsPlays_own : ownKnob Try.prog.godebug = none := by kernel_rfl
theorem simfsPlays_laid : laidOutB Try.prog = true := by kernel_rfl

set_option maxRecDepth 100000 in
theorem simfsPlays_lifted (os : Os) (started : os.Started) (H : Type) (enc : TypeId × Value → H) :
    ReturnsInHanded {} Try.checked os 11 .any (Rows.simfsPlaysSpec.pre6 enc Try.prog Try.f11 Rows.simfsPlaysRow.domain false) (Rows.simfsPlaysSpec.post enc Try.prog Try.f11 false true false false) := by
  refine law_lifted (C := Try.checked) (bt := 4) simfsPlays_own started (by kernel_rfl) Try.func11
    (ChangeSpec.witness6 (enc := enc) (C := Try.checked) false ⟨#[], #[.int .i64 0, .slice none 0 0, .slice none 0 0], []⟩ 8 (by kernel_rfl) (by kernel_rfl) (by kernel_rfl) (by kernel_rfl))
    simfsPlays_laid rfl Try.underlying4 rfl (by kernel_rfl) (fun ds h => by match ds, h with | [_, _, _], _ => rfl) ?_
  intro W base args ds p hval0 hA0 hsz0
  have hval : ∀ (j : Nat) t v, Try.f11.params[j]? = some t → args[j]? = some v → Value.okWide Try.prog W .any base t v := hval0
  have hA : DataW.TrodAll enc Try.prog W 0 (fun _ => true) true Try.f11.params.toList args.toList ds p := hA0
  have hsz : (DataW.weightsEach Try.prog Try.f11.params.toList ds).all (· ≤ reachBytes) = true := hsz0
  rw [Try.params11] at hA hval hsz
  clear hA0 hval0 hsz0
  obtain ⟨v0, v1, v2, d0, d1, d2, p0, p1, p2, rfl, rfl, rfl, h0, h1, h2⟩ := trodAll_three hA
  obtain ⟨x0, rfl, hx0⟩ := open_i64 Try.underlying3 (hval 0 3 v0 rfl rfl) h0
  obtain ⟨l1, hl1, hg1⟩ := open_fcalls Try.underlying67 (by kernel_rfl) (tellsW_fcall Try.underlying73 rfl (by kernel_rfl) Try.underlying3 (by kernel_rfl) Try.underlying9 (by kernel_rfl) Try.underlying53 (by kernel_rfl) Try.underlying5 (by kernel_rfl) (by kernel_rfl) Try.underlying43 (by kernel_rfl) Try.underlying3 (by kernel_rfl)) (hval 1 67 v1 rfl rfl) h1 (List.all_eq_true.2 fun n hn => List.all_eq_true.1 hsz n (DataW.weights_mem_each (j := 1) rfl rfl n hn))
  obtain ⟨l2, hl2, hg2⟩ := open_fcalls Try.underlying67 (by kernel_rfl) (tellsW_fcall Try.underlying73 rfl (by kernel_rfl) Try.underlying3 (by kernel_rfl) Try.underlying9 (by kernel_rfl) Try.underlying53 (by kernel_rfl) Try.underlying5 (by kernel_rfl) (by kernel_rfl) Try.underlying43 (by kernel_rfl) Try.underlying3 (by kernel_rfl)) (hval 2 67 v2 rfl rfl) h2 (List.all_eq_true.2 fun n hn => List.all_eq_true.1 hsz n (DataW.weights_mem_each (j := 2) rfl rfl n hn))
  exact simfsPlays_walk x0 v1 v2 l1 l2 W hl1 hl2 hg1 hg2

theorem simfsPlays_holds : Rows.SimfsPlaysSaid :=
  OpenClaim.holds_of_wide 11 Try.f11 rfl rfl rfl rfl rfl rfl rfl ⟨rfl, rfl, rfl, rfl, rfl⟩ rfl rfl rfl rfl rfl (by kernel_rfl) Try.func11 (by kernel_rfl)
    (of_decide_eq_true (by kernel_rfl)) (by unfold Func.isWrapper; rw [if_neg (of_decide_eq_false (by kernel_rfl))]; exact ⟨rfl, rfl⟩)
    (fun os started H enc _ => simfsPlays_lifted os started H enc)
#print axioms simfsPlays_holds
end Go.Proofs.Ytjekfifnhdoamaa
