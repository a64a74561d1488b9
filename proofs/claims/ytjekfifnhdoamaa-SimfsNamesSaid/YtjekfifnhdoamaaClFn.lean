/- SimfsNames holds: the law returns true. No condition beyond the given row. -/
import Derived.Test.YtjekfifnhdoamaaLawSf
import Derived.Test.YtjekfifnhdoamaaLiftU
set_option linter.unusedSimpArgs false
set_option linter.unusedVariables false
set_option linter.unnecessarySimpa false
namespace Go.Proofs.Ytjekfifnhdoamaa
open Go.ChangeShapes Go.WideShapes Go.ChangeAt Go.RowKit Go.Rg Go.St

theorem simfsNames_own : ownKnob Try.prog.godebug = none := by kernel_rfl
theorem simfsNames_laid : laidOutB Try.prog = true := by kernel_rfl

set_option maxRecDepth 100000 in
theorem simfsNames_lifted (os : Os) (started : os.Started) (H : Type) (enc : TypeId × Value → H) :
    ReturnsInHanded {} Try.checked os 7 .any (Rows.simfsNamesSpec.pre6 enc Try.prog Try.f7 Rows.simfsNamesRow.domain false) (Rows.simfsNamesSpec.post enc Try.prog Try.f7 false true false false) := by
  refine law_lifted (C := Try.checked) (bt := 4) simfsNames_own started (by kernel_rfl) Try.func7
    (ChangeSpec.witness6 (enc := enc) (C := Try.checked) false ⟨#[], #[], []⟩ 8 (by kernel_rfl) (by kernel_rfl) (by kernel_rfl) (by kernel_rfl))
    simfsNames_laid rfl Try.underlying4 rfl (by kernel_rfl) (fun ds h => by match ds, h with | [], _ => rfl) ?_
  intro W base args ds p hval0 hA0 hsz0
  have hval : ∀ (j : Nat) t v, Try.f7.params[j]? = some t → args[j]? = some v → Value.okWide Try.prog W .any base t v := hval0
  have hA : DataW.TrodAll enc Try.prog W 0 (fun _ => true) true Try.f7.params.toList args.toList ds p := hA0
  have hsz : (DataW.weightsEach Try.prog Try.f7.params.toList ds).all (· ≤ reachBytes) = true := hsz0
  rw [Try.params7] at hA hval hsz
  clear hA0 hval0 hsz0
  obtain ⟨rfl, rfl, rfl⟩ := trodAll_none hA
  exact simfsNames_walk W

theorem simfsNames_holds : Rows.SimfsNamesSaid :=
  OpenClaim.holds_of_wide 7 Try.f7 rfl rfl rfl rfl rfl rfl rfl ⟨rfl, rfl, rfl, rfl, rfl⟩ rfl rfl rfl rfl rfl (by kernel_rfl) Try.func7 (by kernel_rfl)
    (of_decide_eq_true (by kernel_rfl)) (by unfold Func.isWrapper; rw [if_neg (of_decide_eq_false (by kernel_rfl))]; exact ⟨rfl, rfl⟩)
    (fun os started H enc _ => simfsNames_lifted os started H enc)
#print axioms simfsNames_holds
end Go.Proofs.Ytjekfifnhdoamaa
