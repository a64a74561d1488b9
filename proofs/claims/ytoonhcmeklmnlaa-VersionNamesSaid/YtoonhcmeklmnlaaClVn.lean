/- VersionNames holds: the law returns true. No condition beyond the given row. -/
import Derived.Test.YtoonhcmeklmnlaaLawVn
import Derived.Test.YtoonhcmeklmnlaaLiftU
set_option linter.unusedSimpArgs false
set_option linter.unusedVariables false
set_option linter.unnecessarySimpa false
namespace Go.Proofs.Ytoonhcmeklmnlaa
open Go.ChangeShapes Go.WideShapes Go.ChangeAt Go.RowKit Go.Rg Go.St

theorem versionNames_own : ownKnob Try.prog.godebug = none := by kernel_rfl
theorem versionNames_laid : laidOutB Try.prog = true := by kernel_rfl

set_option maxRecDepth 100000 in
theorem versionNames_lifted (os : Os) (started : os.Started) (H : Type) (enc : TypeId × Value → H) :
    ReturnsInHanded {} Try.checked os 10 .any (Rows.versionNamesSpec.pre6 enc Try.prog Try.f10 Rows.versionNamesRow.domain false) (Rows.versionNamesSpec.post enc Try.prog Try.f10 false true false false) := by
  refine law_lifted (C := Try.checked) (bt := 4) versionNames_own started (by kernel_rfl) Try.func10
    (ChangeSpec.witness6 (enc := enc) (C := Try.checked) false ⟨#[], #[], []⟩ 8 (by kernel_rfl) (by kernel_rfl) (by kernel_rfl) (by kernel_rfl))
    versionNames_laid rfl Try.underlying4 rfl (by kernel_rfl) (fun ds h => by match ds, h with | [], _ => rfl) ?_
  intro W base args ds p hval0 hA0 hsz0
  have hval : ∀ (j : Nat) t v, Try.f10.params[j]? = some t → args[j]? = some v → Value.okWide Try.prog W .any base t v := hval0
  have hA : DataW.TrodAll enc Try.prog W 0 (fun _ => true) true Try.f10.params.toList args.toList ds p := hA0
  have hsz : (DataW.weightsEach Try.prog Try.f10.params.toList ds).all (· ≤ reachBytes) = true := hsz0
  rw [Try.params10] at hA hval hsz
  clear hA0 hval0 hsz0
  obtain ⟨rfl, rfl, rfl⟩ := trodAll_none hA
  exact versionNames_walk W

theorem versionNames_holds : Rows.VersionNamesSaid :=
  OpenClaim.holds_of_wide 10 Try.f10 rfl rfl rfl rfl rfl rfl rfl ⟨rfl, rfl, rfl, rfl, rfl⟩ rfl rfl rfl rfl rfl (by kernel_rfl) Try.func10 (by kernel_rfl)
    (of_decide_eq_true (by kernel_rfl)) (by unfold Func.isWrapper; rw [if_neg (of_decide_eq_false (by kernel_rfl))]; exact ⟨rfl, rfl⟩)
    (fun os started H enc _ => versionNames_lifted os started H enc)
#print axioms versionNames_holds
end Go.Proofs.Ytoonhcmeklmnlaa
