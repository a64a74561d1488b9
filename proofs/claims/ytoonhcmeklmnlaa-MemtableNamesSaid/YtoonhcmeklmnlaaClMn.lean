/- MemtableNames holds: the law returns true. No condition beyond the given row. -/
import Derived.Test.YtoonhcmeklmnlaaLawMt
import Derived.Test.YtoonhcmeklmnlaaOpen
import Derived.Test.YtoonhcmeklmnlaaLift
set_option linter.unusedSimpArgs false
set_option linter.unusedVariables false
set_option linter.unnecessarySimpa false
namespace Go.Proofs.Ytoonhcmeklmnlaa
open Go.ChangeShapes Go.WideShapes Go.ChangeAt Go.RowKit Go.Rg Go.St

theorem memtableNames_own : ownKnob Try.prog.godebug = none := by kernel_rfl
theorem memtableNames_laid : laidOutB Try.prog = true := by kernel_rfl

set_option maxRecDepth 100000 in
theorem memtableNames_lifted (os : Os) (started : os.Started) (H : Type) (enc : TypeId × Value → H) :
    ReturnsInHanded {} Try.checked os 4 .any (Rows.memtableNamesSpec.pre6 enc Try.prog Try.f4 Rows.memtableNamesRow.domain false) (Rows.memtableNamesSpec.post enc Try.prog Try.f4 false true false false) := by
  refine law_lifted (C := Try.checked) (bt := 4) memtableNames_own started (by kernel_rfl) Try.func4
    (ChangeSpec.witness6 (enc := enc) (C := Try.checked) false ⟨#[], #[], []⟩ 8 (by kernel_rfl) (by kernel_rfl) (by kernel_rfl) (by kernel_rfl))
    memtableNames_laid rfl Try.underlying4 rfl (by kernel_rfl) (fun ds h => by match ds, h with | [], _ => rfl) ?_
  intro W base args ds p hval0 hA0 hsz0
  have hval : ∀ (j : Nat) t v, Try.f4.params[j]? = some t → args[j]? = some v → Value.okWide Try.prog W .any base t v := hval0
  have hA : DataW.TrodAll enc Try.prog W 0 (fun _ => true) true Try.f4.params.toList args.toList ds p := hA0
  have hsz : (DataW.weightsEach Try.prog Try.f4.params.toList ds).all (· ≤ reachBytes) = true := hsz0
  rw [Try.params4] at hA hval hsz
  clear hA0 hval0 hsz0
  obtain ⟨rfl, rfl, rfl⟩ := trodAll_none hA
  exact memtableNames_walk W

theorem memtableNames_holds : Rows.MemtableNamesSaid :=
  OpenClaim.holds_of_wide 4 Try.f4 rfl rfl rfl rfl rfl rfl rfl ⟨rfl, rfl, rfl, rfl, rfl⟩ rfl rfl rfl rfl rfl (by kernel_rfl) Try.func4 (by kernel_rfl)
    (of_decide_eq_true (by kernel_rfl)) (by unfold Func.isWrapper; rw [if_neg (of_decide_eq_false (by kernel_rfl))]; exact ⟨rfl, rfl⟩)
    (fun os started H enc _ => memtableNames_lifted os started H enc)
#print axioms memtableNames_holds
end Go.Proofs.Ytoonhcmeklmnlaa
