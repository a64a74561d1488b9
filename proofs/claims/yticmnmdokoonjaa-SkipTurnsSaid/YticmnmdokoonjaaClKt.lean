/- SkipTurns holds: for all puts and picks the law returns true. No condition beyond the given row. -/
import Derived.Test.YticmnmdokoonjaaLawSk6
import Derived.Test.YticmnmdokoonjaaOpenSk
import Derived.Test.YticmnmdokoonjaaOpen
import Derived.Test.YticmnmdokoonjaaLift
set_option linter.unusedSimpArgs false
set_option linter.unusedVariables false
set_option linter.unnecessarySimpa false
namespace Go.Proofs.Yticmnmdokoonjaa
open Go.ChangeShapes Go.WideShapes Go.ChangeAt Go.RowKit Go.Rg Go.St

theorem skipTurns_own : ownKnob Try.prog.godebug = none := by kernel_rfl
theorem skipTurns_laid : laidOutB Try.prog = true := by kernel_rfl

set_option maxRecDepth 100000 in
theorem skipTurns_lifted (os : Os) (started : os.Started) (H : Type) (enc : TypeId × Value → H) :
    ReturnsInHanded {} Try.checked os 10 .any (Rows.skipTurnsSpec.pre6 enc Try.prog Try.f10 Rows.skipTurnsRow.domain false) (Rows.skipTurnsSpec.post enc Try.prog Try.f10 false true false false) := by
  refine law_lifted (C := Try.checked) (bt := 4) skipTurns_own started (by kernel_rfl) Try.func10
    (ChangeSpec.witness6 (enc := enc) (C := Try.checked) false ⟨#[], #[.slice none 0 0, .slice none 0 0], []⟩ 8 (by kernel_rfl) (by kernel_rfl) (by kernel_rfl) (by kernel_rfl))
    skipTurns_laid rfl Try.underlying4 rfl (by kernel_rfl) (fun ds h => by match ds, h with | [_, _], _ => rfl) ?_
  intro W base args ds p hval0 hA0 hsz0
  have hval : ∀ (j : Nat) t v, Try.f10.params[j]? = some t → args[j]? = some v → Value.okWide Try.prog W .any base t v := hval0
  have hA : DataW.TrodAll enc Try.prog W 0 (fun _ => true) true Try.f10.params.toList args.toList ds p := hA0
  have hsz : (DataW.weightsEach Try.prog Try.f10.params.toList ds).all (· ≤ reachBytes) = true := hsz0
  rw [Try.params10] at hA hval hsz
  clear hA0 hval0 hsz0
  obtain ⟨v0, v1, d0, d1, p0, p1, rfl, rfl, rfl, h0, h1⟩ := trodAll_two hA
  obtain ⟨l0, hl0, hr0⟩ := open_puts Try.underlying58 Try.underlying79 rfl (by kernel_rfl) Try.underlying9 (by kernel_rfl) Try.underlying3 (by kernel_rfl) (hval 0 58 v0 rfl rfl) h0
  obtain ⟨l1, hl1, hr1⟩ := open_ints Try.underlying59 (by kernel_rfl) Try.underlying3 (hval 1 59 v1 rfl rfl) h1
  exact skipTurns_walk v0 v1 l0 l1 W hl0 hr0 hl1 hr1

theorem skipTurns_holds : Rows.SkipTurnsSaid :=
  OpenClaim.holds_of_wide 10 Try.f10 rfl rfl rfl rfl rfl rfl rfl ⟨rfl, rfl, rfl, rfl, rfl⟩ rfl rfl rfl rfl rfl (by kernel_rfl) Try.func10 (by kernel_rfl)
    (of_decide_eq_true (by kernel_rfl)) (by unfold Func.isWrapper; rw [if_neg (of_decide_eq_false (by kernel_rfl))]; exact ⟨rfl, rfl⟩)
    (fun os started H enc _ => skipTurns_lifted os started H enc)
#print axioms skipTurns_holds
end Go.Proofs.Yticmnmdokoonjaa
