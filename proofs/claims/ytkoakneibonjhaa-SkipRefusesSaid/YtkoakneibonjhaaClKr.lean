/- SkipRefuses holds: for every room, all puts and every number of an operation the law returns true. No condition beyond the given row. -/
import Derived.Test.YtkoakneibonjhaaLawSk4
import Derived.Test.YtkoakneibonjhaaOpenSk
import Derived.Test.YtkoakneibonjhaaOpen
import Derived.Test.YtkoakneibonjhaaLift
set_option linter.unusedSimpArgs false
set_option linter.unusedVariables false
set_option linter.unnecessarySimpa false
namespace Go.Proofs.Ytkoakneibonjhaa
open Go.ChangeShapes Go.WideShapes Go.ChangeAt Go.RowKit Go.Rg Go.St

theorem skipRefuses_own : ownKnob Try.prog.godebug = none := by kernel_rfl
theorem skipRefuses_laid : laidOutB Try.prog = true := by kernel_rfl

set_option maxRecDepth 100000 in
theorem skipRefuses_lifted (os : Os) (started : os.Started) (H : Type) (enc : TypeId × Value → H) :
    ReturnsInHanded {} Try.checked os 9 .any (Rows.skipRefusesSpec.pre6 enc Try.prog Try.f9 Rows.skipRefusesRow.domain false) (Rows.skipRefusesSpec.post enc Try.prog Try.f9 false true false false) := by
  refine law_lifted (C := Try.checked) (bt := 4) skipRefuses_own started (by kernel_rfl) Try.func9
    (ChangeSpec.witness6 (enc := enc) (C := Try.checked) false ⟨#[], #[.int .i64 0, .slice none 0 0, .int .i64 0], []⟩ 8 (by kernel_rfl) (by kernel_rfl) (by kernel_rfl) (by kernel_rfl))
    skipRefuses_laid rfl Try.underlying4 rfl (by kernel_rfl) (fun ds h => by match ds, h with | [_, _, _], _ => rfl) ?_
  intro W base args ds p hval0 hA0 hsz0
  have hval : ∀ (j : Nat) t v, Try.f9.params[j]? = some t → args[j]? = some v → Value.okWide Try.prog W .any base t v := hval0
  have hA : DataW.TrodAll enc Try.prog W 0 (fun _ => true) true Try.f9.params.toList args.toList ds p := hA0
  have hsz : (DataW.weightsEach Try.prog Try.f9.params.toList ds).all (· ≤ reachBytes) = true := hsz0
  rw [Try.params9] at hA hval hsz
  clear hA0 hval0 hsz0
  obtain ⟨v0, v1, v2, d0, d1, d2, p0, p1, p2, rfl, rfl, rfl, h0, h1, h2⟩ := trodAll_three hA
  obtain ⟨x0, rfl⟩ := okWide_int Try.underlying3 (hval 0 3 v0 rfl rfl)
  obtain ⟨l1, hl1, hr1⟩ := open_puts Try.underlying36 Try.underlying58 rfl (by kernel_rfl) Try.underlying9 (by kernel_rfl) Try.underlying3 (by kernel_rfl) (hval 1 36 v1 rfl rfl) h1
  obtain ⟨x2, rfl⟩ := okWide_int Try.underlying3 (hval 2 3 v2 rfl rfl)
  exact skipRefuses_walk x0 v1 x2 l1 W hl1 hr1

theorem skipRefuses_holds : Rows.SkipRefusesSaid :=
  OpenClaim.holds_of_wide 9 Try.f9 rfl rfl rfl rfl rfl rfl rfl ⟨rfl, rfl, rfl, rfl, rfl⟩ rfl rfl rfl rfl rfl (by kernel_rfl) Try.func9 (by kernel_rfl)
    (of_decide_eq_true (by kernel_rfl)) (by unfold Func.isWrapper; rw [if_neg (of_decide_eq_false (by kernel_rfl))]; exact ⟨rfl, rfl⟩)
    (fun os started H enc _ => skipRefuses_lifted os started H enc)
#print axioms skipRefuses_holds
end Go.Proofs.Ytkoakneibonjhaa
