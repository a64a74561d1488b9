/- ScoreOrders holds: for all floats and every list of floats the law returns true. No condition beyond the given row. -/
import Derived.Test.YtkoakneibonjhaaLawSc
import Derived.Test.YtkoakneibonjhaaOpen
set_option linter.unusedSimpArgs false
set_option linter.unusedVariables false
set_option linter.unnecessarySimpa false
namespace Go.Proofs.Ytkoakneibonjhaa
open Go.ChangeShapes Go.WideShapes Go.ChangeAt Go.RowKit Go.Rg Go.St

theorem scoreOrders_own : ownKnob Try.prog.godebug = none := by kernel_rfl
theorem scoreOrders_laid : laidOutB Try.prog = true := by kernel_rfl

set_option maxRecDepth 100000 in
theorem scoreOrders_lifted (os : Os) (started : os.Started) (H : Type) (enc : TypeId × Value → H) :
    ReturnsInHanded {} Try.checked os 3 .any (Rows.scoreOrdersSpec.pre6 enc Try.prog Try.f3 Rows.scoreOrdersRow.domain false) (Rows.scoreOrdersSpec.post enc Try.prog Try.f3 false true false false) := by
  refine law_lifted (C := Try.checked) (bt := 4) scoreOrders_own started (by kernel_rfl) Try.func3
    (ChangeSpec.witness6 (enc := enc) (C := Try.checked) false ⟨#[], #[.float .f64 0, .float .f64 0, .float .f64 0, .slice none 0 0], []⟩ 8 (by kernel_rfl) (by kernel_rfl) (by kernel_rfl) (by kernel_rfl))
    scoreOrders_laid rfl Try.underlying4 rfl (by kernel_rfl) (fun ds h => by match ds, h with | [_, _, _, _], _ => rfl) ?_
  intro W base args ds p hval0 hA0 hsz0
  have hval : ∀ (j : Nat) t v, Try.f3.params[j]? = some t → args[j]? = some v → Value.okWide Try.prog W .any base t v := hval0
  have hA : DataW.TrodAll enc Try.prog W 0 (fun _ => true) true Try.f3.params.toList args.toList ds p := hA0
  have hsz : (DataW.weightsEach Try.prog Try.f3.params.toList ds).all (· ≤ reachBytes) = true := hsz0
  rw [Try.params3] at hA hval hsz
  clear hA0 hval0 hsz0
  obtain ⟨v0, v1, v2, v3, d0, d1, d2, d3, p0, p1, p2, p3, rfl, rfl, rfl, h0, h1, h2, h3⟩ := trodAll_four hA
  obtain ⟨x0, rfl⟩ := okWide_float Try.underlying22 (hval 0 22 v0 rfl rfl)
  obtain ⟨x1, rfl⟩ := okWide_float Try.underlying22 (hval 1 22 v1 rfl rfl)
  obtain ⟨x2, rfl⟩ := okWide_float Try.underlying22 (hval 2 22 v2 rfl rfl)
  obtain ⟨l3, hl3⟩ := open_floats Try.underlying23 (by kernel_rfl) Try.underlying22 (hval 3 23 v3 rfl rfl) h3
  exact scoreOrders_walk x0 x1 x2 v3 l3 W hl3

theorem scoreOrders_holds : Rows.ScoreOrdersSaid :=
  OpenClaim.holds_of_wide 3 Try.f3 rfl rfl rfl rfl rfl rfl rfl ⟨rfl, rfl, rfl, rfl, rfl⟩ rfl rfl rfl rfl rfl (by kernel_rfl) Try.func3 (by kernel_rfl)
    (of_decide_eq_true (by kernel_rfl)) (by unfold Func.isWrapper; rw [if_neg (of_decide_eq_false (by kernel_rfl))]; exact ⟨rfl, rfl⟩)
    (fun os started H enc _ => scoreOrders_lifted os started H enc)
#print axioms scoreOrders_holds
end Go.Proofs.Ytkoakneibonjhaa
