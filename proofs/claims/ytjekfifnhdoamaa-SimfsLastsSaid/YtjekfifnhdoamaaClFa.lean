/- SimfsLasts holds: for all bytes and picks the law returns true. No condition beyond the given row. -/
import Derived.Test.YtjekfifnhdoamaaLawSa
import Derived.Test.YtjekfifnhdoamaaOpenSf
set_option linter.unusedSimpArgs false
set_option linter.unusedVariables false
set_option linter.unnecessarySimpa false
namespace Go.Proofs.Ytjekfifnhdoamaa
open Go.ChangeShapes Go.WideShapes Go.ChangeAt Go.RowKit Go.Rg Go.St

theorem simfsLasts_own : ownKnob Try.prog.godebug = none := by kernel_rfl
theorem simfsLasts_laid : laidOutB Try.prog = true := by kernel_rfl

set_option maxRecDepth 100000 in
theorem simfsLasts_lifted (os : Os) (started : os.Started) (H : Type) (enc : TypeId × Value → H) :
    ReturnsInHanded {} Try.checked os 10 .any (Rows.simfsLastsSpec.pre6 enc Try.prog Try.f10 Rows.simfsLastsRow.domain false) (Rows.simfsLastsSpec.post enc Try.prog Try.f10 false true false false) := by
  refine law_lifted (C := Try.checked) (bt := 4) simfsLasts_own started (by kernel_rfl) Try.func10
    (ChangeSpec.witness6 (enc := enc) (C := Try.checked) false ⟨#[], #[.slice none 0 0, .slice none 0 0, .slice none 0 0, .slice none 0 0], []⟩ 8 (by kernel_rfl) (by kernel_rfl) (by kernel_rfl) (by kernel_rfl))
    simfsLasts_laid rfl Try.underlying4 rfl (by kernel_rfl) (fun ds h => by match ds, h with | [_, _, _, _], _ => rfl) ?_
  intro W base args ds p hval0 hA0 hsz0
  have hval : ∀ (j : Nat) t v, Try.f10.params[j]? = some t → args[j]? = some v → Value.okWide Try.prog W .any base t v := hval0
  have hA : DataW.TrodAll enc Try.prog W 0 (fun _ => true) true Try.f10.params.toList args.toList ds p := hA0
  have hsz : (DataW.weightsEach Try.prog Try.f10.params.toList ds).all (· ≤ reachBytes) = true := hsz0
  rw [Try.params10] at hA hval hsz
  clear hA0 hval0 hsz0
  obtain ⟨v0, v1, v2, v3, d0, d1, d2, d3, p0, p1, p2, p3, rfl, rfl, rfl, h0, h1, h2, h3⟩ := trodAll_four hA
  obtain ⟨l0, hl0⟩ := open_bytes Try.underlying53 (by kernel_rfl) Try.underlying5 (hval 0 53 v0 rfl rfl) h0
  obtain ⟨l1, hl1⟩ := open_bytes Try.underlying53 (by kernel_rfl) Try.underlying5 (hval 1 53 v1 rfl rfl) h1
  obtain ⟨l2, hl2⟩ := open_picks Try.underlying43 (by kernel_rfl) Try.underlying3 (hval 2 43 v2 rfl rfl) h2
  obtain ⟨l3, hl3⟩ := open_picks Try.underlying43 (by kernel_rfl) Try.underlying3 (hval 3 43 v3 rfl rfl) h3
  exact simfsLasts_walk v0 v1 v2 v3 l0 l1 l2 l3 W hl0 hl1 hl2 hl3

theorem simfsLasts_holds : Rows.SimfsLastsSaid :=
  OpenClaim.holds_of_wide 10 Try.f10 rfl rfl rfl rfl rfl rfl rfl ⟨rfl, rfl, rfl, rfl, rfl⟩ rfl rfl rfl rfl rfl (by kernel_rfl) Try.func10 (by kernel_rfl)
    (of_decide_eq_true (by kernel_rfl)) (by unfold Func.isWrapper; rw [if_neg (of_decide_eq_false (by kernel_rfl))]; exact ⟨rfl, rfl⟩)
    (fun os started H enc _ => simfsLasts_lifted os started H enc)
#print axioms simfsLasts_holds
end Go.Proofs.Ytjekfifnhdoamaa
