/- ScoreGrows holds: for all edits, triggers and lists of targets the law returns true. No condition beyond the given row. -/
import Derived.Test.YtoonhcmeklmnlaaLawGr
import Derived.Test.YtoonhcmeklmnlaaOpenEd
import Derived.Test.YtoonhcmeklmnlaaLiftU
set_option linter.unusedSimpArgs false
set_option linter.unusedVariables false
set_option linter.unnecessarySimpa false
namespace Go.Proofs.Ytoonhcmeklmnlaa
open Go.ChangeShapes Go.WideShapes Go.ChangeAt Go.RowKit Go.Rg Go.St

theorem scoreGrows_own : ownKnob Try.prog.godebug = none := by kernel_rfl
theorem scoreGrows_laid : laidOutB Try.prog = true := by kernel_rfl

set_option maxRecDepth 100000 in
theorem scoreGrows_lifted (os : Os) (started : os.Started) (H : Type) (enc : TypeId × Value → H) :
    ReturnsInHanded {} Try.checked os 14 .any (Rows.scoreGrowsSpec.pre6 enc Try.prog Try.f14 Rows.scoreGrowsRow.domain false) (Rows.scoreGrowsSpec.post enc Try.prog Try.f14 false true false false) := by
  refine law_lifted (C := Try.checked) (bt := 4) scoreGrows_own started (by kernel_rfl) Try.func14
    (ChangeSpec.witness6 (enc := enc) (C := Try.checked) false ⟨#[], #[.slice none 0 0, .float .f64 0, .slice none 0 0], []⟩ 8 (by kernel_rfl) (by kernel_rfl) (by kernel_rfl) (by kernel_rfl))
    scoreGrows_laid rfl Try.underlying4 rfl (by kernel_rfl) (fun ds h => by match ds, h with | [_, _, _], _ => rfl) ?_
  intro W base args ds p hval0 hA0 hsz0
  have hval : ∀ (j : Nat) t v, Try.f14.params[j]? = some t → args[j]? = some v → Value.okWide Try.prog W .any base t v := hval0
  have hA : DataW.TrodAll enc Try.prog W 0 (fun _ => true) true Try.f14.params.toList args.toList ds p := hA0
  have hsz : (DataW.weightsEach Try.prog Try.f14.params.toList ds).all (· ≤ reachBytes) = true := hsz0
  rw [Try.params14] at hA hval hsz
  clear hA0 hval0 hsz0
  obtain ⟨v0, v1, v2, d0, d1, d2, p0, p1, p2, rfl, rfl, rfl, h0, h1, h2⟩ := trodAll_three hA
  obtain ⟨l0, hl0, hg0, _⟩ := open_slS (α := EdS) Try.underlying68 (by kernel_rfl) (by omega) (tells_edit (W := W) Try.underlying75 rfl (by kernel_rfl) Try.underlying36 (by kernel_rfl) Try.underlying73 (by kernel_rfl) Try.underlying64 (by kernel_rfl) (tells_gone Try.underlying97 rfl (by kernel_rfl) Try.underlying3 (by kernel_rfl) Try.underlying36 (by kernel_rfl)) (by kernel_rfl) (tells_file Try.underlying80 rfl (by kernel_rfl) (tells_key Try.underlying42 rfl (by kernel_rfl) Try.underlying9 (by kernel_rfl) Try.underlying36 (by kernel_rfl) Try.underlying3 (by kernel_rfl)) (by kernel_rfl) Try.underlying36 (by kernel_rfl) Try.underlying3 (by kernel_rfl)) (by kernel_rfl)) eEdS_length (hval 0 68 v0 rfl rfl) h0
  obtain ⟨x1, rfl⟩ := okWide_float Try.underlying89 (hval 1 89 v1 rfl rfl)
  obtain ⟨l2, hl2⟩ := open_floats Try.underlying90 (by kernel_rfl) Try.underlying89 (hval 2 90 v2 rfl rfl) h2
  exact scoreGrows_walk v0 l0 x1 v2 l2 W hl0 hg0 hl2

theorem scoreGrows_holds : Rows.ScoreGrowsSaid :=
  OpenClaim.holds_of_wide 14 Try.f14 rfl rfl rfl rfl rfl rfl rfl ⟨rfl, rfl, rfl, rfl, rfl⟩ rfl rfl rfl rfl rfl (by kernel_rfl) Try.func14 (by kernel_rfl)
    (of_decide_eq_true (by kernel_rfl)) (by unfold Func.isWrapper; rw [if_neg (of_decide_eq_false (by kernel_rfl))]; exact ⟨rfl, rfl⟩)
    (fun os started H enc _ => scoreGrows_lifted os started H enc)
#print axioms scoreGrows_holds
end Go.Proofs.Ytoonhcmeklmnlaa
