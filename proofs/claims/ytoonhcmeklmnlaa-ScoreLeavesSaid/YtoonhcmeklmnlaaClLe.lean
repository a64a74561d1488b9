/- ScoreLeaves holds: for all edits, levels and users the law returns true. No condition beyond the given row. -/
import Derived.Test.YtoonhcmeklmnlaaLawLe
import Derived.Test.YtoonhcmeklmnlaaOpenEd
import Derived.Test.YtoonhcmeklmnlaaLiftU
set_option linter.unusedSimpArgs false
set_option linter.unusedVariables false
set_option linter.unnecessarySimpa false
namespace Go.Proofs.Ytoonhcmeklmnlaa
open Go.ChangeShapes Go.WideShapes Go.ChangeAt Go.RowKit Go.Rg Go.St

theorem scoreLeaves_own : ownKnob Try.prog.godebug = none := by kernel_rfl
theorem scoreLeaves_laid : laidOutB Try.prog = true := by kernel_rfl

set_option maxRecDepth 100000 in
theorem scoreLeaves_lifted (os : Os) (started : os.Started) (H : Type) (enc : TypeId × Value → H) :
    ReturnsInHanded {} Try.checked os 15 .any (Rows.scoreLeavesSpec.pre6 enc Try.prog Try.f15 Rows.scoreLeavesRow.domain false) (Rows.scoreLeavesSpec.post enc Try.prog Try.f15 false true false false) := by
  refine law_lifted (C := Try.checked) (bt := 4) scoreLeaves_own started (by kernel_rfl) Try.func15
    (ChangeSpec.witness6 (enc := enc) (C := Try.checked) false ⟨#[], #[.slice none 0 0, .int .i64 0, .string ByteArray.empty], []⟩ 8 (by kernel_rfl) (by kernel_rfl) (by kernel_rfl) (by kernel_rfl))
    scoreLeaves_laid rfl Try.underlying4 rfl (by kernel_rfl) (fun ds h => by match ds, h with | [_, _, _], _ => rfl) ?_
  intro W base args ds p hval0 hA0 hsz0
  have hval : ∀ (j : Nat) t v, Try.f15.params[j]? = some t → args[j]? = some v → Value.okWide Try.prog W .any base t v := hval0
  have hA : DataW.TrodAll enc Try.prog W 0 (fun _ => true) true Try.f15.params.toList args.toList ds p := hA0
  have hsz : (DataW.weightsEach Try.prog Try.f15.params.toList ds).all (· ≤ reachBytes) = true := hsz0
  rw [Try.params15] at hA hval hsz
  clear hA0 hval0 hsz0
  obtain ⟨v0, v1, v2, d0, d1, d2, p0, p1, p2, rfl, rfl, rfl, h0, h1, h2⟩ := trodAll_three hA
  obtain ⟨l0, hl0, hg0, _⟩ := open_slS (α := EdS) Try.underlying68 (by kernel_rfl) (by omega) (tells_edit (W := W) Try.underlying75 rfl (by kernel_rfl) Try.underlying36 (by kernel_rfl) Try.underlying73 (by kernel_rfl) Try.underlying64 (by kernel_rfl) (tells_gone Try.underlying97 rfl (by kernel_rfl) Try.underlying3 (by kernel_rfl) Try.underlying36 (by kernel_rfl)) (by kernel_rfl) (tells_file Try.underlying80 rfl (by kernel_rfl) (tells_key Try.underlying42 rfl (by kernel_rfl) Try.underlying9 (by kernel_rfl) Try.underlying36 (by kernel_rfl) Try.underlying3 (by kernel_rfl)) (by kernel_rfl) Try.underlying36 (by kernel_rfl) Try.underlying3 (by kernel_rfl)) (by kernel_rfl)) eEdS_length (hval 0 68 v0 rfl rfl) h0
  obtain ⟨x1, rfl⟩ := okWide_int Try.underlying3 (hval 1 3 v1 rfl rfl)
  obtain ⟨x2, rfl⟩ := okWide_string Try.underlying9 (hval 2 9 v2 rfl rfl)
  exact scoreLeaves_walk v0 l0 x1 x2 W hl0 hg0

theorem scoreLeaves_holds : Rows.ScoreLeavesSaid :=
  OpenClaim.holds_of_wide 15 Try.f15 rfl rfl rfl rfl rfl rfl rfl ⟨rfl, rfl, rfl, rfl, rfl⟩ rfl rfl rfl rfl rfl (by kernel_rfl) Try.func15 (by kernel_rfl)
    (of_decide_eq_true (by kernel_rfl)) (by unfold Func.isWrapper; rw [if_neg (of_decide_eq_false (by kernel_rfl))]; exact ⟨rfl, rfl⟩)
    (fun os started H enc _ => scoreLeaves_lifted os started H enc)
#print axioms scoreLeaves_holds
end Go.Proofs.Ytoonhcmeklmnlaa
