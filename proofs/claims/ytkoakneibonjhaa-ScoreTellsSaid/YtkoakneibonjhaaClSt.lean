/- ScoreTells holds: for every Version, trigger and list of targets the law returns true. No condition beyond the given row. -/
import Derived.Test.YtkoakneibonjhaaLawSc
import Derived.Test.YtkoakneibonjhaaOpen
set_option linter.unusedSimpArgs false
set_option linter.unusedVariables false
set_option linter.unnecessarySimpa false
namespace Go.Proofs.Ytkoakneibonjhaa
open Go.ChangeShapes Go.WideShapes Go.ChangeAt Go.RowKit Go.Rg Go.St

theorem scoreTells_own : ownKnob Try.prog.godebug = none := by kernel_rfl
theorem scoreTells_laid : laidOutB Try.prog = true := by kernel_rfl

set_option maxRecDepth 100000 in
theorem scoreTells_lifted (os : Os) (started : os.Started) (H : Type) (enc : TypeId × Value → H) :
    ReturnsInHanded {} Try.checked os 5 .any (Rows.scoreTellsSpec.pre6 enc Try.prog Try.f5 Rows.scoreTellsRow.domain false) (Rows.scoreTellsSpec.post enc Try.prog Try.f5 false true false false) := by
  refine law_lifted (C := Try.checked) (bt := 4) scoreTells_own started (by kernel_rfl) Try.func5
    (ChangeSpec.witness6 (enc := enc) (C := Try.checked) false ⟨#[], #[.agg #[.slice none 0 0, .slice none 0 0, .slice none 0 0, .slice none 0 0], .float .f64 0, .slice none 0 0], []⟩ 8 (by kernel_rfl) (by kernel_rfl) (by kernel_rfl) (by kernel_rfl))
    scoreTells_laid rfl Try.underlying4 rfl (by kernel_rfl) (fun ds h => by match ds, h with | [_, _, _], _ => rfl) ?_
  intro W base args ds p hval0 hA0 hsz0
  have hval : ∀ (j : Nat) t v, Try.f5.params[j]? = some t → args[j]? = some v → Value.okWide Try.prog W .any base t v := hval0
  have hA : DataW.TrodAll enc Try.prog W 0 (fun _ => true) true Try.f5.params.toList args.toList ds p := hA0
  have hsz : (DataW.weightsEach Try.prog Try.f5.params.toList ds).all (· ≤ reachBytes) = true := hsz0
  rw [Try.params5] at hA hval hsz
  clear hA0 hval0 hsz0
  obtain ⟨v0, v1, v2, d0, d1, d2, p0, p1, p2, rfl, rfl, rfl, h0, h1, h2⟩ := trodAll_three hA
  obtain ⟨cs0, rfl⟩ := open_agg Try.underlying32 (hval 0 32 v0 rfl rfl)
  obtain ⟨fuel0, hf0⟩ := h0
  obtain ⟨a0, a1, a2, a3, V0, hcs0, s0, s1, s2, s3, hgood0⟩ := ver_of_trod Try.underlying32 rfl (by kernel_rfl) Try.underlying30 (by kernel_rfl) (by kernel_rfl) Try.underlying29 (by kernel_rfl) (tells_file Try.underlying93 rfl (by kernel_rfl) (tells_key Try.underlying91 rfl (by kernel_rfl) Try.underlying9 (by kernel_rfl) Try.underlying89 (by kernel_rfl) Try.underlying3 (by kernel_rfl)) (by kernel_rfl) Try.underlying89 (by kernel_rfl) Try.underlying3 (by kernel_rfl)) hf0
  obtain rfl : cs0 = #[a0, a1, a2, a3] := by apply Array.toList_inj.1; simpa [Value.cells] using hcs0
  obtain ⟨x1, rfl⟩ := okWide_float Try.underlying22 (hval 1 22 v1 rfl rfl)
  obtain ⟨l2, hl2⟩ := open_floats Try.underlying23 (by kernel_rfl) Try.underlying22 (hval 2 23 v2 rfl rfl) h2
  exact scoreTells_walk a0 a1 a2 a3 V0 x1 v2 l2 W ⟨s0, s1, s2, s3⟩ hl2

theorem scoreTells_holds : Rows.ScoreTellsSaid :=
  OpenClaim.holds_of_wide 5 Try.f5 rfl rfl rfl rfl rfl rfl rfl ⟨rfl, rfl, rfl, rfl, rfl⟩ rfl rfl rfl rfl rfl (by kernel_rfl) Try.func5 (by kernel_rfl)
    (of_decide_eq_true (by kernel_rfl)) (by unfold Func.isWrapper; rw [if_neg (of_decide_eq_false (by kernel_rfl))]; exact ⟨rfl, rfl⟩)
    (fun os started H enc _ => scoreTells_lifted os started H enc)
#print axioms scoreTells_holds
end Go.Proofs.Ytkoakneibonjhaa
