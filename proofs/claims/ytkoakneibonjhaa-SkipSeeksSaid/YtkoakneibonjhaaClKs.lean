/- SkipSeeks holds: for all puts, picks and keys the law returns true. No condition beyond the given row. -/
import Derived.Test.YtkoakneibonjhaaLawSk3
import Derived.Test.YtkoakneibonjhaaOpenSk
import Derived.Test.YtkoakneibonjhaaOpen
import Derived.Test.YtkoakneibonjhaaLift
set_option linter.unusedSimpArgs false
set_option linter.unusedVariables false
set_option linter.unnecessarySimpa false
namespace Go.Proofs.Ytkoakneibonjhaa
open Go.ChangeShapes Go.WideShapes Go.ChangeAt Go.RowKit Go.Rg Go.St

theorem skipSeeks_own : ownKnob Try.prog.godebug = none := by kernel_rfl
theorem skipSeeks_laid : laidOutB Try.prog = true := by kernel_rfl

set_option maxRecDepth 100000 in
theorem skipSeeks_lifted (os : Os) (started : os.Started) (H : Type) (enc : TypeId × Value → H) :
    ReturnsInHanded {} Try.checked os 11 .any (Rows.skipSeeksSpec.pre6 enc Try.prog Try.f11 Rows.skipSeeksRow.domain false) (Rows.skipSeeksSpec.post enc Try.prog Try.f11 false true false false) := by
  refine law_lifted (C := Try.checked) (bt := 4) skipSeeks_own started (by kernel_rfl) Try.func11
    (ChangeSpec.witness6 (enc := enc) (C := Try.checked) false ⟨#[], #[.slice none 0 0, .slice none 0 0, .string ByteArray.empty], []⟩ 8 (by kernel_rfl) (by kernel_rfl) (by kernel_rfl) (by kernel_rfl))
    skipSeeks_laid rfl Try.underlying4 rfl (by kernel_rfl) (fun ds h => by match ds, h with | [_, _, _], _ => rfl) ?_
  intro W base args ds p hval0 hA0 hsz0
  have hval : ∀ (j : Nat) t v, Try.f11.params[j]? = some t → args[j]? = some v → Value.okWide Try.prog W .any base t v := hval0
  have hA : DataW.TrodAll enc Try.prog W 0 (fun _ => true) true Try.f11.params.toList args.toList ds p := hA0
  have hsz : (DataW.weightsEach Try.prog Try.f11.params.toList ds).all (· ≤ reachBytes) = true := hsz0
  rw [Try.params11] at hA hval hsz
  clear hA0 hval0 hsz0
  obtain ⟨v0, v1, v2, d0, d1, d2, p0, p1, p2, rfl, rfl, rfl, h0, h1, h2⟩ := trodAll_three hA
  obtain ⟨l0, hl0, hr0⟩ := open_puts Try.underlying36 Try.underlying58 rfl (by kernel_rfl) Try.underlying9 (by kernel_rfl) Try.underlying3 (by kernel_rfl) (hval 0 36 v0 rfl rfl) h0
  obtain ⟨l1, hl1, hr1⟩ := open_ints Try.underlying37 (by kernel_rfl) Try.underlying3 (hval 1 37 v1 rfl rfl) h1
  obtain ⟨x2, rfl⟩ := okWide_string Try.underlying9 (hval 2 9 v2 rfl rfl)
  exact skipSeeks_walk v0 v1 x2 l0 l1 W hl0 hr0 hl1 hr1

theorem skipSeeks_holds : Rows.SkipSeeksSaid :=
  OpenClaim.holds_of_wide 11 Try.f11 rfl rfl rfl rfl rfl rfl rfl ⟨rfl, rfl, rfl, rfl, rfl⟩ rfl rfl rfl rfl rfl (by kernel_rfl) Try.func11 (by kernel_rfl)
    (of_decide_eq_true (by kernel_rfl)) (by unfold Func.isWrapper; rw [if_neg (of_decide_eq_false (by kernel_rfl))]; exact ⟨rfl, rfl⟩)
    (fun os started H enc _ => skipSeeks_lifted os started H enc)
#print axioms skipSeeks_holds
end Go.Proofs.Ytkoakneibonjhaa
