/- VersionOrders holds: for all lists of files the law returns true. No condition beyond the given row. -/
import Derived.Test.YtoonhcmeklmnlaaLawVo
import Derived.Test.YtoonhcmeklmnlaaOpenVer
import Derived.Test.YtoonhcmeklmnlaaLiftU
set_option linter.unusedSimpArgs false
set_option linter.unusedVariables false
set_option linter.unnecessarySimpa false
namespace Go.Proofs.Ytoonhcmeklmnlaa
open Go.ChangeShapes Go.WideShapes Go.ChangeAt Go.RowKit Go.Rg Go.St

theorem versionOrders_own : ownKnob Try.prog.godebug = none := by kernel_rfl
theorem versionOrders_laid : laidOutB Try.prog = true := by kernel_rfl

set_option maxRecDepth 100000 in
theorem versionOrders_lifted (os : Os) (started : os.Started) (H : Type) (enc : TypeId × Value → H) :
    ReturnsInHanded {} Try.checked os 12 .any (Rows.versionOrdersSpec.pre6 enc Try.prog Try.f12 Rows.versionOrdersRow.domain false) (Rows.versionOrdersSpec.post enc Try.prog Try.f12 false true false false) := by
  refine law_lifted (C := Try.checked) (bt := 4) versionOrders_own started (by kernel_rfl) Try.func12
    (ChangeSpec.witness6 (enc := enc) (C := Try.checked) false ⟨#[], #[.slice none 0 0], []⟩ 8 (by kernel_rfl) (by kernel_rfl) (by kernel_rfl) (by kernel_rfl))
    versionOrders_laid rfl Try.underlying4 rfl (by kernel_rfl) (fun ds h => by match ds, h with | [_], _ => rfl) ?_
  intro W base args ds p hval0 hA0 hsz0
  have hval : ∀ (j : Nat) t v, Try.f12.params[j]? = some t → args[j]? = some v → Value.okWide Try.prog W .any base t v := hval0
  have hA : DataW.TrodAll enc Try.prog W 0 (fun _ => true) true Try.f12.params.toList args.toList ds p := hA0
  have hsz : (DataW.weightsEach Try.prog Try.f12.params.toList ds).all (· ≤ reachBytes) = true := hsz0
  rw [Try.params12] at hA hval hsz
  clear hA0 hval0 hsz0
  obtain ⟨v0, d0, rfl, rfl, h0⟩ := trodAll_one hA
  obtain ⟨l0, hl0, hgood, _⟩ := open_slS (α := File) (sz := 9) Try.underlying64 (by kernel_rfl) (by omega) (tells_file Try.underlying80 rfl (by kernel_rfl) (tells_key Try.underlying42 rfl (by kernel_rfl) Try.underlying9 (by kernel_rfl) Try.underlying36 (by kernel_rfl) Try.underlying3 (by kernel_rfl)) (by kernel_rfl) Try.underlying36 (by kernel_rfl) Try.underlying3 (by kernel_rfl)) eFile_length (hval 0 64 v0 rfl rfl) h0
  exact versionOrders_walk v0 l0 W hl0 (fun f hf => by
    obtain ⟨_, _, _, h1, h2⟩ := hgood f hf
    have a := h1.1
    have b := h2.1
    unfold maxLen at a b
    exact ⟨by omega, by omega⟩)

theorem versionOrders_holds : Rows.VersionOrdersSaid :=
  OpenClaim.holds_of_wide 12 Try.f12 rfl rfl rfl rfl rfl rfl rfl ⟨rfl, rfl, rfl, rfl, rfl⟩ rfl rfl rfl rfl rfl (by kernel_rfl) Try.func12 (by kernel_rfl)
    (of_decide_eq_true (by kernel_rfl)) (by unfold Func.isWrapper; rw [if_neg (of_decide_eq_false (by kernel_rfl))]; exact ⟨rfl, rfl⟩)
    (fun os started H enc _ => versionOrders_lifted os started H enc)
#print axioms versionOrders_holds
end Go.Proofs.Ytoonhcmeklmnlaa
