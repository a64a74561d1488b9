/- SnapsPlays holds: for all scripts the law returns true. No condition beyond the given row. -/
import Derived.Test.YtjekfifnhdoamaaLawSp
import Derived.Test.YtjekfifnhdoamaaLiftU
set_option linter.unusedSimpArgs false
set_option linter.unusedVariables false
set_option linter.unnecessarySimpa false
namespace Go.Proofs.Ytjekfifnhdoamaa
open Go.ChangeShapes Go.WideShapes Go.ChangeAt Go.RowKit Go.Rg Go.St

theorem snapsPlays_own : ownKnob Try.prog.godebug = none := by kernel_rfl
theorem snapsPlays_laid : laidOutB Try.prog = true := by kernel_rfl

set_option maxRecDepth 100000 in
theorem snapsPlays_lifted (os : Os) (started : os.Started) (H : Type) (enc : TypeId × Value → H) :
    ReturnsInHanded {} Try.checked os 4 .any (Rows.snapsPlaysSpec.pre6 enc Try.prog Try.f4 Rows.snapsPlaysRow.domain false) (Rows.snapsPlaysSpec.post enc Try.prog Try.f4 false true false false) := by
  refine law_lifted (C := Try.checked) (bt := 4) snapsPlays_own started (by kernel_rfl) Try.func4
    (ChangeSpec.witness6 (enc := enc) (C := Try.checked) false ⟨#[], #[.slice none 0 0], []⟩ 8 (by kernel_rfl) (by kernel_rfl) (by kernel_rfl) (by kernel_rfl))
    snapsPlays_laid rfl Try.underlying4 rfl (by kernel_rfl) (fun ds h => by match ds, h with | [_], _ => rfl) ?_
  intro W base args ds p hval0 hA0 hsz0
  have hval : ∀ (j : Nat) t v, Try.f4.params[j]? = some t → args[j]? = some v → Value.okWide Try.prog W .any base t v := hval0
  have hA : DataW.TrodAll enc Try.prog W 0 (fun _ => true) true Try.f4.params.toList args.toList ds p := hA0
  have hsz : (DataW.weightsEach Try.prog Try.f4.params.toList ds).all (· ≤ reachBytes) = true := hsz0
  rw [Try.params4] at hA hval hsz
  clear hA0 hval0 hsz0
  obtain ⟨v0, d0, rfl, rfl, h0⟩ := trodAll_one hA
  obtain ⟨l0, hl0, _, hsz1⟩ := open_slS (α := SCall) (sz := 3) Try.underlying23 (by kernel_rfl) (by omega) (tells_scall Try.underlying32 rfl (by kernel_rfl) Try.underlying30 (by kernel_rfl) Try.underlying3 (by kernel_rfl)) eSCall_length (hval 0 23 v0 rfl rfl) h0
  have hb : Try.prog.bytesOf 32 = 24 := by kernel_rfl
  rw [hb] at hsz1
  have hlen := hsz1 (List.all_eq_true.2 fun n hn => List.all_eq_true.1 hsz n (DataW.weights_mem_each (j := 0) rfl rfl n hn))
  exact snapsPlays_walk v0 l0 W hl0 (by omega)

theorem snapsPlays_holds : Rows.SnapsPlaysSaid :=
  OpenClaim.holds_of_wide 4 Try.f4 rfl rfl rfl rfl rfl rfl rfl ⟨rfl, rfl, rfl, rfl, rfl⟩ rfl rfl rfl rfl rfl (by kernel_rfl) Try.func4 (by kernel_rfl)
    (of_decide_eq_true (by kernel_rfl)) (by unfold Func.isWrapper; rw [if_neg (of_decide_eq_false (by kernel_rfl))]; exact ⟨rfl, rfl⟩)
    (fun os started H enc _ => snapsPlays_lifted os started H enc)
#print axioms snapsPlays_holds
end Go.Proofs.Ytjekfifnhdoamaa
