/- MemtablePlays holds of arguments of bulk at most 1048576: for every script of calls the law returns true. -/
import Derived.Test.YtoonhcmeklmnlaaLawMp
import Derived.Test.YtoonhcmeklmnlaaOpenB
set_option linter.unusedSimpArgs false
set_option linter.unusedVariables false
set_option linter.unnecessarySimpa false
namespace Go.Proofs.Ytoonhcmeklmnlaa
open Go.ChangeShapes Go.WideShapes Go.ChangeAt Go.RowKit Go.Rg Go.St

theorem memtablePlays_own : ownKnob Try.prog.godebug = none := by kernel_rfl
theorem memtablePlays_laid : laidOutB Try.prog = true := by kernel_rfl

set_option maxRecDepth 100000 in
theorem memtablePlays_lifted (os : Os) (started : os.Started) (H : Type) (enc : TypeId × Value → H) (F0 : Stop.Interp) :
    ReturnsInHanded {} Try.checked os 8 .any ((Rows.OpenSpec.upto Rows.memtablePlaysSpec).pre6 enc Try.prog Try.f8 Rows.memtablePlaysUptoRow.domain false) (((Rows.OpenSpec.upto Rows.memtablePlaysSpec).at F0).post enc Try.prog Try.f8 false true false false) := by
  refine law_lifted_upto (C := Try.checked) (S := Rows.OpenSpec.upto Rows.memtablePlaysSpec) (k := Rows.uptoSmall) rfl (F := F0) (bt := 4) memtablePlays_own started (by kernel_rfl) Try.func8
    (OpenSpec.witness (enc := enc) (C := Try.checked) (s := Rows.OpenSpec.upto Rows.memtablePlaysSpec) (k := Rows.uptoSmall) rfl false ⟨#[], #[.slice none 0 0], []⟩ 8 (by kernel_rfl) (by kernel_rfl) (by kernel_rfl) (x := ([.nil], [], [])) (by kernel_rfl) (by kernel_rfl) (by kernel_rfl))
    memtablePlays_laid rfl Try.underlying4 rfl (by kernel_rfl) (fun ds h => by match ds, h with | [_], _ => rfl) ?_
  intro W base args ds p hval0 hA0 hsz0 hk0
  have hval : ∀ (j : Nat) t v, Try.f8.params[j]? = some t → args[j]? = some v → Value.okWide Try.prog W .any base t v := hval0
  have hA : DataW.TrodAll enc Try.prog W 0 (fun _ => true) true Try.f8.params.toList args.toList ds p := hA0
  have hsz : (DataW.weightsEach Try.prog Try.f8.params.toList ds).all (· ≤ reachBytes) = true := hsz0
  rw [Try.params8] at hA hval hsz
  clear hA0 hval0 hsz0
  obtain ⟨v0, d0, rfl, rfl, h0⟩ := trodAll_one hA
  obtain ⟨l0, hl0, hok0, hbig0⟩ := open_calls Try.underlying54 (by kernel_rfl) (tellsb_call Try.underlying59 rfl (tells_call Try.underlying59 rfl (by kernel_rfl) (tells_key Try.underlying42 rfl (by kernel_rfl) Try.underlying9 (by kernel_rfl) Try.underlying36 (by kernel_rfl) Try.underlying3 (by kernel_rfl)) (by kernel_rfl) Try.underlying9 (by kernel_rfl) Try.underlying3 (by kernel_rfl)) (tellsb_key Try.underlying42 rfl Try.underlying9 (by kernel_rfl) (tells_key Try.underlying42 rfl (by kernel_rfl) Try.underlying9 (by kernel_rfl) Try.underlying36 (by kernel_rfl) Try.underlying3 (by kernel_rfl))) (by kernel_rfl)) (hval 0 54 v0 rfl rfl) h0
  have hk : Rows.uptoBulkAll [d0] ≤ 1048576 := of_decide_eq_true hk0
  simp only [Rows.uptoBulkAll] at hk
  exact memtablePlays_walk v0 l0 W hl0 fun x hx => ⟨hok0 x hx, by have := hbig0 x hx; omega⟩

theorem memtablePlays_holds : Rows.MemtablePlaysUptoSaid :=
  OpenClaim.holds_of_cond 8 Try.f8 rfl rfl rfl rfl rfl rfl rfl ⟨rfl, rfl, rfl, rfl, rfl⟩ rfl rfl rfl rfl rfl (by kernel_rfl) Try.func8 (by kernel_rfl)
    (of_decide_eq_true (by kernel_rfl)) (by unfold Func.isWrapper; rw [if_neg (of_decide_eq_false (by kernel_rfl))]; exact ⟨rfl, rfl⟩)
    (fun os started H enc _ F0 => memtablePlays_lifted os started H enc F0)
#print axioms memtablePlays_holds
end Go.Proofs.Ytoonhcmeklmnlaa
