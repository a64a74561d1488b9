/- MemtableSizes holds: for every list of keys and values the law returns true. No condition beyond the given row. -/
import Derived.Test.YtoonhcmeklmnlaaLawMz
import Derived.Test.YtoonhcmeklmnlaaOpenMt
import Derived.Test.YtoonhcmeklmnlaaLift
set_option linter.unusedSimpArgs false
set_option linter.unusedVariables false
set_option linter.unnecessarySimpa false
namespace Go.Proofs.Ytoonhcmeklmnlaa
open Go.ChangeShapes Go.WideShapes Go.ChangeAt Go.RowKit Go.Rg Go.St

theorem memtableSizes_own : ownKnob Try.prog.godebug = none := by kernel_rfl
theorem memtableSizes_laid : laidOutB Try.prog = true := by kernel_rfl

set_option maxRecDepth 100000 in
theorem memtableSizes_lifted (os : Os) (started : os.Started) (H : Type) (enc : TypeId × Value → H) :
    ReturnsInHanded {} Try.checked os 7 .any (Rows.memtableSizesSpec.pre6 enc Try.prog Try.f7 Rows.memtableSizesRow.domain false) (Rows.memtableSizesSpec.post enc Try.prog Try.f7 false true false false) := by
  refine law_lifted (C := Try.checked) (bt := 4) memtableSizes_own started (by kernel_rfl) Try.func7
    (ChangeSpec.witness6 (enc := enc) (C := Try.checked) false ⟨#[], #[.slice none 0 0], []⟩ 8 (by kernel_rfl) (by kernel_rfl) (by kernel_rfl) (by kernel_rfl))
    memtableSizes_laid rfl Try.underlying4 rfl (by kernel_rfl) (fun ds h => by match ds, h with | [_], _ => rfl) ?_
  intro W base args ds p hval0 hA0 hsz0
  have hval : ∀ (j : Nat) t v, Try.f7.params[j]? = some t → args[j]? = some v → Value.okWide Try.prog W .any base t v := hval0
  have hA : DataW.TrodAll enc Try.prog W 0 (fun _ => true) true Try.f7.params.toList args.toList ds p := hA0
  have hsz : (DataW.weightsEach Try.prog Try.f7.params.toList ds).all (· ≤ reachBytes) = true := hsz0
  rw [Try.params7] at hA hval hsz
  clear hA0 hval0 hsz0
  obtain ⟨v0, d0, rfl, rfl, h0⟩ := trodAll_one hA
  obtain ⟨l0, hl0, hok0, hbig0⟩ := open_kvs Try.underlying35 (by kernel_rfl) (tells_kv Try.underlying44 rfl (by kernel_rfl) (tells_key Try.underlying42 rfl (by kernel_rfl) Try.underlying9 (by kernel_rfl) Try.underlying36 (by kernel_rfl) Try.underlying3 (by kernel_rfl)) (by kernel_rfl) Try.underlying9 (by kernel_rfl)) (by kernel_rfl) (hval 0 35 v0 rfl rfl) h0
  have hn0 := hbig0 (List.all_eq_true.2 fun n hn => List.all_eq_true.1 hsz n (DataW.weights_mem_each (j := 0) rfl rfl n hn))
  exact memtableSizes_walk v0 l0 W hl0 hok0 hn0

theorem memtableSizes_holds : Rows.MemtableSizesSaid :=
  OpenClaim.holds_of_wide 7 Try.f7 rfl rfl rfl rfl rfl rfl rfl ⟨rfl, rfl, rfl, rfl, rfl⟩ rfl rfl rfl rfl rfl (by kernel_rfl) Try.func7 (by kernel_rfl)
    (of_decide_eq_true (by kernel_rfl)) (by unfold Func.isWrapper; rw [if_neg (of_decide_eq_false (by kernel_rfl))]; exact ⟨rfl, rfl⟩)
    (fun os started H enc _ => memtableSizes_lifted os started H enc)
#print axioms memtableSizes_holds
end Go.Proofs.Ytoonhcmeklmnlaa
