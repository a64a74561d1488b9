/- MemtableStays holds of arguments of bulk at most 1048576: for all keys and values, user and number the law returns true. -/
import Derived.Test.YtoonhcmeklmnlaaLawMs
import Derived.Test.YtoonhcmeklmnlaaOpenMt
import Derived.Test.YtoonhcmeklmnlaaLiftU
set_option linter.unusedSimpArgs false
set_option linter.unusedVariables false
set_option linter.unnecessarySimpa false
namespace Go.Proofs.Ytoonhcmeklmnlaa
open Go.ChangeShapes Go.WideShapes Go.ChangeAt Go.RowKit Go.Rg Go.St

theorem memtableStays_own : ownKnob Try.prog.godebug = none := by kernel_rfl
theorem memtableStays_laid : laidOutB Try.prog = true := by kernel_rfl

set_option maxRecDepth 100000 in
theorem memtableStays_lifted (os : Os) (started : os.Started) (H : Type) (enc : TypeId × Value → H) (F0 : Stop.Interp) :
    ReturnsInHanded {} Try.checked os 5 .any ((Rows.OpenSpec.upto Rows.memtableStaysSpec).pre6 enc Try.prog Try.f5 Rows.memtableStaysUptoRow.domain false) (((Rows.OpenSpec.upto Rows.memtableStaysSpec).at F0).post enc Try.prog Try.f5 false true false false) := by
  refine law_lifted_upto (C := Try.checked) (S := Rows.OpenSpec.upto Rows.memtableStaysSpec) (k := Rows.uptoSmall) rfl (F := F0) (bt := 4) memtableStays_own started (by kernel_rfl) Try.func5
    (OpenSpec.witness (enc := enc) (C := Try.checked) (s := Rows.OpenSpec.upto Rows.memtableStaysSpec) (k := Rows.uptoSmall) rfl false ⟨#[], #[.slice none 0 0, .slice none 0 0, .string ByteArray.empty, .int .u64 0], []⟩ 8 (by kernel_rfl) (by kernel_rfl) (by kernel_rfl) (x := ([.nil, .nil, .lit (.string []), .lit (.int .u64 0)], [], [])) (by kernel_rfl) (by kernel_rfl) (by kernel_rfl))
    memtableStays_laid rfl Try.underlying4 rfl (by kernel_rfl) (fun ds h => by match ds, h with | [_, _, _, _], _ => rfl) ?_
  intro W base args ds p hval0 hA0 hsz0 hk0
  have hval : ∀ (j : Nat) t v, Try.f5.params[j]? = some t → args[j]? = some v → Value.okWide Try.prog W .any base t v := hval0
  have hA : DataW.TrodAll enc Try.prog W 0 (fun _ => true) true Try.f5.params.toList args.toList ds p := hA0
  have hsz : (DataW.weightsEach Try.prog Try.f5.params.toList ds).all (· ≤ reachBytes) = true := hsz0
  rw [Try.params5] at hA hval hsz
  clear hA0 hval0 hsz0
  obtain ⟨v0, v1, v2, v3, d0, d1, d2, d3, p0, p1, p2, p3, rfl, rfl, rfl, h0, h1, h2, h3⟩ := trodAll_four hA
  obtain ⟨l0, hl0, hok0, hbig0⟩ := open_kvs Try.underlying35 (by kernel_rfl) (tells_kv Try.underlying44 rfl (by kernel_rfl) (tells_key Try.underlying42 rfl (by kernel_rfl) Try.underlying9 (by kernel_rfl) Try.underlying36 (by kernel_rfl) Try.underlying3 (by kernel_rfl)) (by kernel_rfl) Try.underlying9 (by kernel_rfl)) (by kernel_rfl) (hval 0 35 v0 rfl rfl) h0
  have hn0 := hbig0 (List.all_eq_true.2 fun n hn => List.all_eq_true.1 hsz n (DataW.weights_mem_each (j := 0) rfl rfl n hn))
  obtain ⟨l1, hl1, hok1, hbig1⟩ := open_kvs Try.underlying35 (by kernel_rfl) (tells_kv Try.underlying44 rfl (by kernel_rfl) (tells_key Try.underlying42 rfl (by kernel_rfl) Try.underlying9 (by kernel_rfl) Try.underlying36 (by kernel_rfl) Try.underlying3 (by kernel_rfl)) (by kernel_rfl) Try.underlying9 (by kernel_rfl)) (by kernel_rfl) (hval 1 35 v1 rfl rfl) h1
  have hn1 := hbig1 (List.all_eq_true.2 fun n hn => List.all_eq_true.1 hsz n (DataW.weights_mem_each (j := 1) rfl rfl n hn))
  obtain ⟨x2, rfl⟩ := okWide_string Try.underlying9 (hval 2 9 v2 rfl rfl)
  obtain ⟨x3, rfl⟩ := open_u64 Try.underlying36 (hval 3 36 v3 rfl rfl) h3
  have hb2 := bulk_string Try.underlying9 h2
  have hk : Rows.uptoBulkAll [d0, d1, d2, d3] ≤ 1048576 := of_decide_eq_true hk0
  simp only [Rows.uptoBulkAll] at hk
  exact memtableStays_walk v0 v1 l0 l1 x2 x3 W hl0 hl1 hok0 hok1 (by omega) hn1

theorem memtableStays_holds : Rows.MemtableStaysUptoSaid :=
  OpenClaim.holds_of_cond 5 Try.f5 rfl rfl rfl rfl rfl rfl rfl ⟨rfl, rfl, rfl, rfl, rfl⟩ rfl rfl rfl rfl rfl (by kernel_rfl) Try.func5 (by kernel_rfl)
    (of_decide_eq_true (by kernel_rfl)) (by unfold Func.isWrapper; rw [if_neg (of_decide_eq_false (by kernel_rfl))]; exact ⟨rfl, rfl⟩)
    (fun os started H enc _ F0 => memtableStays_lifted os started H enc F0)
#print axioms memtableStays_holds
end Go.Proofs.Ytoonhcmeklmnlaa
