/- MemtableOrders holds of arguments of bulk at most 1048576: for all keys and values, user and number the law returns true. -/
import Derived.Test.YtoonhcmeklmnlaaLawMo
import Derived.Test.YtoonhcmeklmnlaaOpenMt
import Derived.Test.YtoonhcmeklmnlaaLiftU
set_option linter.unusedSimpArgs false
set_option linter.unusedVariables false
set_option linter.unnecessarySimpa false
namespace Go.Proofs.Ytoonhcmeklmnlaa
open Go.ChangeShapes Go.WideShapes Go.ChangeAt Go.RowKit Go.Rg Go.St

theorem memtableOrders_own : ownKnob Try.prog.godebug = none := by kernel_rfl
theorem memtableOrders_laid : laidOutB Try.prog = true := by kernel_rfl

set_option maxRecDepth 100000 in
theorem memtableOrders_lifted (os : Os) (started : os.Started) (H : Type) (enc : TypeId × Value → H) (F0 : Stop.Interp) :
    ReturnsInHanded {} Try.checked os 6 .any ((Rows.OpenSpec.upto Rows.memtableOrdersSpec).pre6 enc Try.prog Try.f6 Rows.memtableOrdersUptoRow.domain false) (((Rows.OpenSpec.upto Rows.memtableOrdersSpec).at F0).post enc Try.prog Try.f6 false true false false) := by
  refine law_lifted_upto (C := Try.checked) (S := Rows.OpenSpec.upto Rows.memtableOrdersSpec) (k := Rows.uptoSmall) rfl (F := F0) (bt := 4) memtableOrders_own started (by kernel_rfl) Try.func6
    (OpenSpec.witness (enc := enc) (C := Try.checked) (s := Rows.OpenSpec.upto Rows.memtableOrdersSpec) (k := Rows.uptoSmall) rfl false ⟨#[], #[.slice none 0 0, .string ByteArray.empty, .int .u64 0], []⟩ 8 (by kernel_rfl) (by kernel_rfl) (by kernel_rfl) (x := ([.nil, .lit (.string []), .lit (.int .u64 0)], [], [])) (by kernel_rfl) (by kernel_rfl) (by kernel_rfl))
    memtableOrders_laid rfl Try.underlying4 rfl (by kernel_rfl) (fun ds h => by match ds, h with | [_, _, _], _ => rfl) ?_
  intro W base args ds p hval0 hA0 hsz0 hk0
  have hval : ∀ (j : Nat) t v, Try.f6.params[j]? = some t → args[j]? = some v → Value.okWide Try.prog W .any base t v := hval0
  have hA : DataW.TrodAll enc Try.prog W 0 (fun _ => true) true Try.f6.params.toList args.toList ds p := hA0
  have hsz : (DataW.weightsEach Try.prog Try.f6.params.toList ds).all (· ≤ reachBytes) = true := hsz0
  rw [Try.params6] at hA hval hsz
  clear hA0 hval0 hsz0
  obtain ⟨v0, v1, v2, d0, d1, d2, p0, p1, p2, rfl, rfl, rfl, h0, h1, h2⟩ := trodAll_three hA
  obtain ⟨l0, hl0, hok0, hbig0⟩ := open_kvs Try.underlying35 (by kernel_rfl) (tells_kv Try.underlying44 rfl (by kernel_rfl) (tells_key Try.underlying42 rfl (by kernel_rfl) Try.underlying9 (by kernel_rfl) Try.underlying36 (by kernel_rfl) Try.underlying3 (by kernel_rfl)) (by kernel_rfl) Try.underlying9 (by kernel_rfl)) (by kernel_rfl) (hval 0 35 v0 rfl rfl) h0
  have hn0 := hbig0 (List.all_eq_true.2 fun n hn => List.all_eq_true.1 hsz n (DataW.weights_mem_each (j := 0) rfl rfl n hn))
  obtain ⟨x1, rfl⟩ := okWide_string Try.underlying9 (hval 1 9 v1 rfl rfl)
  obtain ⟨x2, rfl⟩ := open_u64 Try.underlying36 (hval 2 36 v2 rfl rfl) h2
  have hb1 := bulk_string Try.underlying9 h1
  have hk : Rows.uptoBulkAll [d0, d1, d2] ≤ 1048576 := of_decide_eq_true hk0
  simp only [Rows.uptoBulkAll] at hk
  exact memtableOrders_walk v0 l0 x1 x2 W hl0 hok0 (by omega)

theorem memtableOrders_holds : Rows.MemtableOrdersUptoSaid :=
  OpenClaim.holds_of_cond 6 Try.f6 rfl rfl rfl rfl rfl rfl rfl ⟨rfl, rfl, rfl, rfl, rfl⟩ rfl rfl rfl rfl rfl (by kernel_rfl) Try.func6 (by kernel_rfl)
    (of_decide_eq_true (by kernel_rfl)) (by unfold Func.isWrapper; rw [if_neg (of_decide_eq_false (by kernel_rfl))]; exact ⟨rfl, rfl⟩)
    (fun os started H enc _ F0 => memtableOrders_lifted os started H enc F0)
#print axioms memtableOrders_holds
end Go.Proofs.Ytoonhcmeklmnlaa
