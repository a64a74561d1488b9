/- The walks of a table that is none. -/
import Derived.Test.YtoonhcmeklmnlaaMt6
set_option linter.unusedSimpArgs false
set_option linter.unusedVariables false
set_option linter.unnecessarySimpa false
namespace Go.Proofs.Ytoonhcmeklmnlaa
open Go.RowKit Go.Rg Go.St

set_option maxRecDepth 100000 in
set_option maxHeartbeats 400000 in
theorem add_nil (k : IKey) (v : ByteArray) (w : World) : Calls Try.prog 26 #[.pointer none, aKey k, .string v] w (IntExt 1 w) := by
  go_enter Try.func26, Try.ntmps26
  go_wp2
  go_ret
  exact ⟨rfl, (Ext.rfl w).al _⟩
set_option maxHeartbeats 400000 in
theorem get_nil (u : ByteArray) (s : Int) (w : World) : Calls Try.prog 25 #[.pointer none, .string u, .int .u64 s] w (fun e w' => e = .returned (.tuple #[.string ByteArray.empty, .int .i64 0]) ∧ Ext w w') := by
  go_enter Try.func25, Try.ntmps25
  go_wp2
  go_ret2
  exact ⟨rfl, Ext.rfl w⟩
set_option maxHeartbeats 400000 in
theorem size_nil (w : World) : Calls Try.prog 27 #[.pointer none] w (IntExt 0 w) := by
  go_enter Try.func27, Try.ntmps27
  go_wp2
  go_ret
  exact ⟨rfl, Ext.rfl w⟩
set_option maxHeartbeats 400000 in
theorem all_nil (w : World) : Calls Try.prog 29 #[.pointer none] w (fun e w' => e = .returned (.slice none 0 0) ∧ Ext w w') := by
  go_enter Try.func29, Try.ntmps29
  go_wp2
  go_ret
  exact ⟨rfl, Ext.rfl w⟩
set_option maxHeartbeats 400000 in
theorem freeze_nil (w : World) : Calls Try.prog 34 #[.pointer none] w (fun e w' => e = .returned (.tuple #[]) ∧ Ext w w') := by
  go_enter Try.func34, Try.ntmps34
  go_wp2
  go_end0
  exact ⟨rfl, Ext.rfl w⟩

/-! ### a table in memory -/
/-- a table, told plainly: its lists, all done; its entries, in the order in which they came -/
structure MT where
  ls : List SK
  es : List (IKey × ByteArray)
  size : Int
  frozen : Bool
def keyT (k : IKey) : ByteArray := ⟨(ordL k.user.data.toList k.seq.toNat k.kind.toNat).toArray⟩
def kmap (M : MT) : List (ByteArray × Value) := M.es.map fun e => (keyT e.1, aKey e.1)
def vmap (M : MT) : List (IKey × Value) := M.es.map fun e => (e.1, .string e.2)
/-- where a table's parts lie -/
structure TLoc where
  tb : Nat
  kb : Nat
  vb : Nat
  lv : Value
  L : Nat → Loc
def strEnc (s : ByteArray) : Value := .string s
def tabC (T : TLoc) (M : MT) : Array Value := #[T.lv, .map (some T.kb), .map (some T.vb), .int .i64 M.size, .bool M.frozen]
def nthK (M : MT) (i : Nat) : SK := M.ls.getD i (SK.new 0)
structure TRep (w : World) (T : TLoc) (M : MT) : Prop where
  tb : w.heap[T.tb]? = some (.cells (tabC T M) 121 (0, 0))
  row : w.ownsRow 0 23 1 T.lv M.ls.length ((List.range M.ls.length).map fun i => .pointer (some ⟨(T.L i).lb, 0, none⟩))
  km : MapB w T.kb strEnc (kmap M)
  vm : MapB w T.vb aKey (vmap M)
  ls : ∀ i, i < M.ls.length → Rep w (T.L i) (nthK M i)
  ap : ∀ i j, i < M.ls.length → j < M.ls.length → i ≠ j → ∀ b, Foot (T.L i) (nthK M i).n b → ¬ Foot (T.L j) (nthK M j).n b
  kv : T.kb ≠ T.vb
  mo : ∀ i, i < M.ls.length → ¬ Foot (T.L i) (nthK M i).n T.kb ∧ ¬ Foot (T.L i) (nthK M i).n T.vb
def TFoot (T : TLoc) (M : MT) (b : Nat) : Prop := b = T.tb ∨ b = T.kb ∨ b = T.vb ∨ T.lv.ownBlock = some b ∨ ∃ i, i < M.ls.length ∧ Foot (T.L i) (nthK M i).n b
def MT.new : MT := ⟨[], [], 0, false⟩

set_option maxHeartbeats 400000 in
theorem tnew_in (w : World) : Calls Try.prog 30 #[] w (fun e w' => ∃ T, e = .returned (.pointer (some ⟨T.tb, 0, none⟩)) ∧ TRep w' T MT.new ∧ Ext w w' ∧ ∀ b, TFoot T MT.new b → w.heap.size ≤ b) := by
  have hmm := @run_makeMap Try.prog
  go_enter Try.func30, Try.ntmps30
  go_wp2
  go_ret
  have s1 : (w.alloc (.map #[] 0)).heap.size = w.heap.size + 1 := by show (w.heap.push _).size = _; simp
  have s2 : ((w.alloc (.map #[] 0)).alloc (.map #[] 0)).heap.size = w.heap.size + 1 + 1 := by show ((w.heap.push _).push _).size = _; simp
  refine ⟨⟨w.heap.size + 1 + 1, w.heap.size, w.heap.size + 1, .slice none 0 0, fun _ => newL w⟩, rfl, ⟨?_, World.ownsRow_nil _ _ _ _, ?_, ?_, fun i hi => absurd hi (Nat.not_lt_zero _), fun i j hi => absurd hi (Nat.not_lt_zero _), Nat.ne_of_lt (Nat.lt_succ_self _), fun i hi => absurd hi (Nat.not_lt_zero _)⟩, (((Ext.rfl w).al _).al _).al _, fun b hb => ?_⟩
  · have := heap_alloc_new ((w.alloc (.map #[] 0)).alloc (.map #[] 0)) (.cells #[.slice none 0 0, .map (some w.heap.size), .map (some (w.heap.size + 1)), .int .i64 0, .bool false] 121)
    rw [s2] at this
    exact this
  · refine (mapB_new w strEnc).go ?_
    exact (((Ext.rfl (w.alloc (.map #[] 0))).al _).al _).block _ (by rw [s1]; omega)
  · have := mapB_new (w.alloc (.map #[] 0)) aKey
    rw [s1] at this
    refine this.go ?_
    exact ((Ext.rfl ((w.alloc (.map #[] 0)).alloc (.map #[] 0))).al _).block _ (by rw [s2]; omega)
  · rcases hb with rfl | rfl | rfl | hb | ⟨i, hi, _⟩
    · simp only; omega
    · simp only; omega
    · simp only; omega
    · simp [Value.ownBlock] at hb
    · exact absurd hi (Nat.not_lt_zero _)
end Go.Proofs.Ytoonhcmeklmnlaa
