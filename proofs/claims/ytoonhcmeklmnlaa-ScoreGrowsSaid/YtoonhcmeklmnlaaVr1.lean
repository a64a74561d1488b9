/- What is wrong with a key, a file, an edit: the program's walks, and the document's. -/
import Derived.Test.YtoonhcmeklmnlaaIn2
import Derived.Test.YtoonhcmeklmnlaaShelf
set_option linter.unusedSimpArgs false
set_option linter.unusedVariables false
set_option linter.unnecessarySimpa false
namespace Go.Proofs.Ytoonhcmeklmnlaa
open Go.RowKit Go.Rg Go.St

abbrev vKey (k : IKey) : Value := .agg #[.string k.user, .int .u64 k.seq, .int .i64 k.kind]
def IntV (n : Int) (w : World) (e : Ending) (w' : World) : Prop := e = .returned (.int .i64 n) ∧ Ext w w'

/-! ### levels and numbers -/
def placeC (l n : Int) : Int := if l < 0 ∨ 3 < l then 130 else if n < 1 ∨ 1099511627776 < n then 132 else 0
set_option maxHeartbeats 1000000 in
theorem place_in (l n : Int) (w : World) : Calls Try.prog 94 #[.int .i64 l, .int .u64 n] w (IntV (placeC l n) w) := by
  unfold placeC
  have hcase : l < 0 ∨ (¬ l < 0 ∧ 4 ≤ l) ∨ (¬ l < 0 ∧ ¬ 4 ≤ l ∧ n < 1) ∨ (¬ l < 0 ∧ ¬ 4 ≤ l ∧ ¬ n < 1 ∧ 1099511627776 < n) ∨ (¬ l < 0 ∧ ¬ 4 ≤ l ∧ ¬ n < 1 ∧ ¬ 1099511627776 < n) := by omega
  rcases hcase with h1 | ⟨h1, h2⟩ | ⟨h1, h2, h3⟩ | ⟨h1, h2, h3, h4⟩ | ⟨h1, h2, h3, h4⟩
  · rw [if_pos (by omega)]
    have d1 : decide (l < 0) = true := decide_eq_true h1
    go_enter Try.func94, Try.ntmps94
    go_wp2
    go_ret
    exact ⟨rfl, Ext.rfl w⟩
  · rw [if_pos (by omega)]
    have d1 : decide (l < 0) = false := decide_eq_false h1
    have d2 : decide (4 ≤ l) = true := decide_eq_true h2
    go_enter Try.func94, Try.ntmps94
    go_wp2
    go_ret
    exact ⟨rfl, Ext.rfl w⟩
  all_goals
    rw [if_neg (by omega)]
    have d1 : decide (l < 0) = false := decide_eq_false h1
    have d2 : decide (4 ≤ l) = false := decide_eq_false h2
  · rw [if_pos (by omega)]
    have d3 : decide (n < 1) = true := decide_eq_true h3
    go_enter Try.func94, Try.ntmps94
    go_wp2
    go_ret
    exact ⟨rfl, Ext.rfl w⟩
  · rw [if_pos (by omega)]
    have d3 : decide (n < 1) = false := decide_eq_false h3
    have d4 : decide (1099511627776 < n) = true := decide_eq_true h4
    go_enter Try.func94, Try.ntmps94
    go_wp2
    go_ret
    exact ⟨rfl, Ext.rfl w⟩
  · rw [if_neg (by omega)]
    have d3 : decide (n < 1) = false := decide_eq_false h3
    have d4 : decide (1099511627776 < n) = false := decide_eq_false h4
    go_enter Try.func94, Try.ntmps94
    go_wp2
    go_ret
    exact ⟨rfl, Ext.rfl w⟩
set_option maxHeartbeats 1000000 in
theorem rplace_same (l n : Int) (w : World) : Calls Try.prog 103 #[.int .i64 l, .int .u64 n] w (fun e w' => e = .returned (.int .i64 (placeC l n)) ∧ w' = w) := by
  unfold placeC
  have hcase : l < 0 ∨ (¬ l < 0 ∧ 4 ≤ l) ∨ (¬ l < 0 ∧ ¬ 4 ≤ l ∧ n < 1) ∨ (¬ l < 0 ∧ ¬ 4 ≤ l ∧ ¬ n < 1 ∧ 1099511627776 < n) ∨ (¬ l < 0 ∧ ¬ 4 ≤ l ∧ ¬ n < 1 ∧ ¬ 1099511627776 < n) := by omega
  rcases hcase with h1 | ⟨h1, h2⟩ | ⟨h1, h2, h3⟩ | ⟨h1, h2, h3, h4⟩ | ⟨h1, h2, h3, h4⟩
  · rw [if_pos (by omega)]
    have d1 : decide (l < 0) = true := decide_eq_true h1
    go_enter Try.func103, Try.ntmps103
    go_wp2
    go_ret
    exact ⟨rfl, rfl⟩
  · rw [if_pos (by omega)]
    have d1 : decide (l < 0) = false := decide_eq_false h1
    have d2 : decide (4 ≤ l) = true := decide_eq_true h2
    go_enter Try.func103, Try.ntmps103
    go_wp2
    go_ret
    exact ⟨rfl, rfl⟩
  all_goals
    rw [if_neg (by omega)]
    have d1 : decide (l < 0) = false := decide_eq_false h1
    have d2 : decide (4 ≤ l) = false := decide_eq_false h2
  · rw [if_pos (by omega)]
    have d3 : decide (n < 1) = true := decide_eq_true h3
    go_enter Try.func103, Try.ntmps103
    go_wp2
    go_ret
    exact ⟨rfl, rfl⟩
  · rw [if_pos (by omega)]
    have d3 : decide (n < 1) = false := decide_eq_false h3
    have d4 : decide (1099511627776 < n) = true := decide_eq_true h4
    go_enter Try.func103, Try.ntmps103
    go_wp2
    go_ret
    exact ⟨rfl, rfl⟩
  · rw [if_neg (by omega)]
    have d3 : decide (n < 1) = false := decide_eq_false h3
    have d4 : decide (1099511627776 < n) = false := decide_eq_false h4
    go_enter Try.func103, Try.ntmps103
    go_wp2
    go_ret
    exact ⟨rfl, rfl⟩

theorem rplace_in (l n : Int) (w : World) : Calls Try.prog 103 #[.int .i64 l, .int .u64 n] w (IntV (placeC l n) w) :=
  (rplace_same l n w).mono fun _ _ ⟨h1, h2⟩ => ⟨h1, by rw [h2]; exact Ext.rfl w⟩

/-! ### keys -/
def keyC (k : IKey) : Int := if 64 < k.user.size then 21 else if 72057594037927935 < k.seq then 22 else if k.kind = 0 ∨ k.kind = 1 then 0 else 23
theorem kerr_at0 (w : World) : (Instr.index 160 (.agg #[.int .i64 0, .int .i64 23, .int .i64 22, .int .i64 21]) (.int .i64 0)).run Try.prog w = .ok (.int .i64 0) w := by kernel_rfl
theorem kerr_at1 (w : World) : (Instr.index 160 (.agg #[.int .i64 0, .int .i64 23, .int .i64 22, .int .i64 21]) (.int .i64 1)).run Try.prog w = .ok (.int .i64 23) w := by kernel_rfl
theorem kerr_at2 (w : World) : (Instr.index 160 (.agg #[.int .i64 0, .int .i64 23, .int .i64 22, .int .i64 21]) (.int .i64 2)).run Try.prog w = .ok (.int .i64 22) w := by kernel_rfl
theorem kerr_at3 (w : World) : (Instr.index 160 (.agg #[.int .i64 0, .int .i64 23, .int .i64 22, .int .i64 21]) (.int .i64 3)).run Try.prog w = .ok (.int .i64 21) w := by kernel_rfl
set_option maxRecDepth 100000 in
set_option maxHeartbeats 1000000 in
theorem keyC_in (k : IKey) (hu : k.user.size ≤ 9223372036854775807) (w : World) : Calls Try.prog 67 #[vKey k] w (IntV (keyC k) w) := by
  obtain ⟨u, s, n⟩ := k
  unfold keyC
  simp only at hu ⊢
  have i0 := kerr_at0
  have i1 := kerr_at1
  have i2 := kerr_at2
  have i3 := kerr_at3
  have hcase : (64 < u.size) ∨ (¬ 64 < u.size ∧ 72057594037927935 < s) ∨ (¬ 64 < u.size ∧ ¬ 72057594037927935 < s ∧ n = 0) ∨ (¬ 64 < u.size ∧ ¬ 72057594037927935 < s ∧ n = 1) ∨ (¬ 64 < u.size ∧ ¬ 72057594037927935 < s ∧ n ≠ 0 ∧ n ≠ 1) := by omega
  rcases hcase with h1 | ⟨h1, h2⟩ | ⟨h1, h2, rfl⟩ | ⟨h1, h2, rfl⟩ | ⟨h1, h2, h3, h4⟩
  · rw [if_pos h1]
    have h1' : decide ((64 : Int) < (u.size : Int)) = true := by simp; omega
    clear h1
    go_enter Try.func67, Try.ntmps67
    go_wp2
    go_ret
    exact ⟨rfl, (Ext.rfl w).al _⟩
  · rw [if_neg h1, if_pos h2]
    have h1' : decide ((64 : Int) < (u.size : Int)) = false := by simp; omega
    have h2' : decide ((72057594037927935 : Int) < s) = true := by simp; omega
    clear h1 h2
    go_enter Try.func67, Try.ntmps67
    go_wp2
    go_ret
    exact ⟨rfl, (Ext.rfl w).al _⟩
  · rw [if_neg h1, if_neg h2, if_pos (show (0 : Int) = 0 ∨ (0 : Int) = 1 from .inl rfl)]
    have h1' : decide ((64 : Int) < (u.size : Int)) = false := by simp; omega
    have h2' : decide ((72057594037927935 : Int) < s) = false := by simp; omega
    clear h1 h2
    go_enter Try.func67, Try.ntmps67
    go_wp2
    go_ret
    exact ⟨rfl, (Ext.rfl w).al _⟩
  · rw [if_neg h1, if_neg h2, if_pos (show (1 : Int) = 0 ∨ (1 : Int) = 1 from .inr rfl)]
    have h1' : decide ((64 : Int) < (u.size : Int)) = false := by simp; omega
    have h2' : decide ((72057594037927935 : Int) < s) = false := by simp; omega
    clear h1 h2
    go_enter Try.func67, Try.ntmps67
    go_wp2
    go_ret
    exact ⟨rfl, (Ext.rfl w).al _⟩
  · rw [if_neg h1, if_neg h2, if_neg (by omega)]
    have h1' : decide ((64 : Int) < (u.size : Int)) = false := by simp; omega
    have h2' : decide ((72057594037927935 : Int) < s) = false := by simp; omega
    have h3' : (n != 0) = true := by simpa using h3
    have h4' : (n != 1) = true := by simpa using h4
    have h5' : ¬ n = 0 := h3
    have h6' : ¬ n = 1 := h4
    clear h1 h2 h3 h4
    go_enter Try.func67, Try.ntmps67
    go_wp2
    go_ret
    exact ⟨rfl, (Ext.rfl w).al _⟩
set_option maxHeartbeats 1000000 in
theorem rkeyC_in (k : IKey) (hu : k.user.size ≤ 9223372036854775807) (w : World) : Calls Try.prog 69 #[vKey k] w (IntV (keyC k) w) := by
  obtain ⟨u, s, n⟩ := k
  unfold keyC
  simp only at hu ⊢
  by_cases h1 : 64 < u.size
  · rw [if_pos h1]
    have hd : decide ((64 : Int) < (u.size : Int)) = true := decide_eq_true (by omega)
    go_enter Try.func69, Try.ntmps69
    go_wp2_with fail
    go_ret
    exact ⟨rfl, (Ext.rfl w).al _⟩
  · rw [if_neg h1]
    have hd : decide ((64 : Int) < (u.size : Int)) = false := decide_eq_false (by omega)
    by_cases h2 : 72057594037927935 < s
    · rw [if_pos h2]
      have hd2 : decide (72057594037927935 < s) = true := decide_eq_true h2
      go_enter Try.func69, Try.ntmps69
      go_wp2_with fail
      go_ret
      exact ⟨rfl, (Ext.rfl w).al _⟩
    · rw [if_neg h2]
      have hd2 : decide (72057594037927935 < s) = false := decide_eq_false h2
      by_cases h3 : n = 0
      · subst h3
        rw [if_pos (.inl rfl)]
        go_enter Try.func69, Try.ntmps69
        go_wp2_with fail
        go_ret
        exact ⟨rfl, (Ext.rfl w).al _⟩
      · have hd3 : (n == 0) = false := by simpa using h3
        have hd5 : (n != 0) = true := by simpa using h3
        by_cases h4 : n = 1
        · subst h4
          rw [if_pos (.inr rfl)]
          go_enter Try.func69, Try.ntmps69
          go_wp2_with fail
          go_ret
          exact ⟨rfl, (Ext.rfl w).al _⟩
        · have hd4 : (n == 1) = false := by simpa using h4
          have hd6 : (n != 1) = true := by simpa using h4
          rw [if_neg (by omega)]
          go_enter Try.func69, Try.ntmps69
          go_wp2_with fail
          go_ret
          exact ⟨rfl, (Ext.rfl w).al _⟩

def cmpV (a b : IKey) : Int := if kl a.user b.user then -1 else if kl b.user a.user then 1 else if b.seq < a.seq then -1 else if a.seq < b.seq then 1 else if b.kind < a.kind then -1 else if a.kind < b.kind then 1 else 0
theorem compareBytes_kl : ∀ (a b : List UInt8), Lib.compareBytes a b = if Op.bytesLess a b then -1 else if Op.bytesLess b a then 1 else 0
  | [], [] => by simp [Lib.compareBytes, Op.bytesLess]
  | [], _ :: _ => by simp [Lib.compareBytes, Op.bytesLess]
  | _ :: _, [] => by simp [Lib.compareBytes, Op.bytesLess]
  | x :: a, y :: b => by
    have ih := compareBytes_kl a b
    unfold Lib.compareBytes Op.bytesLess
    by_cases h1 : x < y
    · simp [h1]
    · by_cases h2 : y < x
      · have hne : ¬ x = y := fun e => by rw [e] at h2; exact UInt8.lt_irrefl _ h2
        simp [h1, h2, hne]
      · have he : x = y := UInt8.le_antisymm (UInt8.not_lt.1 h2) (UInt8.not_lt.1 h1)
        subst he
        simp [h1, ih]
theorem cmpB_eq (a b : ByteArray) : Lib.compareBytes a.data.toList b.data.toList = if kl a b then -1 else if kl b a then 1 else 0 := by
  rw [compareBytes_kl]
  unfold kl
  rw [ByteArray.toList_eq, ByteArray.toList_eq]
theorem cmpV_anti (a b : IKey) : 0 < cmpV a b ↔ cmpV b a < 0 := by
  unfold cmpV
  cases h1 : kl a.user b.user
  · cases h2 : kl b.user a.user
    · simp only [Bool.false_eq_true, if_false]
      by_cases h3 : b.seq < a.seq
      · rw [if_pos h3, if_neg (by omega), if_pos h3]; decide
      · rw [if_neg h3]
        by_cases h4 : a.seq < b.seq
        · rw [if_pos h4, if_pos h4]; decide
        · rw [if_neg h4, if_neg h4, if_neg h3]
          by_cases h5 : b.kind < a.kind
          · rw [if_pos h5, if_neg (by omega), if_pos h5]; decide
          · rw [if_neg h5]
            by_cases h6 : a.kind < b.kind
            · rw [if_pos h6, if_pos h6]; decide
            · rw [if_neg h6, if_neg h6, if_neg h5]
    · simp
  · rw [kl_asymm h1]; simp
set_option maxHeartbeats 1000000 in
theorem against_user (a b : IKey) (w : World) : Calls Try.prog 129 #[vKey a, vKey b] w (IntV (Lib.compareBytes a.user.data.toList b.user.data.toList) w) := by
  go_enter Try.func129, Try.ntmps129
  go_wp2_with fail
  refine (Try.strings_Compare _ _ _).mono ?_
  rintro e w' ⟨rfl, rfl⟩
  go_wp2_with fail
  go_ret
  exact ⟨rfl, ((Ext.rfl w).al _).al _⟩
set_option maxHeartbeats 1000000 in
theorem against_seq (a b : IKey) (w : World) : Calls Try.prog 130 #[vKey a, vKey b] w (IntV (Lib.compareInt b.seq a.seq) w) := by
  unfold Lib.compareInt
  by_cases h1 : b.seq < a.seq
  · have d1 : decide (b.seq < a.seq) = true := decide_eq_true h1
    rw [if_pos h1]
    go_enter Try.func130, Try.ntmps130
    go_wp2
    go_ret
    exact ⟨rfl, ((Ext.rfl w).al _).al _⟩
  · have d1 : decide (b.seq < a.seq) = false := decide_eq_false h1
    rw [if_neg h1]
    by_cases h2 : a.seq < b.seq
    · have d2 : decide (a.seq < b.seq) = true := decide_eq_true h2
      rw [if_pos h2]
      go_enter Try.func130, Try.ntmps130
      go_wp2
      go_ret
      exact ⟨rfl, ((Ext.rfl w).al _).al _⟩
    · have d2 : decide (a.seq < b.seq) = false := decide_eq_false h2
      rw [if_neg h2]
      go_enter Try.func130, Try.ntmps130
      go_wp2
      go_ret
      exact ⟨rfl, ((Ext.rfl w).al _).al _⟩
set_option maxHeartbeats 1000000 in
theorem against_kind (a b : IKey) (w : World) : Calls Try.prog 131 #[vKey a, vKey b] w (IntV (Lib.compareInt b.kind a.kind) w) := by
  go_enter Try.func131, Try.ntmps131
  go_wp2_with fail
  refine (Try.cmp_Compare_int _ _ _).mono ?_
  rintro e w' ⟨rfl, rfl⟩
  go_wp2_with fail
  go_ret
  exact ⟨rfl, ((Ext.rfl w).al _).al _⟩

theorem vblk_lt {w : World} {b : Nat} {o : Obj} (h : w.heap[b]? = some o) : b < w.heap.size := (Array.getElem?_eq_some_iff.1 h).1
theorem row_at {w w' : World} {g : Nat} {o : Obj} (he : Ext (w.alloc o) w') (hg : g = w.heap.size) : w'.heap[g]? = some o := by
  subst hg
  exact (he.block _ (by rw [alloc_size]; omega)).trans (heap_alloc_new w o)
def partV (a b : IKey) : Nat → Int
  | 0 => Lib.compareBytes a.user.data.toList b.user.data.toList
  | 1 => Lib.compareInt b.seq a.seq
  | _ => Lib.compareInt b.kind a.kind
theorem cmpV_parts (a b : IKey) : cmpV a b = if partV a b 0 ≠ 0 then partV a b 0 else if partV a b 1 ≠ 0 then partV a b 1 else partV a b 2 := by
  unfold cmpV partV
  rw [cmpB_eq]
  unfold Lib.compareInt
  cases h1 : kl a.user b.user
  · cases h2 : kl b.user a.user
    · simp only [Bool.false_eq_true, if_false, ne_eq, not_true_eq_false]
      by_cases h3 : b.seq < a.seq
      · simp [h3]
      · by_cases h4 : a.seq < b.seq
        · simp [h3, h4]
        · simp [h3, h4]
    · simp
  · simp
theorem against_in (a b : IKey) (k : Nat) (w : World) : Calls Try.prog (if k = 0 then 129 else if k = 1 then 130 else 131) #[vKey a, vKey b] w (IntV (partV a b k) w) := by
  match k with
  | 0 => exact against_user a b w
  | 1 => exact against_seq a b w
  | k + 2 => rw [if_neg (by omega), if_neg (by omega)]; exact against_kind a b w
set_option maxRecDepth 100000 in
set_option maxHeartbeats 2000000 in
theorem icompare_in (a b : IKey) (w : World) : Calls Try.prog 112 #[vKey a, vKey b] w (IntV (cmpV a b) w) := by
  have hparts := cmpV_parts a b
  generalize cmpV a b = c0 at *
  have HP := hid hparts
  clear hparts
  go_enter Try.func112, Try.ntmps112
  go_wp2_with fail
  have E0 := hid (show Ext w ((((w.alloc (Obj.cells #[.string a.user, .int .u64 a.seq, .int .i64 a.kind] 42)).alloc (Obj.cells #[.string b.user, .int .u64 b.seq, .int .i64 b.kind] 42)).alloc (Obj.cells #[.string a.user, .int .u64 a.seq, .int .i64 a.kind] 192)).alloc (Obj.cells #[.func (.func 129) #[vKey a] #[], .func (.func 130) #[vKey a] #[], .func (.func 131) #[vKey a] #[]] 193)) from
    ((((Ext.rfl w).al _).al _).al _).al _)
  generalize hw1 : ((((w.alloc (Obj.cells #[.string a.user, .int .u64 a.seq, .int .i64 a.kind] 42)).alloc (Obj.cells #[.string b.user, .int .u64 b.seq, .int .i64 b.kind] 42)).alloc (Obj.cells #[.string a.user, .int .u64 a.seq, .int .i64 a.kind] 192)).alloc (Obj.cells #[.func (.func 129) #[vKey a] #[], .func (.func 130) #[vKey a] #[], .func (.func 131) #[vKey a] #[]] 193)) = w1 at *
  have hb : w1.heap[w.heap.size + 1]? = some (Obj.cells #[.string b.user, .int .u64 b.seq, .int .i64 b.kind] 42 (0, 0)) := by
    rw [← hw1]; exact row_at (((Ext.rfl _).al _).al _) (by rw [alloc_size])
  have hf : w1.heap[w.heap.size + 1 + 1 + 1]? = some (Obj.cells #[.func (.func 129) #[vKey a] #[], .func (.func 130) #[vKey a] #[], .func (.func 131) #[vKey a] #[]] 193 (0, 0)) := by
    rw [← hw1]; exact row_at (Ext.rfl _) (by rw [alloc_size, alloc_size, alloc_size])
  have HB := hid hb
  have HF := hid hf
  clear hb hf hw1
  generalize w.heap.size + 1 + 1 + 1 = gf at *
  generalize w.heap.size + 1 = gb at *
  go_loopw [19] (fun t wr => ∃ k : Nat, k ≤ 3 ∧ t = .int .i64 k ∧ Ext w1 wr ∧ ∀ j, j < k → partV a b j = 0) (fun t _ => 3 - (intOf t).toNat)
  case atStart => exact ⟨0, by omega, rfl, Ext.rfl _, fun j hj => absurd hj (Nat.not_lt_zero _)⟩
  case round =>
    obtain ⟨k, hk, rfl, he, hz⟩ := hrel
    have HE := hid he
    have HZ := hid hz
    have c1 : ∀ i, wr.cell? ⟨gb, i, none⟩ = #[Value.string b.user, .int .u64 b.seq, .int .i64 b.kind][i]? := fun i => cell_of_row _ _ _ _ _ _ ((he.block _ (vblk_lt HB.out)).trans HB.out)
    have c2 : ∀ i, wr.cell? ⟨gf, i, none⟩ = #[Value.func (.func 129) #[vKey a] #[], .func (.func 130) #[vKey a] #[], .func (.func 131) #[vKey a] #[]][i]? := fun i => cell_of_row _ _ _ _ _ _ ((he.block _ (vblk_lt HF.out)).trans HF.out)
    have b0 : wr.cell? ⟨gb, 0, none⟩ = some (.string b.user) := c1 0
    have b1 : wr.cell? ⟨gb, 1, none⟩ = some (.int .u64 b.seq) := c1 1
    have b2 : wr.cell? ⟨gb, 2, none⟩ = some (.int .i64 b.kind) := c1 2
    clear he hz c1
    have F0 : wr.cell? ⟨gf, 0, none⟩ = some (.func (.func 129) #[vKey a] #[]) := c2 0
    have F1 : wr.cell? ⟨gf, 1, none⟩ = some (.func (.func 130) #[vKey a] #[]) := c2 1
    have F2 : wr.cell? ⟨gf, 2, none⟩ = some (.func (.func 131) #[vKey a] #[]) := c2 2
    clear c2
    have key : ∀ k, k < 3 → partV a b k ≠ 0 → (∀ j, j < k → partV a b j = 0) → partV a b k = c0 := fun k hk hne hz => by
      rw [HP.out]
      obtain rfl | rfl | rfl : k = 0 ∨ k = 1 ∨ k = 2 := by omega
      · rw [if_pos hne]
      · rw [if_neg (by rw [hz 0 (by omega)]; decide), if_pos hne]
      · rw [if_neg (by rw [hz 0 (by omega)]; decide), if_neg (by rw [hz 1 (by omega)]; decide)]
    have KEY := hid key
    clear key
    have hnx : partV a b k = 0 → ∀ j, j < k + 1 → partV a b j = 0 := fun h j hj => by
      rcases Nat.lt_succ_iff_lt_or_eq.1 hj with h1 | rfl
      · exact HZ.out j h1
      · exact h
    have HNX := hid hnx
    clear hnx
    obtain rfl | rfl | rfl | rfl : k = 0 ∨ k = 1 ∨ k = 2 ∨ k = 3 := by omega
    · go_wp2_with fail
      refine (against_user a b wr).mono ?_
      rintro e w2 ⟨rfl, he2⟩
      have E2 := hid (HE.out.tr he2)
      clear he2
      by_cases hne : partV a b 0 = 0
      · have hr : Lib.compareBytes a.user.data.toList b.user.data.toList = 0 := hne
        rw [hr]
        go_wp2_with fail
        go_roundw
        case rel => exact ⟨1, by omega, rfl, E2.out, HNX.out hne⟩
        case measure => simp [intOf]
      · have hc := KEY.out 0 (by omega) hne HZ.out
        have hr : Lib.compareBytes a.user.data.toList b.user.data.toList = c0 := hc
        rw [hc] at hne
        have hd : (c0 != 0) = true := by simpa using hne
        rw [hr]
        clear hc
        go_wp2_with fail
        go_ret
        exact ⟨rfl, E0.out.tr E2.out⟩
    · go_wp2_with fail
      refine (against_seq a b wr).mono ?_
      rintro e w2 ⟨rfl, he2⟩
      have E2 := hid (HE.out.tr he2)
      clear he2
      by_cases hne : partV a b 1 = 0
      · have hr : Lib.compareInt b.seq a.seq = 0 := hne
        rw [hr]
        go_wp2_with fail
        go_roundw
        case rel => exact ⟨2, by omega, rfl, E2.out, HNX.out hne⟩
        case measure => simp [intOf]
      · have hc := KEY.out 1 (by omega) hne HZ.out
        have hr : Lib.compareInt b.seq a.seq = c0 := hc
        rw [hc] at hne
        have hd : (c0 != 0) = true := by simpa using hne
        rw [hr]
        clear hc
        go_wp2_with fail
        go_ret
        exact ⟨rfl, E0.out.tr E2.out⟩
    · go_wp2_with fail
      refine (against_kind a b wr).mono ?_
      rintro e w2 ⟨rfl, he2⟩
      have E2 := hid (HE.out.tr he2)
      clear he2
      by_cases hne : partV a b 2 = 0
      · have hr : Lib.compareInt b.kind a.kind = 0 := hne
        rw [hr]
        go_wp2_with fail
        go_roundw
        case rel => exact ⟨3, by omega, rfl, E2.out, HNX.out hne⟩
        case measure => simp [intOf]
      · have hc := KEY.out 2 (by omega) hne HZ.out
        have hr : Lib.compareInt b.kind a.kind = c0 := hc
        rw [hc] at hne
        have hd : (c0 != 0) = true := by simpa using hne
        rw [hr]
        clear hc
        go_wp2_with fail
        go_ret
        exact ⟨rfl, E0.out.tr E2.out⟩
    · have h0 := HZ.out 0 (by omega)
      have h1 := HZ.out 1 (by omega)
      have h2 := HZ.out 2 (by omega)
      have hc : c0 = 0 := by rw [HP.out, h0, h1, h2]; simp
      clear h0 h1 h2
      go_wp2_with fail
      go_ret
      exact ⟨by rw [hc]; rfl, E0.out.tr HE.out⟩
set_option maxHeartbeats 2000000 in
theorem rcompareV_in (a b : IKey) (w : World) : Calls Try.prog 31 #[vKey a, vKey b] w (IntV (cmpV a b) w) := by
  obtain ⟨ua, sa, ka⟩ := a
  obtain ⟨ub, sb, kb⟩ := b
  unfold cmpV
  simp only
  cases h1 : kl ua ub
  · have hl1 : Op.bytesLess ua.toList ub.toList = false := h1
    cases h2 : kl ub ua
    · obtain rfl : ua = ub := by
        rcases kl_total ua ub with h | h | h
        · rw [h1] at h; cases h
        · exact h
        · rw [h2] at h; cases h
      clear h1 h2
      by_cases h3 : sb < sa
      · have d3 : decide (sb < sa) = true := decide_eq_true h3
        simp only [Bool.false_eq_true, if_false, if_pos h3]
        go_enter Try.func31, Try.ntmps31
        go_wp2_with fail
        go_ret
        exact ⟨rfl, ((Ext.rfl w).al _).al _⟩
      · have d3 : decide (sb < sa) = false := decide_eq_false h3
        by_cases h4 : sa < sb
        · have d4 : decide (sa < sb) = true := decide_eq_true h4
          have d5 : (sa == sb) = false := by simp; omega
          simp only [Bool.false_eq_true, if_false, if_neg h3, if_pos h4]
          go_enter Try.func31, Try.ntmps31
          go_wp2_with fail
          go_ret
          exact ⟨rfl, ((Ext.rfl w).al _).al _⟩
        · obtain rfl : sa = sb := by omega
          simp only [Bool.false_eq_true, if_false, if_neg h3]
          by_cases h5 : kb < ka
          · have d5 : decide (kb < ka) = true := decide_eq_true h5
            simp only [if_pos h5]
            go_enter Try.func31, Try.ntmps31
            go_wp2_with fail
            go_ret
            exact ⟨rfl, ((Ext.rfl w).al _).al _⟩
          · have d5 : decide (kb < ka) = false := decide_eq_false h5
            by_cases h6 : ka < kb
            · have d6 : decide (ka < kb) = true := decide_eq_true h6
              simp only [if_neg h5, if_pos h6]
              go_enter Try.func31, Try.ntmps31
              go_wp2_with fail
              go_ret
              exact ⟨rfl, ((Ext.rfl w).al _).al _⟩
            · have d6 : decide (ka < kb) = false := decide_eq_false h6
              simp only [if_neg h5, if_neg h6]
              go_enter Try.func31, Try.ntmps31
              go_wp2_with fail
              go_ret
              exact ⟨rfl, ((Ext.rfl w).al _).al _⟩
    · have hl2 : Op.bytesLess ub.toList ua.toList = true := h2
      have hbe : (ua.toList == ub.toList) = false := by
        simp only [beq_eq_false_iff_ne, ne_eq]
        intro e
        rw [ba_ext e, kl_irrefl] at h2
        cases h2
      clear h1 h2
      simp only [Bool.false_eq_true, if_false, if_true]
      go_enter Try.func31, Try.ntmps31
      go_wp2_with fail
      go_ret
      exact ⟨rfl, ((Ext.rfl w).al _).al _⟩
  · have hl1 : Op.bytesLess ua.toList ub.toList = true := h1
    clear h1
    simp only [if_true]
    go_enter Try.func31, Try.ntmps31
    go_wp2_with fail
    go_ret
    exact ⟨rfl, ((Ext.rfl w).al _).al _⟩
end Go.Proofs.Ytoonhcmeklmnlaa
