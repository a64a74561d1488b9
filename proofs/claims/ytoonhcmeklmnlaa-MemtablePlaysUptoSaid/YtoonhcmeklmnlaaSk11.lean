/- A list of package skip, told without its places in memory; the contracts of its calls. -/
import Derived.Test.YtoonhcmeklmnlaaSk10
set_option linter.unusedSimpArgs false
set_option linter.unusedVariables false
set_option linter.unnecessarySimpa false
namespace Go.Proofs.Ytoonhcmeklmnlaa
open Go.RowKit Go.Rg Go.St

def skipTy (T : TypeId) : Prop := T = 109 ∨ T = 112 ∨ T = 105 ∨ T = 110

/-- what lay below B stays, and rows of other kinds -/
structure Keeps (B : Nat) (w w' : World) : Prop where
  os : w'.os = w.os
  tape : w'.tape = w.tape
  output : w'.output = w.output
  size : w.heap.size ≤ w'.heap.size
  low : ∀ (b : Nat), b < w.heap.size → b < B → w'.heap[b]? = w.heap[b]?
  row : ∀ (b : Nat) (cs : Array Value) (T : TypeId) (fr : Nat × Nat), w.heap[b]? = some (Obj.cells cs T fr) → ¬ skipTy T → w'.heap[b]? = some (Obj.cells cs T fr)
theorem Keeps.rfl (B : Nat) (w : World) : Keeps B w w := ⟨Eq.refl _, Eq.refl _, Eq.refl _, Nat.le_refl _, fun _ _ _ => Eq.refl _, fun _ _ _ _ h _ => h⟩
theorem Keeps.tr {B : Nat} {a b c : World} (h : Keeps B a b) (k : Keeps B b c) : Keeps B a c :=
  ⟨k.os.trans h.os, k.tape.trans h.tape, k.output.trans h.output, Nat.le_trans h.size k.size, fun x hx hB => (k.low x (Nat.lt_of_lt_of_le hx h.size) hB).trans (h.low x hx hB), fun x cs T fr hx hT => k.row x cs T fr (h.row x cs T fr hx hT) hT⟩
theorem Keeps.of_ext {B : Nat} {a b : World} (h : Ext a b) : Keeps B a b := ⟨h.os, h.tape, h.output, h.size, fun x hx _ => h.block x hx, fun x cs T fr hx _ => (h.block x (blk_lt hx)).trans hx⟩
theorem Keeps.below {B : Nat} {a b : World} (h : Keeps B a b) (hB : B ≤ a.heap.size) : Below B a b := ⟨h.os, h.tape, h.output, h.size, fun x hx => h.low x (Nat.lt_of_lt_of_le hx hB) hx⟩
theorem Keeps.ext {a b : World} (h : Keeps a.heap.size a b) : Ext a b := h.below (Nat.le_refl _)
theorem owns_keeps {B : Nat} {w w' : World} {base : Nat} {e : TypeId} {sz : Nat} {v : Value} {n : Nat} {xs : List Value} (hown : w.ownsRow base e sz v n xs) (h : Keeps B w w') (he : ¬ skipTy e) : w'.ownsRow base e sz v n xs := by
  refine ⟨hown.1, ?_⟩
  rcases hown.2 with h0 | ⟨g, cap, cur, rfl, hb, hg, rest⟩
  · exact .inl h0
  · exact .inr ⟨g, cap, cur, rfl, hb, h.row g cur e (0, 0) hg he, rest⟩

theorem Rep.foot {w : World} {L : Loc} {K : SK} (h : Rep w L K) {b : Nat} (hb : Foot L K.n b) : (∃ es c, w.heap[b]? = some (.map es c)) ∨ ∃ cs T fr, w.heap[b]? = some (.cells cs T fr) ∧ skipTy T := by
  rcases hb with rfl | rfl | hb | ⟨i, hi, rfl | rfl⟩
  · exact .inr ⟨_, _, _, h.hd, .inl rfl⟩
  · obtain ⟨es, c, h1, _⟩ := h.mp
    exact .inl ⟨es, c, h1⟩
  · rcases h.ops.2 with ⟨h1, _⟩ | ⟨g, cap, cur, h1, _, hg, _⟩
    · rw [h1] at hb; cases hb
    · rw [h1] at hb
      simp [Value.ownBlock] at hb
      subst hb
      exact .inr ⟨_, _, _, hg, .inr (.inr (.inr rfl))⟩
  · exact .inr ⟨_, _, _, h.op i hi, .inr (.inl rfl)⟩
  · exact .inr ⟨_, _, _, h.nd i hi, .inr (.inr (.inl rfl))⟩

theorem Keeps.of_ch {B : Nat} {w w' : World} {L : Loc} {K : SK} (h : Rep w L K) (hf : ∀ b, Foot L K.n b → B ≤ b) (hc : Ch (Foot L K.n) w w') : Keeps B w w' := by
  refine ⟨hc.os, hc.tape, hc.output, hc.size, fun b hb hB => hc.block b hb (fun hF => by have := hf b hF; omega), fun b cs T fr hb hT => ?_⟩
  refine (hc.block b (blk_lt hb) (fun hF => ?_)).trans hb
  rcases h.foot hF with ⟨es, c, h1⟩ | ⟨cs', T', fr', h1, hT'⟩
  · rw [hb] at h1; cases h1
  · rw [hb] at h1
    simp only [Option.some.injEq, Obj.cells.injEq] at h1
    exact hT (by rw [h1.2.1]; exact hT')

/-- a list whose parts all lie at B or above -/
def ListAt (B lb : Nat) (w : World) (K : SK) : Prop := Inv K ∧ ∃ L, L.lb = lb ∧ Rep w L K ∧ ∀ b, Foot L K.n b → B ≤ b

theorem ListAt.ext {B lb : Nat} {w w' : World} {K : SK} (h : ListAt B lb w K) (he : Ext w w') : ListAt B lb w' K := by
  obtain ⟨hI, L, h1, h2, h3⟩ := h
  exact ⟨hI, L, h1, h2.ext he, h3⟩
/-- a row of another kind has grown -/
theorem ListAt.grown {B lb : Nat} {w w' : World} {K : SK} (h : ListAt B lb w K) {base : Nat} {e : TypeId} {sz : Nat} {v : Value} {n : Nat} {xs : List Value} (hown : w.ownsRow base e sz v n xs) (he : ¬ skipTy e) (hg : w.grownBy w' v.ownBlock) : ListAt B lb w' K := by
  obtain ⟨hI, L, h1, h2, h3⟩ := h
  refine ⟨hI, L, h1, h2.go (F := fun k => some k = v.ownBlock) ⟨hg.os, hg.tape, hg.output, hg.size, fun k hk hf => hg.block k hk hf⟩ (fun k hk hF => ?_), h3⟩
  rcases hown.2 with ⟨h4, _⟩ | ⟨g, cap, cur, h4, _, hg', _⟩
  · rw [h4] at hF; cases hF
  · rw [h4] at hF
    simp [Value.ownBlock] at hF
    subst hF
    rcases h2.foot hk with ⟨es, c, h5⟩ | ⟨cs', T', fr', h5, hT'⟩
    · rw [hg'] at h5; cases h5
    · rw [hg'] at h5
      simp only [Option.some.injEq, Obj.cells.injEq] at h5
      exact he (by rw [h5.2.1]; exact hT')

theorem new_ls (room : Int) (h0 : 0 ≤ room) (h1 : room ≤ 1000) (w : World) : Calls Try.prog 57 #[.int .i64 room] w (fun e w' => ∃ lb, e = .returned (.tuple #[.pointer (some ⟨lb, 0, none⟩), .int .i64 0]) ∧ ListAt w.heap.size lb w' (SK.new room) ∧ Ext w w') := by
  refine (new_ok room h0 h1 w).mono ?_
  rintro e w' ⟨rfl, h2, h3⟩
  refine ⟨_, rfl, ⟨Inv.new room, _, rfl, h2, ?_⟩, h3⟩
  rintro b (rfl | rfl | h | ⟨i, hi, _⟩)
  · show _ ≤ w.heap.size + 1; omega
  · exact Nat.le_refl _
  · cases h
  · exact absurd hi (Nat.not_lt_zero _)

theorem step_ls {B lb : Nat} {w : World} {K : SK} (h : ListAt B lb w K) {i : Nat} (hi : i < K.n) :
    Calls Try.prog 18 #[.pointer (some ⟨lb, 0, none⟩), .int .i64 i] w (fun e w' => e = .returned (.tuple #[.bool (decide ((stepK K i).lv i = K.ht i)), .int .i64 0]) ∧ ListAt B lb w' (stepK K i) ∧ Keeps B w w') := by
  obtain ⟨hI, L, rfl, h2, h3⟩ := h
  refine (step_rep h2 hI hi).mono ?_
  rintro e w' ⟨rfl, k1, k2⟩
  refine ⟨rfl, ⟨hI.step hi, L, rfl, k1, ?_⟩, Keeps.of_ch h2 h3 k2⟩
  rw [(stepK_n K i).1]; exact h3
theorem whole_ls {B lb : Nat} {w : World} {K : SK} (h : ListAt B lb w K) {i : Nat} (hi : i < K.n) (most : Int) (hm : ((K.ht i * (K.n + 10) + 2 : Nat) : Int) ≤ most) (hmm : most ≤ 1000000000) :
    Calls Try.prog 58 #[.pointer (some ⟨lb, 0, none⟩), .int .i64 i, .int .i64 most] w (fun e w' => ∃ d : Nat, d ≤ K.ht i * (K.n + 10) + 2 ∧ (runK K i (d + 1)).lv i = K.ht i ∧ e = .returned (.int .i64 ((d : Int) + 1)) ∧ ListAt B lb w' (runK K i (d + 1)) ∧ Keeps B w w') := by
  obtain ⟨hI, L, rfl, h2, h3⟩ := h
  obtain ⟨d, hd, h4, h5⟩ := first_done hI hi
  refine (whole_rep h2 hI hi h4 h5 most (by omega) hmm).mono ?_
  rintro e w' ⟨rfl, k1, k2⟩
  obtain ⟨r1, r2, r3, r4, r5⟩ := runK_inv hI hi (d + 1)
  refine ⟨d, hd, h4, rfl, ⟨r1, L, rfl, k1, ?_⟩, Keeps.of_ch h2 h3 k2⟩
  rw [r2]; exact h3
theorem begin_ls {B lb : Nat} {w : World} {K : SK} (h : ListAt B lb w K) (hB : B ≤ w.heap.size) (k : ByteArray) (ht : Nat) (h1 : 1 ≤ ht) (h8 : ht ≤ 8) (hno : ∀ i, i < K.n → K.key i ≠ k) (hr : (K.n : Int) < K.room) (hr2 : K.room ≤ 1000) :
    Calls Try.prog 17 #[.pointer (some ⟨lb, 0, none⟩), .string k, .int .i64 ht] w (fun e w' => e = .returned (.tuple #[.int .i64 K.n, .int .i64 0]) ∧ ListAt B lb w' (beginK K k ht) ∧ Keeps B w w') := by
  obtain ⟨hI, L, rfl, h2, h3⟩ := h
  refine (begin_ok h2 hI k ht h1 h8 hno hr hr2).mono ?_
  rintro e w' ⟨rfl, v', ob, nb, k1, k2, k3⟩
  refine ⟨rfl, ⟨hI.begin hno h1 h8, L.more K.n v' ob nb, rfl, k1, fun b hb => ?_⟩, Keeps.of_ch h2 h3 k2⟩
  rcases k3 b hb with h | h
  · exact h3 b h
  · omega
theorem begin_same_ls {B lb : Nat} {w : World} {K : SK} (h : ListAt B lb w K) (k : ByteArray) (ht : Int) (h1 : 1 ≤ ht) (h8 : ht ≤ 8) (hno : ∃ i, i < K.n ∧ K.key i = k) :
    Calls Try.prog 17 #[.pointer (some ⟨lb, 0, none⟩), .string k, .int .i64 ht] w (NoPost 71 w) := by
  obtain ⟨hI, L, rfl, h2, h3⟩ := h
  exact begin_same h2 k ht h1 h8 hno
theorem begin_full_ls {B lb : Nat} {w : World} {K : SK} (h : ListAt B lb w K) (k : ByteArray) (ht : Int) (h1 : 1 ≤ ht) (h8 : ht ≤ 8) (hno : ∀ i, i < K.n → K.key i ≠ k) (hr : K.room ≤ K.n) :
    Calls Try.prog 17 #[.pointer (some ⟨lb, 0, none⟩), .string k, .int .i64 ht] w (NoPost 72 w) := by
  obtain ⟨hI, L, rfl, h2, h3⟩ := h
  exact begin_full h2 k ht h1 h8 hno hr

/-- the nodes of a level, in order -/
structure Lvl (K : SK) (l : Nat) (js : List Nat) : Prop where
  ch : Chain K.nxt l none js
  up : Rises K.key js
  mem : ∀ j, j ∈ js ↔ j < K.n ∧ l < K.lv j
theorem nodup_len : ∀ {l m : List Nat}, l.Nodup → (∀ x, x ∈ l → x ∈ m) → l.length ≤ m.length
  | [], m, _, _ => Nat.zero_le _
  | a :: l, m, hn, hs => by
    have ha := hs a (List.mem_cons_self ..)
    have hn' := List.nodup_cons.1 hn
    have := nodup_len (l := l) (m := m.erase a) hn'.2 fun x hx => (List.mem_erase_of_ne (fun e => hn'.1 (by rw [← e]; exact hx))).2 (hs x (List.mem_cons_of_mem _ hx))
    rw [List.length_erase_of_mem ha] at this
    have hpos : 0 < m.length := List.length_pos_of_mem ha
    simp; omega
/-- how many keys a level has -/
def cnt (K : SK) (l : Nat) : Nat := ((List.range K.n).filter fun j => decide (l < K.lv j)).length
theorem Lvl.len {K : SK} {l : Nat} {js : List Nat} (h : Lvl K l js) : js.length = cnt K l := by
  apply Nat.le_antisymm
  · exact nodup_len h.up.nodup fun x hx => by
      have := (h.mem x).1 hx
      simp [this.1, this.2]
  · refine nodup_len (List.Pairwise.filter _ List.nodup_range) fun x hx => ?_
    simp at hx
    exact (h.mem x).2 hx
theorem cnt_le (K : SK) (l : Nat) : cnt K l ≤ K.n := by
  have := List.length_filter_le (fun j => decide (l < K.lv j)) (List.range K.n)
  simpa [cnt] using this

theorem keys_ls {B lb : Nat} {w : World} {K : SK} (h : ListAt B lb w K) (hn : K.n ≤ 1000) {l : Nat} (hl : l < 8) :
    Calls Try.prog 22 #[.pointer (some ⟨lb, 0, none⟩), .int .i64 l] w (fun e w' => ∃ js v, Lvl K l js ∧ e = .returned v ∧ w'.ownsRow w.heap.size 9 1 v js.length ((keysOf K js).map .string) ∧ Ext w w') := by
  obtain ⟨hI, L, rfl, h2, h3⟩ := h
  obtain ⟨js, hc, hr, hm⟩ := hI.ch l hl
  have hL : Lvl K l js := ⟨hc, hr, hm⟩
  refine (keys_rep h2 hl hc (fun j hj => ((hm j).1 hj).1) (by rw [hL.len]; have := cnt_le K l; omega)).mono ?_
  rintro e w' ⟨v, rfl, ho, he⟩
  rw [show (keysOf K js).length = js.length by simp [keysOf]] at ho
  exact ⟨js, v, hL, rfl, ho, he⟩
theorem seek_ls {B lb : Nat} {w : World} {K : SK} (h : ListAt B lb w K) (key : ByteArray) : Calls Try.prog 19 #[.pointer (some ⟨lb, 0, none⟩), .string key] w (SeekPost K (fun k => kl k key) (fun r => K.nxt r 0) w) := by
  obtain ⟨hI, L, rfl, h2, h3⟩ := h
  exact seek_rep h2 hI key
theorem before_ls {B lb : Nat} {w : World} {K : SK} (h : ListAt B lb w K) (key : ByteArray) : Calls Try.prog 20 #[.pointer (some ⟨lb, 0, none⟩), .string key] w (SeekPost K (fun k => kl k key) (fun r => r) w) := by
  obtain ⟨hI, L, rfl, h2, h3⟩ := h
  exact before_key_rep h2 hI key
theorem last_ls {B lb : Nat} {w : World} {K : SK} (h : ListAt B lb w K) : Calls Try.prog 21 #[.pointer (some ⟨lb, 0, none⟩)] w (SeekPost K (fun _ => true) (fun r => r) w) := by
  obtain ⟨hI, L, rfl, h2, h3⟩ := h
  exact last_rep h2 hI
theorem step_bad {B lb : Nat} {w : World} {K : SK} (h : ListAt B lb w K) (i : Int) (hi : i < 0 ∨ K.n ≤ i) : Calls Try.prog 18 #[.pointer (some ⟨lb, 0, none⟩), .int .i64 i] w (fun e w' => e = .returned (.tuple #[.bool false, .int .i64 1]) ∧ Ext w w') := by
  obtain ⟨hI, L, rfl, h2, h3⟩ := h
  obtain ⟨a, cap, e, hm⟩ := h2.opslen
  have hL : w.cell? ⟨L.lb, 10, none⟩ = some L.ops := cell_of_row _ _ _ _ _ _ h2.hd
  rw [e] at hL
  clear h2 h3 e
  rcases hi with hi | hi
  all_goals
    go_enter Try.func18, Try.ntmps18
    go_wp2
    go_ret2
    exact ⟨rfl, Ext.rfl w⟩
theorem step_nil (i : Int) (w : World) : Calls Try.prog 18 #[.pointer none, .int .i64 i] w (fun e w' => e = .returned (.tuple #[.bool false, .int .i64 1]) ∧ Ext w w') := by
  go_enter Try.func18, Try.ntmps18
  go_wp2
  go_ret2
  exact ⟨rfl, Ext.rfl w⟩
end Go.Proofs.Ytoonhcmeklmnlaa
