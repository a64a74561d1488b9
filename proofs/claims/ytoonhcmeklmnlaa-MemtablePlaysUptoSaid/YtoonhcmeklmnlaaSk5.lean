/- The walk of Begin. -/
import Derived.Test.YtoonhcmeklmnlaaSk4
set_option linter.unusedSimpArgs false
set_option linter.unusedVariables false
set_option linter.unnecessarySimpa false
namespace Go.Proofs.Ytoonhcmeklmnlaa
open Go.RowKit Go.Rg Go.St

theorem ch_new {F : Nat → Prop} {w0 w1 w2 w3 : World} {b : Nat} (h : Ch F w0 w1) (he : Ext w1 w2) (k : Ch (· = b) w2 w3) (hb : w1.heap.size ≤ b) : Ch F w0 w3 :=
  h.tr ⟨k.os.trans he.os, k.tape.trans he.tape, k.output.trans he.output, Nat.le_trans he.size k.size, fun c hc _ => (k.block c (Nat.lt_of_lt_of_le hc he.size) (by omega)).trans (he.block c hc)⟩
theorem keep_new {w1 w2 w3 : World} {b : Nat} (he : Ext w1 w2) (k : Ch (· = b) w2 w3) (hb : w1.heap.size ≤ b) {c : Nat} {o : Obj} (h : w1.heap[c]? = some o) : w3.heap[c]? = some o :=
  (k.block c (Nat.lt_of_lt_of_le (blk_lt h) he.size) (by have := blk_lt h; omega)).trans ((he.block c (blk_lt h)).trans h)

theorem owns_shape {w : World} {base : Nat} {e : TypeId} {sz : Nat} {v : Value} {n : Nat} {xs : List Value} (h : w.ownsRow base e sz v (n + 1) xs) : ∃ g cap, v = .slice (some ⟨g, 0, none⟩) (n + 1) cap ∧ n + 1 ≤ cap ∧ cap ≤ maxLen := by
  rcases h.2 with ⟨_, h0⟩ | ⟨g, cap, cur, h1, _, hg, hn, hm, hcs, htk⟩
  · omega
  · exact ⟨g, cap, h1, hn, hm⟩
theorem keep_grown {w3 w4 : World} {o' : Obj} {row : Option Nat} (hg : (w3.alloc o').grownBy w4 row) {b : Nat} {ob : Obj} (h : w3.heap[b]? = some ob) (hr : row ≠ some b) : w4.heap[b]? = some ob := by
  have hlt := blk_lt h
  refine (hg.block b ?_ (Ne.symm hr)).trans ((heap_alloc_old _ _ hlt).trans h)
  show b < (w3.heap.push _).size
  rw [Array.size_push]; omega

theorem own_ne' {w : World} {base : Nat} {E : TypeId} {sz : Nat} {v : Value} {n : Nat} {xs : List Value} (h : w.ownsRow base E sz v n xs) {b : Nat} {cs : Array Value} {T : TypeId} {fr : Nat × Nat} (hb : w.heap[b]? = some (.cells cs T fr)) (hT : E ≠ T) : v.ownBlock ≠ some b := by
  intro e
  rcases h.2 with ⟨h1, _⟩ | ⟨g, cap, cur, h1, _, hg, _⟩
  · rw [h1] at e; cases e
  · rw [h1] at e
    simp [Value.ownBlock] at e
    subst e
    exact cells_ne hg hb hT rfl

def BeginPost (w : World) (L : Loc) (K : SK) (k : ByteArray) (ht : Nat) (e : Ending) (w' : World) : Prop :=
  e = .returned (.tuple #[.int .i64 K.n, .int .i64 0]) ∧ ∃ v' ob nb, Rep w' (L.more K.n v' ob nb) (beginK K k ht) ∧ Ch (Foot L K.n) w w' ∧ ∀ b, Foot (L.more K.n v' ob nb) (K.n + 1) b → Foot L K.n b ∨ w.heap.size ≤ b

def NoPost (c : Int) (w : World) (e : Ending) (w' : World) : Prop := e = .returned (.tuple #[.int .i64 0, .int .i64 c]) ∧ Ext w w'

theorem begin_nil (k : ByteArray) (h : Int) (w : World) : Calls Try.prog 17 #[.pointer none, .string k, .int .i64 h] w (NoPost 1 w) := by
  go_enter Try.func17, Try.ntmps17
  go_wp2
  go_ret2
  exact ⟨rfl, Ext.rfl w⟩
theorem begin_height (b : Nat) (k : ByteArray) (h : Int) (hh : h < 1 ∨ 8 < h) (w : World) : Calls Try.prog 17 #[.pointer (some ⟨b, 0, none⟩), .string k, .int .i64 h] w (NoPost 70 w) := by
  rcases hh with h | h
  all_goals
    go_enter Try.func17, Try.ntmps17
    go_wp2
    go_ret2
    exact ⟨rfl, Ext.rfl w⟩

set_option maxRecDepth 20000 in
theorem begin_same {w : World} {L : Loc} {K : SK} (h : Rep w L K) (k : ByteArray) (ht : Int) (h1 : 1 ≤ ht) (h8 : ht ≤ 8) (hno : ∃ i, i < K.n ∧ K.key i = k) :
    Calls Try.prog 17 #[.pointer (some ⟨L.lb, 0, none⟩), .string k, .int .i64 ht] w (NoPost 71 w) := by
  have hlk := look_key h k (b := true) ⟨fun _ => hno, fun _ => rfl⟩
  have c11 : w.cell? ⟨L.lb, 11, none⟩ = some (.map (some L.mb)) := cell_of_row _ _ _ _ _ _ h.hd
  clear h
  go_enter Try.func17, Try.ntmps17
  go_wp2
  go_ret2
  exact ⟨rfl, Ext.rfl w⟩

set_option maxRecDepth 20000 in
theorem begin_full {w : World} {L : Loc} {K : SK} (h : Rep w L K) (k : ByteArray) (ht : Int) (h1 : 1 ≤ ht) (h8 : ht ≤ 8) (hno : ∀ i, i < K.n → K.key i ≠ k) (hr : K.room ≤ K.n) :
    Calls Try.prog 17 #[.pointer (some ⟨L.lb, 0, none⟩), .string k, .int .i64 ht] w (NoPost 72 w) := by
  have hlk := look_key h k (b := false) ⟨fun h => (by cases h), fun ⟨i, hi, e⟩ => absurd e (hno i hi)⟩
  have c11 : w.cell? ⟨L.lb, 11, none⟩ = some (.map (some L.mb)) := cell_of_row _ _ _ _ _ _ h.hd
  obtain ⟨a, cap, e, hm⟩ := h.opslen
  have c10 : w.cell? ⟨L.lb, 10, none⟩ = some L.ops := cell_of_row _ _ _ _ _ _ h.hd
  have c9 : w.cell? ⟨L.lb, 9, none⟩ = some (.int .i64 K.room) := cell_of_row _ _ _ _ _ _ h.hd
  rw [e] at c10
  clear h e
  go_enter Try.func17, Try.ntmps17
  go_wp2
  go_quiet (fail)
  go_wp2
  go_ret2
  exact ⟨rfl, (Ext.rfl w).drN _⟩

set_option maxRecDepth 20000 in
set_option maxHeartbeats 1000000 in
theorem begin_ok {w : World} {L : Loc} {K : SK} (h : Rep w L K) (hI : Inv K) (k : ByteArray) (ht : Nat) (h1 : 1 ≤ ht) (h8 : ht ≤ 8) (hno : ∀ i, i < K.n → K.key i ≠ k) (hr : (K.n : Int) < K.room) (hr2 : K.room ≤ 1000) :
    Calls Try.prog 17 #[.pointer (some ⟨L.lb, 0, none⟩), .string k, .int .i64 ht] w (BeginPost w L K k ht) := by
  have hlk := look_key h k (b := false) ⟨fun h => (by cases h), fun ⟨i, hi, e⟩ => absurd e (hno i hi)⟩
  have c11 : w.cell? ⟨L.lb, 11, none⟩ = some (.map (some L.mb)) := cell_of_row _ _ _ _ _ _ h.hd
  obtain ⟨a, cap, e, hm⟩ := h.opslen
  have c10 : w.cell? ⟨L.lb, 10, none⟩ = some L.ops := cell_of_row _ _ _ _ _ _ h.hd
  have c9 : w.cell? ⟨L.lb, 9, none⟩ = some (.int .i64 K.room) := cell_of_row _ _ _ _ _ _ h.hd
  obtain ⟨o, hup, ho⟩ := put_key h k hno
  have HH := hid h
  have HI := hid hI
  have HO := hid ho
  have HE := hid e
  rw [e] at c10
  clear h e hI ho
  go_enter Try.func17, Try.ntmps17
  go_wp2
  go_quiet (fail)
  go_wp2_with fail
  have hF1 : (setB (w.drewN nq) L.mb o).heap[L.lb]? = some (.cells (headC L (K.nxt none) K.room) 109 (0, 0)) := by
    obtain ⟨es, c, hmb, _⟩ := HH.out.mp
    exact (setB_other (cells_map_ne HH.out.hd hmb)).trans HH.out.hd
  have hF2 : Ch (fun b => b = L.lb ∨ b = L.mb ∨ L.ops.ownBlock = some b) w (setB (w.drewN nq) L.mb o) := ((Ch.rfl _ w).drN nq).setB (.inr (.inl rfl))
  have hF3 : (setB (w.drewN nq) L.mb o).heap[L.mb]? = some o := by
    obtain ⟨es, c, hmb, _⟩ := HH.out.mp
    exact setB_same (show L.mb < (w.drewN nq).heap.size from blk_lt hmb)
  have hF4 : (setB (w.drewN nq) L.mb o).ownsRow 0 110 1 L.ops K.n ((List.range K.n).map fun i => .pointer (some ⟨L.ob i, 0, none⟩)) :=
    owns_ch HH.out.ops fun g hg => setB_other (fun e => HH.out.own_map (by rw [hg, e]))
  generalize setB (w.drewN nq) L.mb o = w1 at hF1 hF2 hF3 hF4 ⊢
  have hs1 : (w1.alloc (.cells #[.string k, .pointer none, .pointer none, .pointer none, .pointer none, .pointer none, .pointer none, .pointer none, .pointer none] 105)).heap.size = w1.heap.size + 1 := by show (w1.heap.push _).size = _; simp
  have hs0 := hF2.size
  refine (anew_any (w1.heap.size + 1) w1.heap.size L.lb ht 0 (.pointer none) (.int .i64 0) (.pointer none) Value.nilFunc _ (by rw [← hs1]; exact heap_alloc_new _ _)).mono ?_
  rintro e w3 ⟨rfl, k1, k2⟩
  have hG1 := keep_new (((Ext.rfl w1).al _).al _) k2 (Nat.le_succ _) hF1
  have hG2 := ch_new hF2 (((Ext.rfl w1).al _).al _) k2 (Nat.le_succ _)
  have hG3 := keep_new (((Ext.rfl w1).al _).al _) k2 (Nat.le_succ _) hF3
  have hG4 : w3.ownsRow 0 110 1 L.ops K.n ((List.range K.n).map fun i => .pointer (some ⟨L.ob i, 0, none⟩)) :=
    owns_ch hF4 fun g hg => (by
      obtain ⟨_, hlt⟩ := hF4.lt g hg
      rw [keep_new (((Ext.rfl w1).al _).al _) k2 (Nat.le_succ _) (Array.getElem?_eq_getElem hlt)]; exact (Array.getElem?_eq_getElem hlt).symm)
  have hG5 := keep_new (Ext.rfl _ |>.al _) k2 (Nat.le_of_eq hs1) (heap_alloc_new w1 (.cells #[.string k, .pointer none, .pointer none, .pointer none, .pointer none, .pointer none, .pointer none, .pointer none, .pointer none] 105))
  have hG6 := k2.size
  have c10' : w3.cell? ⟨L.lb, 10, none⟩ = some L.ops := cell_of_row _ _ _ _ _ _ hG1
  have f0 : ∀ i, w3.frozen? ⟨L.lb, i, none⟩ = false := fun i => frozen_of_row _ _ _ _ _ hG1
  have K1 := hid hG1
  have K2 := hid hG2
  have K3 := hid hG3
  have K4 := hid hG4
  have K5 := hid hG5
  have K6 := hid k1
  clear k1 k2 hs1 hF1 hF2 hF3 hF4 hG1 hG2 hG3 hG4 hG5 c10 c9 c11 hup hlk
  have K7 := hid hs0
  clear hs0
  go_wp2_with (at_builtin; refine wpList_app_at (v := L.ops) opsE rfl (owns_ext K4.out ((Ext.rfl w3).al _)) rfl rfl (news_one _ _ _) (by simp [Value.oneCell']) (by omega) (Nat.zero_le _) ?_; intro v' w4 hown4 hg4 hb4; obtain ⟨g, cp, rfl, hcp, hcm⟩ := owns_shape hown4; have hM1 := keep_grown hg4 K1.out (HH.out.own_ne HH.out.hd (by decide)); have c10q : w4.cell? ⟨L.lb, 10, none⟩ = some L.ops := cell_of_row _ _ _ _ _ _ hM1; have f1 : ∀ i, w4.frozen? ⟨L.lb, i, none⟩ = false := (fun i => frozen_of_row _ _ _ _ _ hM1); have M1 := hid hM1; have M2 := hid hown4; have M3 := hid hg4; have M4 := hid hb4; clear hM1 hown4 hg4 hb4)
  go_ret2
  have hlb : ∀ {b : Nat} {x : Obj}, w3.heap[b]? = some x → L.ops.ownBlock ≠ some b → b ≠ L.lb → (w4.setCell ⟨L.lb, 10, none⟩ (.slice (some ⟨g, 0, none⟩) (K.n + 1) cp)).heap[b]? = some x := fun hb h1 h2 =>
    (heap_setCell_other _ _ _ _ h2).trans (keep_grown M3.out hb h1)
  have hnl : ∀ {b : Nat} {cs : Array Value} {T : TypeId}, w3.heap[b]? = some (.cells cs T (0, 0)) → T ≠ 110 → T ≠ 109 → (w4.setCell ⟨L.lb, 10, none⟩ (.slice (some ⟨g, 0, none⟩) (K.n + 1) cp)).heap[b]? = some (.cells cs T (0, 0)) := fun hb h1 h2 =>
    hlb hb (own_ne' K4.out hb (Ne.symm h1)) (cells_ne hb K1.out h2)
  obtain ⟨es, clock, ho1, ho2⟩ := HO.out
  have hmb : w3.heap[L.mb]? = some (.map es clock) := by rw [K3.out, ho1]
  have hch : Ch (fun b => b = L.lb ∨ b = L.mb ∨ L.ops.ownBlock = some b) w (w4.setCell ⟨L.lb, 10, none⟩ (.slice (some ⟨g, 0, none⟩) (K.n + 1) cp)) :=
    (ch_grown (K2.out.tr (Ch.of_ext ((Ext.rfl w3).al _))) M3.out (fun b hb => .inr (.inr hb))).setC (.inl rfl)
  have hsz := K7.out
  refine ⟨rfl, .slice (some ⟨g, 0, none⟩) (K.n + 1) cp, w1.heap.size + 1, w1.heap.size, rep_begin HH.out HI.out (by omega) hsz hch ?_ ⟨es, clock, ?_, ho2⟩ ?_ (hnl K5.out (by decide) (by decide)) (hnl K6.out (by decide) (by decide)), ?_, ?_⟩
  · exact heap_setCell_same _ L.lb 10 _ _ _ M1.out
  · refine hlb hmb (fun e => ?_) (fun e => cells_map_ne K1.out (by rw [e] at hmb; exact hmb) rfl)
    rcases K4.out.2 with ⟨h1, _⟩ | ⟨g', cap', cur, h1, _, hg, _⟩
    · rw [h1] at e; cases e
    · rw [h1] at e
      simp [Value.ownBlock] at e
      subst e
      exact cells_map_ne hg hmb rfl
  · refine owns_ch M2.out fun b hb => ?_
    refine heap_setCell_other _ _ _ _ (fun e => ?_)
    exact own_ne' M2.out M1.out (by decide) (by rw [hb, e])
  · exact hch.mono fun b _ hb => by
      rcases hb with h | h | h
      · exact .inl h
      · exact .inr (.inl h)
      · exact .inr (.inr (.inl h))
  · have hge : w.heap.size ≤ w3.heap.size := K2.out.size
    rintro b (h | h | h | ⟨i, hi, h⟩)
    · exact .inl (.inl h)
    · exact .inl (.inr (.inl h))
    · rcases M4.out with h' | h'
      · rw [show (L.more K.n (.slice (some ⟨g, 0, none⟩) (K.n + 1) cp) (w1.heap.size + 1) w1.heap.size).ops = .slice (some ⟨g, 0, none⟩) (K.n + 1) cp from rfl, h'] at h
        exact .inl (.inr (.inr (.inl h)))
      · rw [show (L.more K.n (.slice (some ⟨g, 0, none⟩) (K.n + 1) cp) (w1.heap.size + 1) w1.heap.size).ops = .slice (some ⟨g, 0, none⟩) (K.n + 1) cp from rfl, h'] at h
        have e : b = w3.heap.size + 1 := by
          have := (Option.some.inj h).symm
          rw [this]
          show (w3.heap.push _).size = _
          simp
        exact .inr (by omega)
    · by_cases hin : i = K.n
      · subst hin
        rw [show (L.more K.n (.slice (some ⟨g, 0, none⟩) (K.n + 1) cp) (w1.heap.size + 1) w1.heap.size).ob K.n = w1.heap.size + 1 from upd_same _ _ _, show (L.more K.n (.slice (some ⟨g, 0, none⟩) (K.n + 1) cp) (w1.heap.size + 1) w1.heap.size).nb K.n = w1.heap.size from upd_same _ _ _] at h
        exact .inr (by omega)
      · rw [show (L.more K.n (.slice (some ⟨g, 0, none⟩) (K.n + 1) cp) (w1.heap.size + 1) w1.heap.size).ob i = L.ob i from upd_other _ _ _ hin, show (L.more K.n (.slice (some ⟨g, 0, none⟩) (K.n + 1) cp) (w1.heap.size + 1) w1.heap.size).nb i = L.nb i from upd_other _ _ _ hin] at h
        exact .inl (.inr (.inr (.inr ⟨i, by omega, h⟩)))
end Go.Proofs.Ytoonhcmeklmnlaa
