/- Snapshots, the document's: the set in memory; Take, Seq, Release. -/
import Derived.Test.YtjekfifnhdoamaaSn7
import Derived.Deep.RegionLaw
import Derived.OwnWalk
set_option linter.unusedSimpArgs false
set_option linter.unusedVariables false
set_option linter.unnecessarySimpa false
namespace Go.Proofs.Ytjekfifnhdoamaa
open Go.RowKit Go.Rg Go.St

theorem step_appS {P : Program} {ops : Array Oper} {o : Oper} {a : Act} {w : World} {K : Act → World → Prop} {Q : Exit → Act → World → Prop} {C : Prop}
    (hg : o.guard = none) (s x : Operand) (T : TypeId) (hop : o.op = Op.call { callee := Callee.builtin Builtin.append, args := #[s, x], argTypes := #[T, T] })
    {E : TypeId} {sz bt : Nat} (hT : ElT P T E sz bt) {base : Nat} {v : Value} {n : Nat} {xs : List Value} (hs : a.eval s = v) (hown : w.ownsRow base E sz v n xs)
    {ad : Addr} {m c : Nat} {news : List Value} (hx : a.eval x = .slice (some ad) m c) (hl : news.length = m * sz) (hnews : ∀ j u, news[j]? = some u → w.cell? (ad.add j) = some u) (h1 : ∀ u ∈ news, u.oneCell' = true)
    (hbytes : (n + m) * bt ≤ 140737488355328) (hbase : base ≤ w.heap.size)
    (hK : ∀ v' w', w'.ownsRow base E sz v' (n + m) (xs ++ news) → Below base w w' → K (a.put o.dst v') w') :
    if Region.wanted o (yielded ops a.tmps) = true then Oper.wp P o a w K Q else C := by
  have hw : Region.wanted o (yielded ops a.tmps) = true := by simp [Region.wanted, hg]
  rw [if_pos hw]
  obtain ⟨i, z, hi, hz, h2, h3, h4⟩ := hT.parts
  have hm : n + m ≤ maxLen := by
    have := Nat.le_trans (Nat.le_mul_of_pos_right (n + m) hT.bpos) hbytes
    simp only [maxLen]; omega
  obtain ⟨v', w', hrun, r1, r2, _⟩ := run_append_own (P := P) w base T o.type E i z sz bt hT.und hi hz h2 h3 h4 hT.pos v n xs hown ad m c news hl hnews h1 hm hbytes hbase
  unfold Oper.wp
  simp [execOp, hop, resolve, invoke, builtin, hs, hx, hrun, Result.andThen]
  exact hK _ _ r1 (below_grown hown hbase r2)

def eSnap (p : Int × Int × Nat) : List Value := [.int .i64 p.1, .int .u64 p.2.1]
theorem snapE : ElT Try.prog 27 84 2 16 := ⟨by kernel_rfl, by kernel_rfl, by decide, by decide⟩
theorem eSnap_len (L : Hd) : (L.flatMap eSnap).length = L.length * 2 := by
  induction L with
  | nil => rfl
  | cons p t ih => rw [List.flatMap_cons, List.length_append, ih, List.length_cons]; simp [eSnap]; omega
theorem eSnap_get (L : Hd) {k : Nat} {p : Int × Int × Nat} (hk : L[k]? = some p) : (L.flatMap eSnap)[k * 2]? = some (.int .i64 p.1) ∧ (L.flatMap eSnap)[k * 2 + 1]? = some (.int .u64 p.2.1) := by
  induction L generalizing k with
  | nil => cases hk
  | cons q t ih =>
    cases k with
    | zero => simp at hk; subst hk; exact ⟨rfl, rfl⟩
    | succ k =>
      have := ih (k := k) (by simpa using hk)
      rw [List.flatMap_cons, show (k + 1) * 2 = k * 2 + 1 + 1 by omega]
      exact this
/-- the document's set in memory -/
structure RefS (rb : Nat) (L : Hd) (taken : Int) (w : World) : Prop where
  ex : ∃ v, w.heap[rb]? = some (.cells #[v, .int .i64 taken] 29 (0, 0)) ∧ w.ownsRow (rb + 1) 84 2 v L.length (L.flatMap eSnap)
theorem RefS.go {rb : Nat} {L : Hd} {taken : Int} {w w' : World} (h : RefS rb L taken w) (he : Ext w w') : RefS rb L taken w' := by
  obtain ⟨v, h1, h2⟩ := h.ex
  exact ⟨v, (he.block _ (lt_of_at h1)).trans h1, owns_ext h2 he⟩
theorem RefS.lt {rb : Nat} {L : Hd} {taken : Int} {w : World} (h : RefS rb L taken w) : rb < w.heap.size := by
  obtain ⟨v, h1, _⟩ := h.ex; exact lt_of_at h1
theorem owns_only {sb mb rb : Nat} {w w' : World} {e : TypeId} {sz : Nat} {v : Value} {n : Nat} {xs : List Value} (hown : w.ownsRow (rb + 1) e sz v n xs) (h : Only sb mb w w') (h1 : sb < rb) (h2 : mb < rb) : w'.ownsRow (rb + 1) e sz v n xs := by
  refine ⟨hown.1, ?_⟩
  rcases hown.2 with h0 | ⟨g, cap, cur, rfl, hb, hg, rest⟩
  · exact .inl h0
  · exact .inr ⟨g, cap, cur, rfl, hb, by rw [h.block g (lt_of_at hg) (by omega) (by omega)]; exact hg, rest⟩
theorem RefS.only {sb mb rb : Nat} {L : Hd} {taken : Int} {w w' : World} (h : RefS rb L taken w) (ho : Only sb mb w w') (h1 : sb < rb) (h2 : mb < rb) : RefS rb L taken w' := by
  obtain ⟨v, x1, x2⟩ := h.ex
  exact ⟨v, (ho.block _ (lt_of_at x1) (by omega) (by omega)).trans x1, owns_only x2 ho h1 h2⟩
/-- its list, as a slice -/
theorem RefS.parts {rb : Nat} {L : Hd} {taken : Int} {w : World} (h : RefS rb L taken w) :
    ∃ a cap, w.cell? ⟨rb, 0, none⟩ = some (.slice a L.length cap) ∧ w.cell? ⟨rb, 1, none⟩ = some (.int .i64 taken) ∧ (∀ i, w.frozen? ⟨rb, i, none⟩ = false) ∧ w.ownsRow (rb + 1) 84 2 (.slice a L.length cap) L.length (L.flatMap eSnap) := by
  obtain ⟨v, h1, h2⟩ := h.ex
  obtain ⟨a, cap, rfl, _⟩ := slice_of h2
  exact ⟨a, cap, by rw [cell_of_row _ _ _ _ _ _ h1]; rfl, by rw [cell_of_row _ _ _ _ _ _ h1]; rfl, fun i => frozen_of_row _ _ _ _ _ h1, h2⟩
theorem own_cells {base : Nat} {L : Hd} {a : Option Addr} {cap : Nat} {w : World} (h : w.ownsRow base 84 2 (.slice a L.length cap) L.length (L.flatMap eSnap)) {k : Nat} (hk : k < L.length) :
    ∃ g, a = some ⟨g, 0, none⟩ ∧ base ≤ g ∧ w.cell? ⟨g, k * 2, none⟩ = some (.int .i64 L[k].1) ∧ w.cell? ⟨g, k * 2 + 1, none⟩ = some (.int .u64 L[k].2.1) := by
  rcases h.2 with ⟨h0, h1⟩ | ⟨g, cap', cur, h1, hb, hg, hnc, hm, hcs, htk⟩
  · omega
  · simp only [Value.slice.injEq] at h1
    obtain ⟨rfl, _, rfl⟩ := h1
    obtain ⟨e1, e2⟩ := eSnap_get L (List.getElem?_eq_getElem hk)
    refine ⟨g, rfl, hb, ?_, ?_⟩
    · rw [cell_of_row _ _ _ _ _ _ hg]
      have : (cur.toList.take (L.length * 2))[k * 2]? = some (.int .i64 L[k].1) := by rw [htk]; exact e1
      rw [List.getElem?_take, if_pos (by omega)] at this
      simpa using this
    · rw [cell_of_row _ _ _ _ _ _ hg]
      have : (cur.toList.take (L.length * 2))[k * 2 + 1]? = some (.int .u64 L[k].2.1) := by rw [htk]; exact e2
      rw [List.getElem?_take, if_pos (by omega)] at this
      simpa using this

def RefMid (rb : Nat) (L : Hd) (taken seq : Int) (w0 w : World) : Prop :=
  ∃ a cap, w.heap[rb]? = some (.cells #[.slice a (L.length + 1) cap, .int .i64 taken] 29 (0, 0)) ∧ w.ownsRow (rb + 1) 84 2 (.slice a (L.length + 1) cap) (L.length + 1) (L.flatMap eSnap ++ [.int .i64 taken, .int .u64 seq]) ∧ Below rb w0 w
theorem owns_set {base : Nat} {w : World} {e : TypeId} {sz : Nat} {v : Value} {n : Nat} {xs : List Value} (hown : w.ownsRow base e sz v n xs) (rb i : Nat) (u : Value) (h : rb < base) : (w.setCell ⟨rb, i, none⟩ u).ownsRow base e sz v n xs := by
  refine ⟨hown.1, ?_⟩
  rcases hown.2 with h0 | ⟨g, cap, cur, rfl, hb, hg, rest⟩
  · exact .inl h0
  · exact .inr ⟨g, cap, cur, rfl, hb, (heap_setCell_other _ _ _ _ (show g ≠ rb by omega)).trans hg, rest⟩
theorem row_is {rb : Nat} {L : Hd} {taken : Int} {w : World} {v : Value} (h : RefS rb L taken w) (hc : w.cell? ⟨rb, 0, none⟩ = some v) : w.heap[rb]? = some (.cells #[v, .int .i64 taken] 29 (0, 0)) := by
  obtain ⟨v', h1, _⟩ := h.ex
  rw [cell_of_row _ _ _ _ _ _ h1] at hc
  simp at hc
  rw [← hc]; exact h1
theorem row_cell0 {rb : Nat} {w : World} {v u : Value} {T : TypeId} {fr : Nat × Nat} (h : w.heap[rb]? = some (.cells #[v, u] T fr)) : w.cell? ⟨rb, 0, none⟩ = some v := by
  rw [cell_of_row _ _ _ _ _ _ h]; rfl
theorem row_cell1 {rb : Nat} {w : World} {v u : Value} {T : TypeId} {fr : Nat × Nat} (h : w.heap[rb]? = some (.cells #[v, u] T fr)) : w.cell? ⟨rb, 1, none⟩ = some u := by
  rw [cell_of_row _ _ _ _ _ _ h]; rfl
theorem news_at1 (w : World) (cs : Array Value) (T : TypeId) : ∀ j u, cs.toList[j]? = some u → (w.alloc (.cells cs T)).cell? ((⟨w.heap.size, 0, none⟩ : Addr).add j) = some u := by
  intro j u h
  have hr := heap_alloc_new w (.cells cs T)
  simp only [Addr.add]
  split
  · rename_i h0; subst h0; rw [cell_of_row _ _ _ _ _ _ hr]; simpa using h
  · rw [Nat.zero_add, cell_of_row _ _ _ _ _ _ hr]; simpa using h
theorem one_snap (a b : Int) : ∀ u ∈ ([.int .i64 a, .int .u64 b] : List Value), u.oneCell' = true := by
  intro u hu
  simp at hu
  rcases hu with rfl | rfl <;> rfl

set_option maxRecDepth 100000 in
set_option maxHeartbeats 4000000 in
theorem take20_full (rb : Nat) (L : Hd) (taken seq : Int) (w : World) (h : RefS rb L taken w) (hn : 100 ≤ L.length) :
    Calls Try.prog 16 #[.pointer (some ⟨rb, 0, none⟩), .int .u64 seq] w (fun e w' => e = .returned (.tuple #[.int .i64 0, .int .i64 201]) ∧ w = w') := by
  obtain ⟨a, cap, c0, c1, ff, ho⟩ := h.parts
  have dn : decide (100 ≤ (L.length : Int)) = true := decide_eq_true (by omega)
  clear h ho
  go_enter Try.func16, Try.ntmps16
  go_wp2_with fail
  go_ret2
  exact ⟨rfl, rfl⟩
set_option maxRecDepth 100000 in
set_option maxHeartbeats 4000000 in
theorem take20_in (rb : Nat) (L : Hd) (taken seq : Int) (clock : Nat) (w : World) (h : RefS rb L taken w) (hn : L.length < 100) (h0 : 0 ≤ taken) (ht : taken < 4611686018427387904) :
    Calls Try.prog 16 #[.pointer (some ⟨rb, 0, none⟩), .int .u64 seq] w (fun e w' => e = .returned (.tuple #[.int .i64 taken, .int .i64 0]) ∧ RefS rb (L ++ [(taken, seq, clock)]) (taken + 1) w' ∧ Below rb w w') := by
  have H := hid h
  obtain ⟨a, cap, c0, c1, ff, ho⟩ := h.parts
  have HO := hid ho
  have dn : decide (100 ≤ (L.length : Int)) = false := decide_eq_false (by omega)
  have hnl : ¬ 100 ≤ L.length := by omega
  have HT := hid (And.intro h0 ht)
  have HLT := hid h.lt
  have HROW := hid (show w.heap[rb]? = some (.cells #[.slice a L.length cap, .int .i64 taken] 29 (0, 0)) from row_is h c0)
  clear h ho h0 ht
  go_enter Try.func16, Try.ntmps16
  have hlt : rb < w.heap.size := HLT.out
  have hne : w.heap.size ≠ rb := Nat.ne_of_gt hlt
  go_wp2_with fail
  go_region_law (refine step_appS rfl (.tmp 16) (.tmp 23) 27 rfl snapE (by simp [Act.eval, Act.put]) (owns_ext HO.out (show Ext w (w.drew.alloc _) from (Ext.rfl w).dr.al _)) (ad := ⟨w.heap.size, 0, none⟩) (m := 1) (c := 1) (news := [.int .i64 taken, .int .u64 seq]) (by simp [Act.eval, Act.put]) rfl (news_at1 w.drew #[.int .i64 taken, .int .u64 seq] 84) (one_snap taken seq) (by have := hn; omega) (Nat.le_trans (Nat.succ_le_of_lt HLT.out) ((Ext.rfl w).dr.al (.cells #[.int .i64 taken, .int .u64 seq] 84)).size) ?_; intro v' w6 hown6 hb6; obtain ⟨a6, cap6, rfl, _⟩ := slice_of hown6; have HR6 := hid ((hb6.block rb (Nat.lt_succ_self rb)).trans ((((Ext.rfl w).dr.al (.cells #[.int .i64 taken, .int .u64 seq] 84)).block rb HLT.out).trans HROW.out)); have d0 := row_cell0 HR6.out; have d1 := row_cell1 HR6.out; have df : ∀ i, w6.frozen? ⟨rb, i, none⟩ = false := fun i => frozen_of_row _ _ _ _ _ HR6.out; have HO6 := hid hown6; have HB6 := hid (Below.trans (show Below rb w (w.drew.alloc (.cells #[.int .i64 taken, .int .u64 seq] 84)) from Below.mono ((Ext.rfl w).dr.al _) (Nat.le_of_lt HLT.out)) (Below.mono hb6 (Nat.le_succ rb))); clear hown6 hb6)
  all_goals
    have RR := hid (show RefMid rb L taken seq w (w6.setCell ⟨rb, 0, none⟩ (.slice a6 (L.length + 1) cap6)) from ⟨a6, cap6, (heap_setCell_same _ _ _ _ _ _ HR6.out).trans rfl, owns_set HO6.out rb 0 _ (Nat.lt_succ_self rb), Below.setCell (p := ⟨rb, 0, none⟩) HB6.out (Nat.le_refl rb) _⟩)
    generalize w6.setCell ⟨rb, 0, none⟩ (.slice a6 (L.length + 1) cap6) = wz at *
    clear d0 d1 df HR6 HO6 HB6 c0 c1 ff dn hnl
    obtain ⟨a7, cap7, hrow7, ho7, hb7⟩ := RR.out
    have HO7 := hid ho7
    have HB7 := hid hb7
    have HR7 := hid hrow7
    have d0 := row_cell0 hrow7
    have d1 := row_cell1 hrow7
    have df : ∀ i, wz.frozen? ⟨rb, i, none⟩ = false := fun i => frozen_of_row _ _ _ _ _ HR7.out
    clear hrow7 ho7 hb7 RR
    go_wp2_with fail
    have hw : wrap64 (taken + 1) = taken + 1 := by have := HT.out; unfold wrap64; omega
    have hw2 : wrap64 (taken + 1 - 1) = taken := by have := HT.out; unfold wrap64; omega
    rw [hw, hw2]
    go_ret2
    refine ⟨rfl, ⟨.slice a7 (L.length + 1) cap7, (heap_setCell_same _ _ _ _ _ _ HR7.out).trans rfl, ?_⟩, Below.setCell (p := ⟨rb, 1, none⟩) HB7.out (Nat.le_refl rb) _⟩
    have := owns_set HO7.out rb 1 (.int .i64 (taken + 1)) (Nat.lt_succ_self rb)
    rw [List.length_append, List.flatMap_append]
    exact this
/-- Seq -/
theorem numS_at (L : Hd) (id : Int) (k : Nat) (hk : k < L.length) (hid' : L[k].1 = id) (hno : ∀ j, (h : j < k) → L[j].1 ≠ id) : numS L id = some L[k].2.1 := by
  unfold numS
  have : L.find? (fun p => p.1 == id) = some L[k] := by
    rw [List.find?_eq_some_iff_getElem]
    refine ⟨by simp [hid'], k, hk, rfl, fun j hj => ?_⟩
    have := hno j hj
    simpa using this
  rw [this]; rfl
theorem numS_none (L : Hd) (id : Int) (hno : ∀ j, (h : j < L.length) → L[j].1 ≠ id) : numS L id = none := by
  unfold numS
  rw [List.find?_eq_none.2 (fun x hx => by
    obtain ⟨j, hj, rfl⟩ := List.getElem_of_mem hx
    simpa using hno j hj)]
  rfl
set_option maxRecDepth 100000 in
set_option maxHeartbeats 4000000 in
theorem seq20_in (rb : Nat) (L : Hd) (taken id : Int) (w : World) (h : RefS rb L taken w) (hn : L.length ≤ 100) :
    Calls Try.prog 18 #[.pointer (some ⟨rb, 0, none⟩), .int .i64 id] w (fun e w' => e = .returned (.tuple #[.int .u64 ((numS L id).getD 0), .int .i64 (seqC L id)]) ∧ Ext w w') := by
  obtain ⟨a, cap, c0, c1, ff, ho⟩ := h.parts
  have HO := hid ho
  have HC0 := hid c0
  clear h c0 c1 ff ho
  go_enter Try.func18, Try.ntmps18
  go_wp2_with fail
  go_loopw [6] (fun t wr => ∃ k : Nat, k ≤ L.length ∧ t = .int .i64 k ∧ Ext w wr ∧ ∀ j, (h : j < L.length) → j < k → L[j].1 ≠ id) (fun t _ => L.length - (intOf t).toNat)
  case atStart => exact ⟨0, Nat.zero_le _, rfl, Ext.rfl _, fun j _ h => absurd h (Nat.not_lt_zero _)⟩
  case round =>
    obtain ⟨k, hk, rfl, he, hno⟩ := hrel
    have HE := hid he
    have HNO := hid hno
    clear he hno
    have c0 := ext_cell HE.out HC0.out
    by_cases hkl : k < L.length
    · obtain ⟨g, rfl, hg, e0, e1⟩ := own_cells HO.out hkl
      have f0 := ext_cell HE.out e0
      have f1 := ext_cell HE.out e1
      clear hg e0 e1
      obtain ⟨pid, hpid⟩ : ∃ x, x = L[k].1 := ⟨_, rfl⟩
      obtain ⟨pv, hpv⟩ : ∃ x, x = L[k].2.1 := ⟨_, rfl⟩
      rw [← hpid] at f0
      rw [← hpv] at f1
      have HPI := hid (And.intro hpid hpv)
      clear hpid hpv
      by_cases hp : pid = id
      · have hnum := numS_at L id k hkl (HPI.out.1 ▸ hp) (fun j hj => HNO.out j (by omega) hj)
        rw [← HPI.out.2] at hnum
        have HN := hid hnum
        clear hnum
        subst hp
        go_wp2_with fail
        go_ret2
        exact ⟨by unfold seqC; rw [HN.out]; rfl, HE.out⟩
      · have hpe : (pid == id) = false := by simpa using hp
        have hpd : decide (pid = id) = false := decide_eq_false hp
        go_wp2_with fail
        go_roundw
        case rel => exact ⟨k + 1, by omega, by go_num, HE.out, fun j hj hjk => by
          by_cases c : j = k
          · subst c; rw [← HPI.out.1]; exact hp
          · exact HNO.out j hj (by omega)⟩
        case measure => first | (simp [intOf]; done) | (simp [intOf]; omega)
    · have HN := hid (numS_none L id (fun j hj => HNO.out j hj (by omega)))
      go_wp2_with fail
      go_ret2
      exact ⟨by unfold seqC; rw [HN.out]; rfl, HE.out⟩
end Go.Proofs.Ytjekfifnhdoamaa
