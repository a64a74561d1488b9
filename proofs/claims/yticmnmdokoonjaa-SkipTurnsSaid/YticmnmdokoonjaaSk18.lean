/- What SkipTurns holds between two steps: levels that were told, and what is done. -/
import Derived.Test.YticmnmdokoonjaaSk17
set_option linter.unusedSimpArgs false
set_option linter.unusedVariables false
set_option linter.unnecessarySimpa false
namespace Go.Proofs.Yticmnmdokoonjaa
open Go.RowKit Go.Rg Go.St

theorem filter_range_one {p p' : Nat → Bool} {q : Nat} (h : ∀ j, j ≠ q → p' j = p j) : ∀ n, ((List.range n).filter p').length + (if q < n ∧ p q = true then 1 else 0) = ((List.range n).filter p).length + (if q < n ∧ p' q = true then 1 else 0)
  | 0 => by simp
  | n + 1 => by
    have ih := filter_range_one h n
    rw [List.range_succ, List.filter_append, List.filter_append, List.length_append, List.length_append]
    by_cases e : q = n
    · subst e
      have h1 : ¬ q < q := Nat.lt_irrefl q
      have h2 : q < q + 1 := Nat.lt_succ_self q
      simp only [h1, false_and, if_false, h2, true_and, List.filter_cons, List.filter_nil] at ih ⊢
      cases p q <;> cases p' q <;> simp <;> omega
    · have e2 : (q < n + 1) = (q < n) := by simp; omega
      simp only [e2, List.filter_cons, List.filter_nil, h n (fun h => e h.symm)]
      omega

/-- a step: each level has as many as it had, but the one that was come into -/
theorem cnt_step (K : SK) {q : Nat} (hq : q < K.n) (m : Nat) : cnt (stepK K q) m = cnt K m + (if K.lv q = m ∧ (stepK K q).lv q = m + 1 then 1 else 0) := by
  obtain ⟨h1, h2⟩ := stepK_lv K q
  have hn := (stepK_n K q).1
  unfold cnt
  rw [hn]
  have h := filter_range_one (p := fun j => decide (m < K.lv j)) (p' := fun j => decide (m < (stepK K q).lv j)) (q := q) (fun j hj => by rw [h1 j hj]) K.n
  simp only [hq, true_and, decide_eq_true_eq] at h
  rcases h2 with h2 | ⟨_, h2⟩
  · rw [h2] at h ⊢
    rw [if_neg (by omega)]
    omega
  · rw [h2] at h ⊢
    by_cases e : K.lv q = m
    · rw [if_neg (by omega), if_pos (by omega)] at h
      rw [if_pos ⟨e, by omega⟩]
      omega
    · rw [if_neg (by omega)]
      by_cases e2 : m < K.lv q
      · rw [if_pos e2, if_pos (by omega)] at h; omega
      · rw [if_neg e2, if_neg (by omega)] at h; omega

/-- how many came into the levels beneath one -/
def came (K : SK) (q m : Nat) : Nat := if K.lv q < m ∧ K.lv q < (stepK K q).lv q then 1 else 0
theorem came_le (K : SK) (q m : Nat) : came K q m ≤ 1 := by unfold came; split <;> omega
theorem came_succ (K : SK) {q : Nat} (hq : q < K.n) (m : Nat) : came K q m + cnt (stepK K q) m = came K q (m + 1) + cnt K m := by
  have h := cnt_step K hq m
  have h2 := (stepK_lv K q).2
  rw [h]
  unfold came
  by_cases e : K.lv q = m
  · by_cases e2 : (stepK K q).lv q = m + 1
    · rw [if_neg (by omega), if_pos ⟨e, e2⟩, if_pos (by omega)]; omega
    · rw [if_neg (by omega), if_neg (by omega), if_neg (by omega)]; omega
  · rw [if_neg (show ¬ (K.lv q = m ∧ (stepK K q).lv q = m + 1) by omega)]
    by_cases e3 : K.lv q < m ∧ K.lv q < (stepK K q).lv q
    · rw [if_pos e3, if_pos (by omega)]; omega
    · rw [if_neg e3, if_neg (by omega)]; omega
theorem step_up (K : SK) (q j : Nat) : K.lv j ≤ (stepK K q).lv j := by
  obtain ⟨h1, h2⟩ := stepK_lv K q
  by_cases e : j = q
  · subst e; omega
  · rw [h1 j e]; exact Nat.le_refl _
/-- what was in a level is in it -/
theorem keys_stay {K : SK} {q l : Nat} {js ks : List Nat} (h1 : Lvl K l js) (h2 : Lvl (stepK K q) l ks) : ∀ x, x ∈ keysOf K js → x ∈ keysOf (stepK K q) ks := by
  intro x hx
  obtain ⟨j, hj, rfl⟩ := List.mem_map.1 hx
  have := (h1.mem j).1 hj
  have hn := stepK_n K q
  refine List.mem_map.2 ⟨j, (h2.mem j).2 ⟨by rw [hn.1]; exact this.1, Nat.lt_of_lt_of_le this.2 (step_up K q j)⟩, by rw [hn.2.1]⟩
theorem key_came {K : SK} {q l : Nat} {ks : List Nat} (hq : q < K.n) (h2 : Lvl (stepK K q) l ks) (h : cnt K l < cnt (stepK K q) l) : K.key q ∈ keysOf (stepK K q) ks := by
  have h3 := cnt_step K hq l
  have hn := stepK_n K q
  have h4 : K.lv q = l ∧ (stepK K q).lv q = l + 1 := by
    by_cases e : K.lv q = l ∧ (stepK K q).lv q = l + 1
    · exact e
    · rw [if_neg e] at h3; omega
  exact List.mem_map.2 ⟨q, (h2.mem q).2 ⟨by rw [hn.1]; exact hq, by omega⟩, by rw [hn.2.1]⟩
theorem lvl_none {K : SK} (hI : Inv K) (h : ∀ j, j < K.n → K.lv j = 0) {l : Nat} (hl : l < 8) : Lvl K l [] := by
  obtain ⟨js, h1, h2, h3⟩ := hI.ch l hl
  cases js with
  | nil => exact ⟨h1, h2, h3⟩
  | cons j js =>
    have h4 := (h3 j).1 (List.mem_cons_self ..)
    have := h j h4.1
    omega
theorem begK_lv {room : Int} : ∀ (ps : List Put) (j : Nat), (begK (SK.new room) ps).lv j = 0 := by
  intro ps
  have key : ∀ (ps : List Put) (K : SK), (∀ j, K.lv j = 0) → ∀ j, (begK K ps).lv j = 0 := by
    intro ps
    induction ps with
    | nil => intro K h j; exact h j
    | cons p ps ih =>
      intro K h j
      show (begK (if p.1 ∈ keysK K then K else beginK K p.1 (hgt p.2)) ps).lv j = 0
      refine ih _ (fun i => ?_) j
      split
      · exact h i
      · show upd K.lv K.n 0 i = 0
        unfold upd; split
        · rfl
        · exact h i
  exact key ps _ (fun _ => rfl)

/-! ### in memory -/
theorem Row.held {B B2 lb : Nat} {w0 wr : World} {K K' : SK} {kv hv : Value} {base : Nat} {E : TypeId} {g n : Nat} {f : Nat → Value} (hr : Row wr base E g n f) (h : Held B B2 lb w0 wr K K' kv hv)
    (he : ¬ skipTy E) (h1 : E ≠ 9) (h2 : E ≠ 3) (hb : w0.heap.size ≤ base) (i : Nat) (u : Value) : Held B B2 lb w0 (wr.setCell ⟨g, i, none⟩ u) K K' kv hv := by
  have hg : wr.grownBy (wr.setCell ⟨g, i, none⟩ u) (Value.slice (some ⟨g, 0, none⟩) n n).ownBlock := grown_set
  refine ⟨h.li.grown hr he hg, h.sm, owns_beside h.ks hr (Ne.symm h1) hg, owns_beside h.hs hr (Ne.symm h2) hg, h.ex.trans (below_grown hr ?_ hg |>.mono hb), h.le⟩
  have := (World.ownsRow.lt hr g rfl)
  omega
theorem Row.keeps {B : Nat} {w w' : World} {base : Nat} {E : TypeId} {g n : Nat} {f : Nat → Value} (hr : Row w base E g n f) (h : Keeps B w w') (he : ¬ skipTy E) : Row w' base E g n f := owns_keeps hr h he
theorem Row.ext {w w' : World} {base : Nat} {E : TypeId} {g n : Nat} {f : Nat → Value} (hr : Row w base E g n f) (h : Ext w w') : Row w' base E g n f := owns_ext hr h

/-- all that SkipTurns holds; each level as it was told last -/
structure Turn (B B2 lb D T : Nat) (w0 wr : World) (K K' : SK) (L : Nat → SK) (dn : Nat → Bool) (f : Nat → Value) (kv hv : Value) : Prop where
  hd : Held B B2 lb w0 wr K K' kv hv
  dr : Row wr B2 4 D K.n (fun i => .bool (dn i))
  tr : Row wr B2 63 T 8 f
  lv : ∀ l, l < 8 → ∃ js, Lvl (L l) l js ∧ wr.ownsRow B2 9 1 (f l) js.length ((keysOf (L l) js).map .string)
  le : w0.heap.size ≤ B2

theorem Turn.base {B B2 lb D T : Nat} {w0 wr : World} {K K' : SK} {L : Nat → SK} {dn : Nat → Bool} {f : Nat → Value} {kv hv : Value} (h : Turn B B2 lb D T w0 wr K K' L dn f kv hv) : B2 ≤ wr.heap.size := by
  have := World.ownsRow.lt h.dr D rfl
  omega
theorem has_yes {v : Value} {xs : List ByteArray} {key : ByteArray} {w : World} (h : SlStr w v xs) (hk : decide (key ∈ xs) = true) :
    Calls Try.prog 36 #[v, .string key] w fun e w' => e = .returned (.bool true) ∧ w' = w :=
  (has_in v xs key w h).mono fun _ _ hp => ⟨by rw [hp.1, hk], hp.2.symm⟩
theorem Turn.go {B B2 lb D T : Nat} {w0 wr w' : World} {K K' K'' : SK} {L : Nat → SK} {dn : Nat → Bool} {f : Nat → Value} {kv hv : Value} (h : Turn B B2 lb D T w0 wr K K' L dn f kv hv) (hl : ListAt B lb w' K'') (hs : Same K K'') (hk : Keeps B wr w') : Turn B B2 lb D T w0 w' K K'' L dn f kv hv :=
  ⟨h.hd.go hl hs hk, h.dr.keeps hk (by simp [skipTy]), h.tr.keeps hk (by simp [skipTy]), fun l hl => by obtain ⟨js, h1, h2⟩ := h.lv l hl; exact ⟨js, h1, owns_keeps h2 hk (by simp [skipTy])⟩, h.le⟩
theorem Turn.ext {B B2 lb D T : Nat} {w0 wr w' : World} {K K' : SK} {L : Nat → SK} {dn : Nat → Bool} {f : Nat → Value} {kv hv : Value} (h : Turn B B2 lb D T w0 wr K K' L dn f kv hv) (he : Ext wr w') : Turn B B2 lb D T w0 w' K K' L dn f kv hv :=
  h.go (h.hd.li.ext he) h.hd.sm (Keeps.of_ext he)
theorem Turn.setD {B B2 lb D T : Nat} {w0 wr : World} {K K' : SK} {L : Nat → SK} {dn : Nat → Bool} {f : Nat → Value} {kv hv : Value} (h : Turn B B2 lb D T w0 wr K K' L dn f kv hv) {i : Nat} (hi : i < K.n) (b : Bool) : Turn B B2 lb D T w0 (wr.setCell ⟨D, i, none⟩ (.bool b)) K K' L (upd dn i b) f kv hv := by
  have hg : wr.grownBy (wr.setCell ⟨D, i, none⟩ (.bool b)) (Value.slice (some ⟨D, 0, none⟩) K.n K.n).ownBlock := grown_set
  refine ⟨h.dr.held h.hd (by simp [skipTy]) (by decide) (by decide) h.le i _, (h.dr.set hi (.bool b)).cong (fun j hj => ?_), owns_beside h.tr h.dr (by decide) hg, fun l hl => ?_, h.le⟩
  · unfold upd; split <;> rfl
  · obtain ⟨js, h1, h2⟩ := h.lv l hl
    exact ⟨js, h1, owns_beside h2 h.dr (by decide) hg⟩
theorem Turn.setT {B B2 lb D T : Nat} {w0 wr : World} {K K' : SK} {L : Nat → SK} {dn : Nat → Bool} {f : Nat → Value} {kv hv : Value} (h : Turn B B2 lb D T w0 wr K K' L dn f kv hv) {l : Nat} (hl : l < 8) {v : Value} {js : List Nat} (hj : Lvl K' l js) (hv' : wr.ownsRow B2 9 1 v js.length ((keysOf K' js).map .string)) :
    Turn B B2 lb D T w0 (wr.setCell ⟨T, l, none⟩ v) K K' (upd L l K') dn (upd f l v) kv hv := by
  have hg : wr.grownBy (wr.setCell ⟨T, l, none⟩ v) (Value.slice (some ⟨T, 0, none⟩) 8 8).ownBlock := grown_set
  refine ⟨h.tr.held h.hd (by simp [skipTy]) (by decide) (by decide) h.le l _, owns_beside h.dr h.tr (by decide) hg, h.tr.set hl v, fun i hi => ?_, h.le⟩
  by_cases e : i = l
  · subst e; rw [upd_same, upd_same]; exact ⟨js, hj, owns_beside hv' h.tr (by decide) hg⟩
  · rw [upd_other _ _ _ e, upd_other _ _ _ e]
    obtain ⟨js, h1, h2⟩ := h.lv i hi
    exact ⟨js, h1, owns_beside h2 h.tr (by decide) hg⟩
theorem Turn.cong {B B2 lb D T : Nat} {w0 wr : World} {K K' : SK} {L L' : Nat → SK} {dn dn' : Nat → Bool} {f : Nat → Value} {kv hv : Value} (h : Turn B B2 lb D T w0 wr K K' L dn f kv hv) (hL : ∀ l, l < 8 → L l = L' l) (hd : ∀ i, i < K.n → dn i = dn' i) : Turn B B2 lb D T w0 wr K K' L' dn' f kv hv :=
  ⟨h.hd, h.dr.cong (fun i hi => by rw [hd i hi]), h.tr, fun l hl => by rw [← hL l hl]; exact h.lv l hl, h.le⟩
theorem ext_grown_none {w w' : World} (h : w.grownBy w' none) : Ext w w' := ⟨h.os, h.tape, h.output, h.size, fun k hk => h.block k hk (fun e => by cases e)⟩
theorem row_made {w : World} {base : Nat} {E : TypeId} {g n : Nat} {z : Value} (h : w.ownsRow base E 1 (.slice (some ⟨g, 0, none⟩) n n) n (madeCells #[z] (n * 1)).toList) : Row w base E g n (fun _ => z) := by
  unfold Row
  rw [Nat.mul_one, toList_madeCells_one] at h
  rw [List.map_const', List.length_range]
  exact h
theorem Row.sl1 {w : World} {base : Nat} {E : TypeId} {g n : Nat} {f : Nat → Value} (h : Row w base E g n f) : Sl1 w (.slice (some ⟨g, 0, none⟩) n n) n f := Sl1.cong (owns_sl1 h) fun i hi => by simp [hi]

theorem looks_turn {B B2 lb D T : Nat} {w0 wr : World} {K K' : SK} {L : Nat → SK} {dn : Nat → Bool} {f : Nat → Value} {kv hv : Value} (h : Turn B B2 lb D T w0 wr K K' L dn f kv hv) (hn : K.n ≤ 60) (hd : ∀ i, i < K.n → dn i = decide (K'.lv i = K.ht i)) :
    Calls Try.prog 33 #[.pointer (some ⟨lb, 0, none⟩), kv, hv, .slice (some ⟨D, 0, none⟩) K.n K.n] wr (BoolExt true wr) := by
  have e1 := h.hd.sm.n
  have e2 := h.hd.sm.key
  have e3 := h.hd.sm.ht
  refine looks_in (dn := dn) h.hd.li (by omega) ?_ ?_ ?_ ?_
  · rw [e1, e2]; exact h.hd.keyc
  · rw [e1, e3]; exact h.hd.htc
  · rw [e1]; exact h.dr.sl1
  · intro i hi ht
    rw [e1] at hi
    rw [hd i hi] at ht
    rw [e3]
    exact of_decide_eq_true ht
end Go.Proofs.Yticmnmdokoonjaa
