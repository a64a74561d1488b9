/- The walks of the laws ScoreOrders, ScorePicks, ScoreTells. -/
import Derived.Test.YtkoakneibonjhaaSc3
import Derived.Test.YtkoakneibonjhaaFltO
set_option linter.unusedSimpArgs false
set_option linter.unusedVariables false
set_option linter.unnecessarySimpa false
namespace Go.Proofs.Ytkoakneibonjhaa
open Go.RowKit Go.Rg Go.St

theorem cf_rpick (args : Array Value) (w : World) : (callFunc 19 args).run Try.prog w = .ok (.enter 19 args) w := by kernel_rfl

set_option maxHeartbeats 1000000 in
theorem scoreOrders_walk (a b c : Nat) (v : Value) (l : List Nat) (w : World) (hv : SlFloat w v l) :
    Calls Try.prog 3 #[.float .f64 a, .float .f64 b, .float .f64 c, v] w (TruePost w) := by
  have r1 := fOrd_rev a b
  have r2 := fOrd_self a
  have r3 := fOrd_tri a b
  have r4 := hid (fOrd_trans a b c)
  have hv' := hid (fun w' (he : Ext w w') => hv.go he)
  clear hv
  go_enter Try.func3, Try.ntmps3
  go_wp2_with (first | (go_at_call 15; refine (awake18 _).mono ?_; rintro e w1 ⟨rfl, he1⟩) | (go_at_call 16; refine (order_any _ _ _).mono ?_; rintro e w' ⟨rfl, rfl⟩) | (go_at_call 17; refine (rorder_any _ _ _).mono ?_; rintro e w' ⟨rfl, rfl⟩) | (go_at_call 18; refine (pick_any l v _ (hv'.out _ he1)).mono ?_; rintro e w2 ⟨rfl, he2⟩) | (go_at_call 19; refine (rpick_any l v _ (hv'.out _ (he1.tr he2))).mono ?_; rintro e w3 ⟨rfl, he3⟩))
  all_goals first | (exfalso; have h9 := r4.out (by assumption) (by assumption); omega) | (go_ret; exact ⟨by simp, (he1.tr he2).tr he3⟩)

theorem pk_none (l : List Nat) : ∀ k, pk l k < 0 → ∀ i, i < k → fOrd (nth l i) fone < 0 := by
  intro k
  induction k with
  | zero => intro _ i hi; omega
  | succ k ih =>
    intro h i hi
    simp only [pk] at h
    split at h
    · omega
    · rename_i hn
      have h0 := ih h
      by_cases hik : i < k
      · exact h0 i hik
      · obtain rfl : i = k := by omega
        have : ¬ (0 ≤ fOrd (nth l i) 4607182418800017408) := fun h1 => hn ⟨h1, .inl h⟩
        show fOrd (nth l i) 4607182418800017408 < 0
        omega

theorem pk_some (l : List Nat) : ∀ k, 0 ≤ pk l k → 0 ≤ fOrd (nth l (pk l k).toNat) fone ∧ ∀ i, i < k → fOrd (nth l i) (nth l (pk l k).toNat) ≤ 0 ∧ (fOrd (nth l i) (nth l (pk l k).toNat) = 0 → (pk l k).toNat ≤ i) := by
  intro k
  induction k with
  | zero => intro h; simp [pk] at h
  | succ k ih =>
    intro h
    have hbd := pk_bd l k
    by_cases hc : 0 ≤ fOrd (nth l k) 4607182418800017408 ∧ (pk l k < 0 ∨ 0 < fOrd (nth l k) (nth l (pk l k).toNat))
    · have e : pk l (k + 1) = k := by simp only [pk]; rw [if_pos hc]
      rw [e, Int.toNat_natCast]
      refine ⟨hc.1, fun i hi => ?_⟩
      by_cases hik : i < k
      · have key : fOrd (nth l i) (nth l k) < 0 := by
          rcases Int.lt_or_le (pk l k) 0 with hneg | hpos
          · have h1 := pk_none l k hneg i hik
            have h2 := fOrd_rev (nth l k) fone
            have h3 : fOrd fone (nth l k) ≤ 0 := by have := hc.1; rw [h2]; show - fOrd (nth l k) 4607182418800017408 ≤ 0; omega
            exact (fOrd_trans _ _ _ (Int.le_of_lt h1) h3).2.2 h1
          · have h1 := (ih hpos).2 i hik
            have h2 := fOrd_rev (nth l k) (nth l (pk l k).toNat)
            have h3 : 0 < fOrd (nth l k) (nth l (pk l k).toNat) := by rcases hc.2 with h | h <;> omega
            exact (fOrd_trans _ _ _ h1.1 (by omega)).2.1 (by omega)
        exact ⟨by omega, fun h0 => by omega⟩
      · obtain rfl : i = k := by omega
        rw [fOrd_self]; exact ⟨by omega, fun _ => Nat.le_refl _⟩
    · have e : pk l (k + 1) = pk l k := by simp only [pk]; rw [if_neg hc]
      rw [e] at h ⊢
      obtain ⟨h1, h2⟩ := ih h
      refine ⟨h1, fun i hi => ?_⟩
      by_cases hik : i < k
      · exact h2 i hik
      · obtain rfl : i = k := by omega
        by_cases hf : 0 ≤ fOrd (nth l i) 4607182418800017408
        · have : ¬ (pk l i < 0 ∨ 0 < fOrd (nth l i) (nth l (pk l i).toNat)) := fun h3 => hc ⟨hf, h3⟩
          exact ⟨by omega, fun _ => by omega⟩
        · have h3 := fOrd_rev (nth l (pk l i).toNat) fone
          have h4 : fOrd (nth l i) fone < 0 := by show fOrd (nth l i) 4607182418800017408 < 0; omega
          have := (fOrd_trans (nth l i) fone (nth l (pk l i).toNat) (Int.le_of_lt h4) (by omega)).2.2 h4
          exact ⟨by omega, fun h0 => by omega⟩

theorem fOrd_geq {a b : Nat} (hb : fnan b = false) (h : 0 ≤ fOrd a b) : (ford a b == some .gt || ford a b == some .eq) = true := by
  unfold fOrd at h
  rw [hb] at h
  cases ha : fnan a
  · rw [ha] at h
    simp only [Bool.false_eq_true, if_false] at h
    rw [ford_key, ha, hb] at h ⊢
    simp only [Bool.or_self, Bool.false_eq_true, if_false] at h ⊢
    cases hc : compare (fkey a) (fkey b) <;> rw [hc] at h <;> simp at h ⊢
  · rw [ha] at h
    simp at h

set_option maxHeartbeats 1000000 in
theorem scorePicks_walk (v : Value) (l : List Nat) (w : World) (hv : SlFloat w v l) :
    Calls Try.prog 4 #[v] w (TruePost w) := by
  have hbd := pk_bd l l.length
  have hn := hid (pk_none l l.length)
  have hs := hid (pk_some l l.length)
  have hv' := hid (fun w' (he : Ext w w') => hv.go he)
  obtain ⟨a, cap, rfl, hcap, hm, hc⟩ := hv.ex
  unfold maxLen at hm
  clear hv
  go_enter Try.func4, Try.ntmps4
  go_wp2_with (first | (go_at_call 15; refine (awake18 _).mono ?_; rintro e w1 ⟨rfl, he1⟩) | (go_at_call 18; refine (pick_any l _ _ (hv'.out _ he1)).mono ?_; rintro e w2 ⟨rfl, he2⟩))
  have hx := hid (he1.tr he2)
  clear he1 he2
  go_loopw [5] (fun i wr => ∃ k : Nat, k ≤ l.length ∧ i = .int .i64 k ∧ Ext w wr) (fun i _ => l.length - (intOf i).toNat)
  case atStart => exact ⟨0, Nat.zero_le _, rfl, hx.out⟩
  case round =>
    obtain ⟨k, hk, rfl, hb⟩ := hrel
    have HB := hid hb
    clear hb
    rcases Int.lt_or_le (pk l l.length) 0 with hneg | hpos
    · have hd : decide (pk l l.length < 0) = true := by simp; omega
      by_cases hlt : k < l.length
      · obtain ⟨b, off, rfl, hcell⟩ := hc (by omega)
        have hck := ext_cell HB.out (hcell k hlt)
        have hno := hn.out hneg k hlt
        unfold fone at hno
        clear hc hcell
        go_wp2_with (go_at_call 16; refine (order_any _ _ _).mono ?_; rintro e w' ⟨rfl, rfl⟩)
        go_roundw
        case rel => exact ⟨k + 1, by omega, by go_num, HB.out⟩
        case measure => simp [intOf]; omega
      · have : k = l.length := by omega
        subst this
        go_wp2
        go_ret
        exact ⟨rfl, HB.out⟩
    · have hd : decide (pk l l.length < 0) = false := by simp; omega
      obtain ⟨hs1, hs2⟩ := hs.out hpos
      have hlp : 0 < l.length := by omega
      obtain ⟨b, off, rfl, hcell⟩ := hc (by omega)
      have hcp := ext_cell HB.out (hcell (pk l l.length).toNat (by omega))
      have hb1 : pk l l.length < (l.length : Int) := hbd.2
      by_cases hlt : k < l.length
      · have hck := ext_cell HB.out (hcell k hlt)
        obtain ⟨h3, h4⟩ := hs2 k hlt
        have H4 := hid h4
        clear hc hcell hs2 h4 hs1
        go_wp2_with (go_at_call 16; refine (order_any _ _ _).mono ?_; rintro e w' ⟨rfl, rfl⟩)
        go_quiet ((go_at_call 16; exact Calls.quiet_of_same (order_same _ _ _)))
        go_wp2
        all_goals first | (exfalso; have h9 := H4.out; omega) | (go_roundw; (case rel => exact ⟨k + 1, by omega, by go_num, HB.out.drN _⟩); (case measure => simp [intOf]; omega))
      · have : k = l.length := by omega
        subst this
        have hg := fOrd_geq (by decide +kernel) hs1
        unfold ford fone at hg
        go_wp2
        go_ret
        exact ⟨by simpa using hg, HB.out⟩

theorem fq_same {m n r q : Nat} (h1 : FQ m n r) (h2 : FQ m n q) : fOrd r q = 0 := by
  unfold FQ at h1 h2
  cases h : Ieee.double.div m n with
  | none => rw [h] at h1 h2; simp only at h1 h2; simp [fOrd, h1, h2]
  | some z => rw [h] at h1 h2; simp only at h1 h2; rw [h1, h2]; exact fOrd_self _

set_option maxHeartbeats 1000000 in
theorem scoreTells_walk (v0 v1 v2 v3 : Value) (V : Nat → List File) (tr : Nat) (vt : Value) (tg : List Nat) (w : World) (hV : Ver w v0 v1 v2 v3 V) (ht : SlFloat w vt tg) :
    Calls Try.prog 5 #[.agg #[v0, v1, v2, v3], .float .f64 tr, vt] w (TruePost w) := by
  have HV := hid (fun w' (he : Ext w w') => hV.go he)
  have HT := hid (fun w' (he : Ext w w') => ht.go he)
  clear hV ht
  go_enter Try.func5, Try.ntmps5
  go_wp2_with fail
  refine (awake18 _).mono ?_
  rintro e w1 ⟨rfl, he1⟩
  have q0 := ext_new he1 0 rfl
  have q1 := ext_new he1 1 rfl
  have q2 := ext_new he1 2 rfl
  have q3 := ext_new he1 3 rfl
  have hw1 := ext_of_new he1
  go_wp2_with fail
  refine (scores_any _ _ _ _ V _ _ tg _ (HV.out _ hw1) (HT.out _ hw1)).mono ?_
  rintro e w2 ⟨va, rs, rfl, hok1, hsl1, he2⟩
  have p0 := ext_cell he2 q0
  have p1 := ext_cell he2 q1
  have p2 := ext_cell he2 q2
  have p3 := ext_cell he2 q3
  clear q0 q1 q2 q3
  go_wp2_with fail
  refine (rscores_any _ _ _ _ V _ _ tg _ (HV.out _ (hw1.tr he2)) (HT.out _ (hw1.tr he2))).mono ?_
  rintro e w3 ⟨vb, qs, rfl, hok2, hsl2, he3⟩
  go_wp2_with fail
  refine (same_true rs qs _ _ _ (hsl1.go he3) hsl2 (hok1.1.trans hok2.1.symm) (fun i hi => by rw [hok1.1] at hi; exact fq_same (hok1.2 i hi) (hok2.2 i hi))).mono ?_
  rintro e w4 ⟨rfl, he4⟩
  go_wp2
  go_ret
  exact ⟨rfl, ((hw1.tr he2).tr he3).tr he4⟩
end Go.Proofs.Ytkoakneibonjhaa
