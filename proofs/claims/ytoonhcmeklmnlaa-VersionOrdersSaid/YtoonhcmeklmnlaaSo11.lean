/- Sorting numbers: the whole sort. -/
import Derived.Test.YtoonhcmeklmnlaaSo10
set_option linter.unusedSimpArgs false
set_option linter.unusedVariables false
set_option linter.unnecessarySimpa false
namespace Go.Proofs.Ytoonhcmeklmnlaa
open Go.RowKit Go.Rg Go.St

/-- what stands ahead of a, and what stands from e on, is where it belongs -/
def DD (lo hi a e : Nat) (g : Nat → Int) : Prop := ∀ i j, lo ≤ i → i < j → j < hi → (i < a ∨ e ≤ j) → g i ≤ g j
theorem srt_pair {g : Nat → Int} {a e : Nat} (hs : Srt g a e) : ∀ i j, a ≤ i → i < j → j < e → g i ≤ g j := by
  intro i j h1 h2 h3
  induction j with
  | zero => omega
  | succ j ih =>
    rcases Nat.lt_or_ge i j with h | h
    · exact Int.le_trans (ih h (by omega)) (hs j (by omega) h3)
    · obtain rfl : i = j := by omega
      exact hs i h1 h3
theorem DD.re {lo hi a e : Nat} {g g' : Nat → Int} (h : DD lo hi a e g) (hr : Re a e g g') (ha : lo ≤ a) (he : e ≤ hi) : DD lo hi a e g' := by
  intro i j h1 h2 h3 h4
  rcases Nat.lt_or_ge i a with hi' | hi'
  · rw [hr.out (.inl hi')]
    rcases Nat.lt_or_ge j a with hj | hj
    · rw [hr.out (.inl hj)]; exact h i j h1 h2 h3 (.inl hi')
    · rcases Nat.lt_or_ge j e with hj2 | hj2
      · exact hr.all (p := fun x => g i ≤ x) (fun k k1 k2 => h i k h1 (by omega) (by omega) (.inl hi')) j hj hj2
      · rw [hr.out (.inr hj2)]; exact h i j h1 h2 h3 (.inl hi')
  · have hje : e ≤ j := by omega
    rw [hr.out (k := j) (.inr hje)]
    rcases Nat.lt_or_ge i e with hi2 | hi2
    · exact hr.all (p := fun x => x ≤ g j) (fun k k1 k2 => h k j (by omega) (by omega) h3 (.inr hje)) i hi' hi2
    · rw [hr.out (.inr hi2)]; exact h i j h1 h2 h3 (.inr hje)
theorem DD.left {lo hi a e a' : Nat} {g : Nat → Int} (h : DD lo hi a e g) (hl : ∀ i j, a ≤ i → i < j → j < e → i < a' → g i ≤ g j) : DD lo hi a' e g := by
  intro i j h1 h2 h3 h4
  by_cases c : i < a ∨ e ≤ j
  · exact h i j h1 h2 h3 c
  · exact hl i j (by omega) h2 (by omega) (by omega)
theorem DD.right {lo hi a e e' : Nat} {g : Nat → Int} (h : DD lo hi a e g) (hl : ∀ i j, a ≤ i → i < j → j < e → e' ≤ j → g i ≤ g j) : DD lo hi a e' g := by
  intro i j h1 h2 h3 h4
  by_cases c : i < a ∨ e ≤ j
  · exact h i j h1 h2 h3 c
  · exact hl i j (by omega) h2 (by omega) (by omega)
theorem DD.fin {lo hi a e : Nat} {g : Nat → Int} (h : DD lo hi a e g) (hs : Srt g a e) : Srt g lo hi := by
  intro k k1 k2
  by_cases c : k < a ∨ e ≤ k + 1
  · exact h k (k + 1) k1 (by omega) k2 c
  · exact hs k (by omega) (by omega)
structure PD (b cap n lo hi a e : Nat) (f g : Nat → Int) (w wr : World) : Prop where
  i1 : lo ≤ a
  i2 : a ≤ e
  i3 : e ≤ hi
  d : DD lo hi a e g
  re : Re lo hi f g
  row : RowU b cap n g wr
  bel : Below b w wr
theorem PD.go {b cap n lo hi a e : Nat} {f g g' : Nat → Int} {w wr w' : World} (h : PD b cap n lo hi a e f g w wr) (hr : Re a e g g') (hrow : RowU b cap n g' w') (hb : Below b w w') : PD b cap n lo hi a e f g' w w' :=
  ⟨h.i1, h.i2, h.i3, h.d.re hr h.i1 h.i3, h.re.trans (hr.mono h.i1 h.i3), hrow, hb⟩
theorem PD.pred {b cap n lo hi a e : Nat} {f g : Nat → Int} {w wr : World} (h : PD b cap n lo hi a e f g w wr) (hp : Pred lo hi f) : Pred a e g := fun h0 k k1 k2 => by
  have := h.i1
  have := h.i3
  rcases Nat.lt_or_ge lo a with c | c
  · exact h.d (a - 1) k (by omega) (by omega) (by omega) (.inl (by omega))
  · have e : a = lo := by omega
    subst e
    exact (hp.re h.re) (by omega) k k1 (by omega)
/-- those that are alike are put ahead -/
theorem PD.alike {b cap n lo hi a e mid : Nat} {f g g' : Nat → Int} {w wr w' : World} {v : Int} (h : PD b cap n lo hi a e f g w wr) (hp : Pred a e g) (h0 : 0 < a) (hv : ¬ g (a - 1) < v)
    (hr : Re a e g g') (hrow : RowU b cap n g' w') (hb : Below b w w') (hm : a < mid) (hme : mid ≤ e) (h1 : ∀ k, a ≤ k → k < mid → ¬ v < g' k) (h2 : ∀ k, mid ≤ k → k < e → v < g' k) : PD b cap n lo hi mid e f g' w w' := by
  have hg := h.go hr hrow hb
  have := h.i1
  refine ⟨by omega, hme, h.i3, hg.d.left fun i j k1 k2 k3 k4 => ?_, hg.re, hrow, hb⟩
  have hi := h1 i k1 k4
  have hj : g (a - 1) ≤ g' j := hr.all (p := fun x => g (a - 1) ≤ x) (hp h0) j (by omega) k3
  omega
/-- parted at mid, what stands ahead of it sorted -/
theorem PD.ahead {b cap n lo hi a e mid : Nat} {f g g1 g2 : Nat → Int} {w wr w' : World} {v : Int} (h : PD b cap n lo hi a e f g w wr) (hp : Parted a e mid g g1 v) (hr : Re a mid g1 g2) (hs : Srt g2 a mid) (hrow : RowU b cap n g2 w') (hb : Below b w w') : PD b cap n lo hi (mid + 1) e f g2 w w' := by
  obtain ⟨p1, p2, p3, p4, p5, p6⟩ := hp
  have hg := h.go (p3.trans (hr.mono (Nat.le_refl _) (by omega))) hrow hb
  have := h.i1
  have low : ∀ k, a ≤ k → k < mid → g2 k < v := hr.all (p := fun x => x < v) p5
  have em : g2 mid = v := (hr.out (.inr (Nat.le_refl _))).trans p4
  have up : ∀ k, mid < k → k < e → ¬ g2 k < v := fun k k1 k2 => by rw [hr.out (.inr (by omega))]; exact p6 k k1 k2
  refine ⟨by omega, by omega, h.i3, hg.d.left fun i j k1 k2 k3 k4 => ?_, hg.re, hrow, hb⟩
  rcases Nat.lt_or_ge i mid with c | c
  · have hi := low i k1 c
    rcases Nat.lt_or_ge j mid with c2 | c2
    · exact srt_pair hs i j k1 k2 c2
    · rcases Nat.eq_or_lt_of_le c2 with c3 | c3
      · rw [← c3, em]; omega
      · have := up j c3 k3; omega
  · obtain rfl : i = mid := by omega
    have := up j k2 k3
    omega
/-- parted at mid, what stands behind it sorted -/
theorem PD.behind {b cap n lo hi a e mid : Nat} {f g g1 g2 : Nat → Int} {w wr w' : World} {v : Int} (h : PD b cap n lo hi a e f g w wr) (hp : Parted a e mid g g1 v) (hr : Re (mid + 1) e g1 g2) (hs : Srt g2 (mid + 1) e) (hrow : RowU b cap n g2 w') (hb : Below b w w') : PD b cap n lo hi a mid f g2 w w' := by
  obtain ⟨p1, p2, p3, p4, p5, p6⟩ := hp
  have hg := h.go (p3.trans (hr.mono (by omega) (Nat.le_refl _))) hrow hb
  have := h.i3
  have low : ∀ k, a ≤ k → k < mid → g2 k < v := fun k k1 k2 => by rw [hr.out (.inl (by omega))]; exact p5 k k1 k2
  have em : g2 mid = v := (hr.out (.inl (by omega))).trans p4
  have up : ∀ k, mid < k → k < e → ¬ g2 k < v := hr.all (p := fun x => ¬ x < v) (fun k k1 k2 => p6 k (by omega) k2)
  refine ⟨h.i1, p1, by omega, hg.d.right fun i j k1 k2 k3 k4 => ?_, hg.re, hrow, hb⟩
  rcases Nat.lt_or_ge i mid with c | c
  · have hi := low i k1 c
    rcases Nat.eq_or_lt_of_le k4 with c3 | c3
    · rw [← c3, em]; omega
    · have := up j c3 k3; omega
  · rcases Nat.eq_or_lt_of_le c with c3 | c3
    · subst c3
      have := up j k2 k3
      omega
    · exact srt_pair hs i j (by omega) k2 k3
theorem choose_at (b cap n : Nat) (f : Nat → Int) (a e : Nat) (w : World) (h : RowU b cap n f w) (h2 : e ≤ n) (h3 : n ≤ 2305843009213693952) (hm : 12 < e - a) :
    Calls Try.prog 119 #[.slice (some ⟨b, 0, none⟩) n cap, .int .i64 a, .int .i64 e] w (Chosen a e b w) := by
  obtain ⟨m, rfl⟩ : ∃ m, e = a + m := ⟨e - a, by omega⟩
  exact choose_in b cap n f a m w h h2 h3 (by omega)
theorem break_at (b cap n : Nat) (f : Nat → Int) (a e : Nat) (w : World) (h : RowU b cap n f w) (h2 : e ≤ n) (h3 : n ≤ 2305843009213693952) (hm : 12 < e - a) :
    Calls Try.prog 118 #[.slice (some ⟨b, 0, none⟩) n cap, .int .i64 a, .int .i64 e] w (SortP b cap n a e f w (fun _ => True)) := by
  obtain ⟨m, rfl⟩ : ∃ m, e = a + m := ⟨e - a, by omega⟩
  exact break_in b cap n f a m w h h2 h3 (by omega)
theorem heap_at (b cap n : Nat) (f : Nat → Int) (a e : Nat) (w : World) (h : RowU b cap n f w) (h2 : e ≤ n) (h3 : n ≤ 2305843009213693952) (hm : 12 < e - a) :
    Calls Try.prog 117 #[.slice (some ⟨b, 0, none⟩) n cap, .int .i64 a, .int .i64 e] w (SortP b cap n a e f w (fun g => Srt g a e)) := by
  obtain ⟨m, rfl⟩ : ∃ m, e = a + m := ⟨e - a, by omega⟩
  exact heap_in b cap n f a m w h h2 h3 (by omega)

set_option maxRecDepth 100000 in
set_option maxHeartbeats 16000000 in
theorem pdq_in (b cap n : Nat) (h3 : n ≤ 2305843009213693952) : ∀ (M : Nat) (f : Nat → Int) (lo hi L : Nat) (w : World), hi - lo = M → RowU b cap n f w → lo ≤ hi → hi ≤ n → L < 1000000 → Pred lo hi f →
    Calls Try.prog 104 #[.slice (some ⟨b, 0, none⟩) n cap, .int .i64 lo, .int .i64 hi, .int .i64 L] w (SortP b cap n lo hi f w (fun g => Srt g lo hi)) := by
  intro M
  induction M using Nat.strongRecOn with
  | _ M IH0 =>
  intro f lo hi L w hM h h1 h2 hL hpr
  have IH := hid IH0
  have H := hid h
  have HPR := hid hpr
  have HM := hid hM
  clear IH0 h hpr hM
  go_enter Try.func104, Try.ntmps104
  go_wp2_with fail
  go_loopw [1, 2, 3, 8, 9] (fun ta te tl tb tp wr => ∃ (a e L : Nat) (bb pp : Bool) (g : Nat → Int), ta = .int .i64 a ∧ te = .int .i64 e ∧ tl = .int .i64 L ∧ tb = .bool bb ∧ tp = .bool pp ∧ L < 1000000 ∧ PD b cap n lo hi a e f g w wr) (fun ta te _ _ _ _ => (intOf te - intOf ta).toNat)
  case atStart => exact ⟨lo, hi, L, true, true, f, rfl, rfl, rfl, rfl, rfl, hL, ⟨Nat.le_refl _, h1, Nat.le_refl _, fun i j k1 k2 k3 k4 => by omega, .refl, H.out, Below.refl _ _⟩⟩
  case round =>
    clear hL H
    obtain ⟨a, e, L, bb, pp, g, rfl, rfl, rfl, rfl, rfl, hL, hp⟩ := hrel
    have HP := hid hp
    have hae : a ≤ e := hp.i2
    have hen : e ≤ n := Nat.le_trans hp.i3 h2
    have HLA := hid (And.intro hp.i1 hp.i3)
    clear hp
    by_cases h12 : e - a ≤ 12
    · have d12 : decide ((e : Int) - (a : Int) ≤ 12) = true := decide_eq_true (by omega)
      go_wp2_with fail
      refine (ins_in b cap n g a e _ HP.out.row hen (by omega) (by omega)).mono ?_
      rintro e' w2 ⟨rfl, g2, r2, row2, b2, s2⟩
      have P2 := hid (HP.out.go r2 row2 (Below.trans HP.out.bel b2))
      have S2 := hid s2
      clear r2 row2 b2 s2
      go_wp2_with fail
      refine bodyPost_ret (results_none rfl _ _ _) rfl ?_
      exact ⟨rfl, g2, P2.out.re, P2.out.row, P2.out.bel, P2.out.d.fin S2.out⟩
    · have d12 : decide ((e : Int) - (a : Int) ≤ 12) = false := decide_eq_false (by omega)
      by_cases hL0 : L = 0
      · subst hL0
        go_wp2_with fail
        refine (heap_at b cap n g a e _ HP.out.row hen h3 (by omega)).mono ?_
        rintro e' w2 ⟨rfl, g2, r2, row2, b2, s2⟩
        have P2 := hid (HP.out.go r2 row2 (Below.trans HP.out.bel b2))
        have S2 := hid s2
        clear r2 row2 b2 s2
        go_wp2_with fail
        refine bodyPost_ret (results_none rfl _ _ _) rfl ?_
        exact ⟨rfl, g2, P2.out.re, P2.out.row, P2.out.bel, P2.out.d.fin S2.out⟩
      · have dL : decide ((L : Int) = 0) = false := decide_eq_false (by omega)
        go_upto_if 35 with fail
        go_cut [3] from 19 to 133 (fun lv wx => ∃ (L2 : Nat) (g2 : Nat → Int), lv = .int .i64 L2 ∧ L2 < 1000000 ∧ PD b cap n lo hi a e f g2 w wx)
        case first =>
          cases bb with
          | true =>
            go_wp2_with fail
            go_meet
            case rel => exact ⟨L, g, rfl, hL, HP.out⟩
          | false =>
            go_wp2_with fail
            refine (break_at b cap n g a e _ HP.out.row hen h3 (by omega)).mono ?_
            rintro e' w2 ⟨rfl, g2, r2, row2, b2, _⟩
            have P2 := hid (HP.out.go r2 row2 (Below.trans HP.out.bel b2))
            clear r2 row2 b2
            go_wp2_with fail
            go_meet
            case rel => exact ⟨L - 1, g2, by go_num, by omega, P2.out⟩
        case rest =>
          clear HP
          obtain ⟨L2, g2, rfl, hL2, hp⟩ := hcut
          have HP := hid hp
          clear hp hL hL0 dL
          go_wp2_with fail
          refine (choose_at b cap n g2 a e _ HP.out.row hen h3 (by omega)).mono ?_
          rintro e' w2 ⟨p0, z0, rfl, hp1, hp2, he2⟩
          have P2 := hid (HP.out.go .refl (HP.out.row.ext he2) (below_ext HP.out.bel HP.out.row he2))
          clear he2 HP
          go_upto_if 50 with fail
          go_cut [11, 12] from 19 to 133 (fun pv hv wx => ∃ (p : Nat) (z : Int) (g2 : Nat → Int), pv = .int .i64 p ∧ hv = .int .i64 z ∧ a < p ∧ p < e ∧ PD b cap n lo hi a e f g2 w wx)
          case first =>
            by_cases hz : z0 = 2
            · subst hz
              have e1 : ((e - 1 - (p0 - a) : Nat) : Int) = (e : Int) - 1 - ((p0 : Int) - (a : Int)) := by omega
              go_wp2_with fail
              refine (reverse_in b cap n g2 a e _ P2.out.row (by omega) hen (by omega)).mono ?_
              rintro e' w3 ⟨rfl, g3, r3, row3, b3, _⟩
              have P3 := hid (P2.out.go r3 row3 (Below.trans P2.out.bel b3))
              clear r3 row3 b3
              go_wp2_with fail
              go_meet
              case rel => exact ⟨e - 1 - (p0 - a), 1, g3, by rw [e1], rfl, by omega, by omega, P3.out⟩
            · have dz : decide (z0 = 2) = false := decide_eq_false hz
              go_wp2_with fail
              go_meet
              case rel => exact ⟨p0, z0, g2, rfl, rfl, hp1, by omega, P2.out⟩
          case rest =>
            clear P2 hp1 hp2
            obtain ⟨p, z, g3, rfl, rfl, hp1, hp2, hp⟩ := hcut
            have HP := hid hp
            clear hp
            go_upto_region 15 with fail
            go_cut [68] from 19 to 133 (fun v wx => ∃ t : Bool, v = .bool t ∧ PD b cap n lo hi a e f g3 w wx)
            case first =>
              cases bb with
              | false =>
                go_wp2_with fail
                go_meet
                case rel => exact ⟨_, rfl, HP.out⟩
              | true =>
                cases pp with
                | false =>
                  go_wp2_with fail
                  go_meet
                  case rel => exact ⟨_, rfl, HP.out⟩
                | true =>
                  go_wp2_with fail
                  go_meet
                  case rel => exact ⟨_, rfl, HP.out⟩
            case rest =>
              clear HP
              obtain ⟨t, rfl, hp⟩ := hcut
              have HP := hid hp
              clear hp
              go_upto_if 68 with fail
              go_cut [] from 19 to 133 (fun wx => ∃ (g2 : Nat → Int), PD b cap n lo hi a e f g2 w wx)
              case first =>
                cases t with
                | false =>
                  go_wp2_with fail
                  go_meet
                  case rel => exact ⟨g3, HP.out⟩
                | true =>
                  go_wp2_with fail
                  refine (pins_in b cap n g3 a e _ HP.out.row (by omega) hen h3 (HP.out.pred HPR.out)).mono ?_
                  rintro e' w4 ⟨t, g4, rfl, r4, row4, b4, s4⟩
                  have P4 := hid (HP.out.go r4 row4 (Below.trans HP.out.bel b4))
                  have S4 := hid s4
                  clear r4 row4 b4 s4
                  cases t with
                  | true =>
                    go_wp2_with fail
                    refine bodyPost_ret (results_none rfl _ _ _) rfl ?_
                    exact ⟨rfl, g4, P4.out.re, P4.out.row, P4.out.bel, P4.out.d.fin (S4.out (by simp))⟩
                  | false =>
                    go_wp2_with fail
                    go_meet
                    case rel => exact ⟨g4, P4.out⟩
              case rest =>
                clear HP
                obtain ⟨g, hp⟩ := hcut
                have HP := hid hp
                have HPA := hid (hp.pred HPR.out)
                clear hp
                have hb1 : a < n ∧ p < n := by omega
                go_upto_region 17 with fail
                go_cut [87] from 19 to 133 (fun v wx => ∃ t : Bool, v = .bool t ∧ (t = true → 0 < a ∧ ¬ g (a - 1) < g p) ∧ PD b cap n lo hi a e f g w wx)
                case first =>
                  have HROW := hid HP.out.row
                  by_cases ha0 : 0 < a
                  · have da : icmp .gtr (a : Int) 0 = some true := by unfold icmp; simp; omega
                    refine wp_draw (by kernel_rfl) (by kernel_rfl) ?_
                    refine rg_step 73 (ob_move (by rfl) (by rfl)) rfl (by rfl) ?_
                    refine rg_step 74 (ob_icmp true (by rfl) (by rfl) (by rfl) (da)) rfl (by rfl) ?_
                    refine rg_step 75 (ob_move (by rfl) (by rfl)) rfl (by rfl) ?_
                    refine rg_step 76 (ob_move (by rfl) (by rfl)) rfl (by rfl) ?_
                    refine rg_step 77 (ob_move (by rfl) (by rfl)) rfl (by rfl) ?_
                    refine rg_step 78 (ob_iarith ((a - 1 : Nat) : Int) ((a - 1 : Nat) : Int) (by rfl) (by rfl) (by rfl) (congrArg some (by omega)) (IntWalk.i64_in _ (by omega))) rfl (by rfl) ?_
                    refine rg_step 79 (ob_index 1 (a - 1) (by rfl) (by rfl) (by rfl) Try.underlying81 (by kernel_rfl) (Int.natCast_nonneg _) (Int.ofNat_lt.2 (by omega)) (by rw [Int.toNat_natCast]; omega)) rfl (by rfl) ?_
                    refine rg_step 80 (ob_load (v := .int .u64 (g (a - 1))) (by rfl) (by rfl) (by kernel_rfl) (fun w' he => ext_cell he (HROW.out.cell (i := a - 1) (by omega)))) rfl (by rfl) ?_
                    refine rg_step 81 (ob_move (by rfl) (by rfl)) rfl (by rfl) ?_
                    refine rg_step 82 (ob_move (by rfl) (by rfl)) rfl (by rfl) ?_
                    refine rg_step 83 (ob_index 1 (p) (by rfl) (by rfl) (by rfl) Try.underlying81 (by kernel_rfl) (Int.natCast_nonneg _) (Int.ofNat_lt.2 (by omega)) (by rw [Int.toNat_natCast]; omega)) rfl (by rfl) ?_
                    refine rg_step 84 (ob_load (v := .int .u64 (g (p))) (by rfl) (by rfl) (by kernel_rfl) (fun w' he => ext_cell he (HROW.out.cell (i := p) (by omega)))) rfl (by rfl) ?_
                    refine rg_step 85 (ob_call (.ex (.bool (decide (g (a - 1) < g p)))) (by rfl) cf_less (fun w' he => gives_ex ((less_in (g (a - 1)) (g p) w').mono fun e w2 h => ⟨h.1, by rw [h.2]; exact Ext.rfl _⟩))) rfl (by rfl) ?_
                    refine rg_step 86 (ob_not (decide (g (a - 1) < g p)) (by rfl) (by rfl)) rfl (by rfl) ?_
                    refine rg_step 87 (ob_pick true (by rfl) (by rfl) (by rfl)) rfl (by rfl) ?_
                    refine rg_end ?_
                    intro w3 he3
                    simp only [asg, List.set_cons_zero, List.set_cons_succ, List.map_cons, List.map_nil, opens]
                    have P3 := hid (HP.out.go .refl (HP.out.row.ext he3) (below_ext HP.out.bel HP.out.row he3))
                    clear he3
                    have HH := hid (show (!decide (g (a - 1) < g p)) = true → 0 < a ∧ ¬ g (a - 1) < g p from fun h => ⟨ha0, by simpa using h⟩)
                    generalize (!decide (g (a - 1) < g p)) = t at *
                    go_wp2_with fail
                    go_meet
                    case rel => exact ⟨t, rfl, HH.out, P3.out⟩
                  · have da : icmp .gtr (a : Int) 0 = some false := by unfold icmp; simp; omega
                    refine wp_draw (by kernel_rfl) (by kernel_rfl) ?_
                    refine rg_step 73 (ob_move (by rfl) (by rfl)) rfl (by rfl) ?_
                    refine rg_step 74 (ob_icmp false (by rfl) (by rfl) (by rfl) (da)) rfl (by rfl) ?_
                    refine rg_step 75 (ob_move (by rfl) (by rfl)) rfl (by rfl) ?_
                    refine rg_step 76 (ob_skip (by rfl)) rfl (by rfl) ?_
                    refine rg_step 77 (ob_skip (by rfl)) rfl (by rfl) ?_
                    refine rg_step 78 (ob_skip (by rfl)) rfl (by rfl) ?_
                    refine rg_step 79 (ob_skip (by rfl)) rfl (by rfl) ?_
                    refine rg_step 80 (ob_skip (by rfl)) rfl (by rfl) ?_
                    refine rg_step 81 (ob_skip (by rfl)) rfl (by rfl) ?_
                    refine rg_step 82 (ob_skip (by rfl)) rfl (by rfl) ?_
                    refine rg_step 83 (ob_skip (by rfl)) rfl (by rfl) ?_
                    refine rg_step 84 (ob_skip (by rfl)) rfl (by rfl) ?_
                    refine rg_step 85 (ob_skip (by rfl)) rfl (by rfl) ?_
                    refine rg_step 86 (ob_skip (by rfl)) rfl (by rfl) ?_
                    refine rg_step 87 (ob_pick false (by rfl) (by rfl) (by rfl)) rfl (by rfl) ?_
                    refine rg_end ?_
                    intro w3 he3
                    simp only [asg, List.set_cons_zero, List.set_cons_succ, List.map_cons, List.map_nil, opens]
                    have P3 := hid (HP.out.go .refl (HP.out.row.ext he3) (below_ext HP.out.bel HP.out.row he3))
                    clear he3
                    go_wp2_with fail
                    go_meet
                    case rel => refine ⟨false, rfl, ?_, P3.out⟩; simp
                case rest =>
                  clear HP
                  obtain ⟨t, rfl, ht, hp⟩ := hcut
                  have HP := hid hp
                  have HT := hid ht
                  clear hp ht
                  cases t with
                  | true =>
                    go_wp2_with fail
                    refine (parteq_in b cap n g a e p _ HP.out.row (by omega) hp2 hen h3 (by omega)).mono ?_
                    rintro e' w4 ⟨mid, g4, rfl, m1, m2, r4, row4, b4, l4, u4⟩
                    have P4 := hid (HP.out.alike HPA.out (HT.out (by simp)).1 (by have := (HT.out (by simp)).2; omega) r4 row4 (Below.trans HP.out.bel b4) m1 m2 l4 u4)
                    clear r4 row4 b4 l4 u4
                    go_wp2_with fail
                    go_roundw
                    case rel => exact ⟨mid, e, L2, bb, pp, g4, rfl, rfl, rfl, rfl, rfl, hL2, P4.out⟩
                    case measure => first | (simp [intOf]; done) | (simp [intOf]; omega)
                  | false =>
                    go_wp2_with fail
                    refine (part_in b cap n g a e p _ HP.out.row (by omega) hp2 hen h3 (by omega)).mono ?_
                    rintro e' w4 ⟨mid, x, g4, rfl, row4, b4, hpt⟩
                    have PT := hid hpt
                    have PR4 := hid (And.intro row4 (Below.trans HP.out.bel b4))
                    have hm1 : a ≤ mid := hpt.1
                    have hm2 : mid < e := hpt.2.1
                    clear row4 b4 hpt
                    by_cases hlr : mid - a < e - mid
                    · have dlr : decide ((mid : Int) - (a : Int) < (e : Int) - (mid : Int)) = true := decide_eq_true (by omega)
                      go_wp2_with fail
                      refine (IH.out (mid - a) (by have := HM.out; have := HLA.out; omega) g4 a mid L2 _ rfl PR4.out.1 hm1 (by omega) hL2 ?_).mono ?_
                      · exact fun h0 k k1 k2 => (HPA.out.re PT.out.2.2.1) h0 k k1 (by omega)
                      rintro e' w5 ⟨rfl, g5, r5, row5, b5, s5⟩
                      have P5 := hid (HP.out.ahead PT.out r5 s5 row5 (Below.trans PR4.out.2 b5))
                      clear r5 row5 b5 s5
                      go_wp2_with fail
                      go_roundw
                      case rel => exact ⟨mid + 1, e, L2, _, x, g5, by go_num, rfl, rfl, rfl, rfl, hL2, P5.out⟩
                      case measure => first | (simp [intOf]; done) | (simp [intOf]; omega)
                    · have dlr : decide ((mid : Int) - (a : Int) < (e : Int) - (mid : Int)) = false := decide_eq_false (by omega)
                      have em1 : ((mid + 1 : Nat) : Int) = (mid : Int) + 1 := by omega
                      have IHM := hid (IH.out (e - (mid + 1)) (by have := HM.out; have := HLA.out; omega) g4 (mid + 1) e L2)
                      rw [em1] at IHM
                      go_wp2_with fail
                      refine (IHM.out _ (by first | trivial | rfl) PR4.out.1 (by omega) hen hL2 ?_).mono ?_
                      · intro _ k k1 k2
                        have := PT.out.2.2.2.2.2 k (by omega) k2
                        rw [show mid + 1 - 1 = mid by omega, PT.out.2.2.2.1]; omega
                      rintro e' w5 ⟨rfl, g5, r5, row5, b5, s5⟩
                      have P5 := hid (HP.out.behind PT.out r5 s5 row5 (Below.trans PR4.out.2 b5))
                      clear r5 row5 b5 s5
                      go_wp2_with fail
                      go_roundw
                      case rel => exact ⟨a, mid, L2, _, x, g5, rfl, rfl, rfl, rfl, rfl, hL2, P5.out⟩
                      case measure => first | (simp [intOf]; done) | (simp [intOf]; omega)
end Go.Proofs.Ytoonhcmeklmnlaa
