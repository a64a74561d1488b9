/- Sorting numbers: those that are alike put ahead. -/
import Derived.Test.YtoonhcmeklmnlaaSo6
set_option linter.unusedSimpArgs false
set_option linter.unusedVariables false
set_option linter.unnecessarySimpa false
namespace Go.Proofs.Ytoonhcmeklmnlaa
open Go.RowKit Go.Rg Go.St

/-- what is looked at stands at lo; ahead of i none is above it, behind j all are -/
structure PEq (lo hi n i j : Nat) (f g : Nat → Int) (v : Int) : Prop where
  i1 : lo < i
  i2 : i ≤ j + 1
  j1 : j < hi
  re : Re lo hi f g
  at_ : g lo = v
  low : ∀ k, lo ≤ k → k < i → ¬ v < g k
  up : ∀ k, j < k → k < hi → v < g k
theorem PEq.swap {lo hi n i j : Nat} {f g : Nat → Int} {v : Int} (h : PEq lo hi n i j f g v) (hij : i ≤ j) (hgi : v < g i) (hgj : ¬ v < g j) : PEq lo hi n (i + 1) (j - 1) f (swapF g i j) v := by
  have hne : i ≠ j := fun e => by subst e; exact hgj hgi
  have a1 := h.i1
  have a3 := h.j1
  have ei : swapF g i j i = g j := by unfold swapF; rw [if_neg hne, if_pos rfl]
  have ej : swapF g i j j = g i := by unfold swapF; rw [if_pos rfl]
  have eo : ∀ k, k ≠ i → k ≠ j → swapF g i j k = g k := fun k h1 h2 => by unfold swapF; rw [if_neg h2, if_neg h1]
  refine ⟨by omega, by omega, by omega, h.re.step i j (by omega) (by omega) (by omega) (by omega), by rw [eo lo (by omega) (by omega)]; exact h.at_, fun k k1 k2 => ?_, fun k k1 k2 => ?_⟩
  · by_cases c : k = i
    · subst c; rw [ei]; exact hgj
    · rw [eo k c (by omega)]; exact h.low k k1 (by omega)
  · by_cases c : k = j
    · subst c; rw [ej]; exact hgi
    · rw [eo k (by omega) c]; exact h.up k (by omega) k2
def PartE (b cap n lo hi : Nat) (f : Nat → Int) (v : Int) (w : World) (e : Ending) (w' : World) : Prop :=
  ∃ (mid : Nat) (g : Nat → Int), e = .returned (.int .i64 mid) ∧ lo < mid ∧ mid ≤ hi ∧ Re lo hi f g ∧ RowU b cap n g w' ∧ Below b w w' ∧ (∀ k, lo ≤ k → k < mid → ¬ v < g k) ∧ (∀ k, mid ≤ k → k < hi → v < g k)
set_option maxRecDepth 100000 in
set_option maxHeartbeats 8000000 in
theorem parteq_in (b cap n : Nat) (f : Nat → Int) (lo hi pv : Nat) (w : World) (h : RowU b cap n f w) (h1 : lo ≤ pv) (h2 : pv < hi) (h4 : hi ≤ n) (h3 : n ≤ 2305843009213693952) (hne : lo ≠ pv) :
    Calls Try.prog 123 #[.slice (some ⟨b, 0, none⟩) n cap, .int .i64 lo, .int .i64 hi, .int .i64 pv] w (PartE b cap n lo hi f (f pv) w) := by
  have H := hid h
  clear h
  have HB0 := hid (Below.refl b w)
  have ci := H.out.cell (i := lo) (by omega)
  have cj := H.out.cell (i := pv) (by omega)
  have ff := H.out.frozen
  have hin : ((lo : Nat) : Int) < (n : Int) := by omega
  have hjn : ((pv : Nat) : Int) < (n : Int) := by omega
  have hin' : lo < n := by omega
  have hjn' : pv < n := by omega
  have HSW := hid (H.out.swapD (i := lo) (j := pv) (by omega) (by omega))
  have HSB := hid (swap_below HB0.out lo pv (f pv) (f lo))
  have HP0 := hid (show PEq lo hi n (lo + 1) (hi - 1) f (swapF f lo pv) (f pv) from by
    have e : swapF f lo pv lo = f pv := by unfold swapF; rw [if_neg hne, if_pos rfl]
    exact ⟨by omega, by omega, by omega, .step lo pv .refl (Nat.le_refl _) (by omega) h1 h2, e, fun k k1 k2 => by rw [show k = lo by omega, e]; omega, fun k k1 k2 => by omega⟩)
  go_enter Try.func123, Try.ntmps123
  go_wp2_with fail
  go_region
  generalize (((w.setCell ⟨b, lo, none⟩ (.int .u64 (f pv))).setCell ⟨b, pv, none⟩ (.int .u64 (f lo))).drew) = w1 at *
  clear ci cj ff hin hjn hin' hjn'
  generalize f pv = v at *
  go_wp2_with fail
  have HALL := hid (show ∃ i j g, i = lo + 1 ∧ j = hi - 1 ∧ PEq lo hi n i j f g v ∧ RowU b cap n g w1 ∧ Below b w w1 from ⟨_, _, _, rfl, rfl, HP0.out, HSW.out, HSB.out⟩)
  clear HP0 HSW HSB
  go_loopw [9, 10] (fun ti tj wr => ∃ (i j : Nat) (g : Nat → Int), ti = .int .i64 i ∧ tj = .int .i64 j ∧ PEq lo hi n i j f g v ∧ RowU b cap n g wr ∧ Below b w wr) (fun ti tj _ => (intOf tj + 1 - intOf ti).toNat)
  case atStart =>
    obtain ⟨i, j, g, rfl, rfl, x1, x2, x3⟩ := HALL.out
    exact ⟨lo + 1, hi - 1, g, by go_num, by go_num, x1, x2, x3⟩
  case round =>
    clear HALL
    obtain ⟨i0, j0, g, rfl, rfl, hp, hrow, hb⟩ := hrel
    have HPP := hid hp
    have HRB := hid (And.intro hrow hb)
    clear hp hrow hb
    go_wp2_with fail
    go_loopw [9] (fun ti wz => ∃ i : Nat, ti = .int .i64 i ∧ i0 ≤ i ∧ PEq lo hi n i j0 f g v ∧ RowU b cap n g wz ∧ Below b w wz) (fun ti _ => (j0 + 1) - (intOf ti).toNat)
    case atStart => exact ⟨i0, rfl, Nat.le_refl _, HPP.out, HRB.out.1, HRB.out.2⟩
    case round =>
      clear HPP HRB
      obtain ⟨i, rfl, hi0, hp, hrow, hb⟩ := hrel
      have HP := hid hp
      have HROW := hid hrow
      have HB := hid hb
      have BN := hid (show lo < i ∧ i ≤ j0 + 1 ∧ j0 < hi from ⟨hp.i1, hp.i2, hp.j1⟩)
      have HAT := hid hp.at_
      clear hp hrow hb
      by_cases hij : i ≤ j0
      · have dj : icmp .leq (i : Int) (j0 : Int) = some true := by unfold icmp; simp; omega
        have hb1 : lo < n ∧ i < n ∧ j0 < n := by have := BN.out; omega
        have hi2 : i < 2305843009213693952 := by omega
        go_wp2_with fail
        refine wp_draw (by kernel_rfl) (by kernel_rfl) ?_
        refine rg_step 29 (ob_move (by rfl) (by rfl)) rfl (by rfl) ?_
        refine rg_step 30 (ob_move (by rfl) (by rfl)) rfl (by rfl) ?_
        refine rg_step 31 (ob_icmp true (by rfl) (by rfl) (by rfl) (dj)) rfl (by rfl) ?_
        refine rg_step 32 (ob_move (by rfl) (by rfl)) rfl (by rfl) ?_
        refine rg_step 33 (ob_move (by rfl) (by rfl)) rfl (by rfl) ?_
        refine rg_step 34 (ob_move (by rfl) (by rfl)) rfl (by rfl) ?_
        refine rg_step 35 (ob_index 1 (lo) (by rfl) (by rfl) (by rfl) Try.underlying81 (by kernel_rfl) (Int.natCast_nonneg _) (Int.ofNat_lt.2 (by omega)) (by rw [Int.toNat_natCast]; omega)) rfl (by rfl) ?_
        refine rg_step 36 (ob_load (v := .int .u64 (g (lo))) (by rfl) (by rfl) (by kernel_rfl) (fun w' he => ext_cell he (HROW.out.cell (i := lo) (by omega)))) rfl (by rfl) ?_
        refine rg_step 37 (ob_move (by rfl) (by rfl)) rfl (by rfl) ?_
        refine rg_step 38 (ob_move (by rfl) (by rfl)) rfl (by rfl) ?_
        refine rg_step 39 (ob_index 1 (i) (by rfl) (by rfl) (by rfl) Try.underlying81 (by kernel_rfl) (Int.natCast_nonneg _) (Int.ofNat_lt.2 (by omega)) (by rw [Int.toNat_natCast]; omega)) rfl (by rfl) ?_
        refine rg_step 40 (ob_load (v := .int .u64 (g (i))) (by rfl) (by rfl) (by kernel_rfl) (fun w' he => ext_cell he (HROW.out.cell (i := i) (by omega)))) rfl (by rfl) ?_
        refine rg_step 41 (ob_call (.ex (.bool (decide (g lo < g i)))) (by rfl) cf_less (fun w' he => gives_ex ((less_in (g lo) (g i) w').mono fun e w2 h => ⟨h.1, by rw [h.2]; exact Ext.rfl _⟩))) rfl (by rfl) ?_
        refine rg_step 42 (ob_not (decide (g lo < g i)) (by rfl) (by rfl)) rfl (by rfl) ?_
        refine rg_step 43 (ob_pick true (by rfl) (by rfl) (by rfl)) rfl (by rfl) ?_
        refine rg_end ?_
        intro w3 he3
        simp only [asg, List.set_cons_zero, List.set_cons_succ, List.map_cons, List.map_nil, opens]
        have R3 := hid (HROW.out.ext he3)
        have B3 := hid (below_ext HB.out HROW.out he3)
        clear he3
        rw [HAT.out]
        by_cases hlt : v < g i
        · have dd : decide (v < g i) = true := decide_eq_true hlt
          rw [dd, show (!true) = false from rfl]
          have hstop := hid (show i ≤ j0 → v < g i from fun _ => hlt)
          have HQ := hid HP.out
          clear hlt dd dj hb1 HROW HB HP BN hij
          have HQB := hid (And.intro HQ.out (And.intro R3.out B3.out))
          clear HQ R3 B3
          go_wp2_with fail
          go_loopw [10] (fun tj wz => ∃ j : Nat, tj = .int .i64 j ∧ j ≤ j0 ∧ PEq lo hi n i j f g v ∧ RowU b cap n g wz ∧ Below b w wz) (fun tj _ => (intOf tj + 1).toNat)
          case atStart => exact ⟨j0, rfl, Nat.le_refl _, HQB.out.1, HQB.out.2.1, HQB.out.2.2⟩
          case round =>
            clear HQB
            obtain ⟨j, rfl, hj, hp, hrow, hb⟩ := hrel
            have HP := hid hp
            have HROW := hid hrow
            have HB := hid hb
            have BN := hid (show lo < i ∧ i ≤ j + 1 ∧ j < hi from ⟨hp.i1, hp.i2, hp.j1⟩)
            have HAT := hid hp.at_
            clear hp hrow hb
            by_cases hij : i ≤ j
            · have dj : icmp .leq (i : Int) (j : Int) = some true := by unfold icmp; simp; omega
              have hb1 : lo < n ∧ i < n ∧ j < n := by have := BN.out; omega
              have hj1 : 1 ≤ j := by have := BN.out; omega
              have hj2 : j < 2305843009213693952 := by omega
              go_wp2_with fail
              refine wp_draw (by kernel_rfl) (by kernel_rfl) ?_
              refine rg_step 46 (ob_move (by rfl) (by rfl)) rfl (by rfl) ?_
              refine rg_step 47 (ob_move (by rfl) (by rfl)) rfl (by rfl) ?_
              refine rg_step 48 (ob_icmp true (by rfl) (by rfl) (by rfl) (dj)) rfl (by rfl) ?_
              refine rg_step 49 (ob_move (by rfl) (by rfl)) rfl (by rfl) ?_
              refine rg_step 50 (ob_move (by rfl) (by rfl)) rfl (by rfl) ?_
              refine rg_step 51 (ob_move (by rfl) (by rfl)) rfl (by rfl) ?_
              refine rg_step 52 (ob_index 1 (lo) (by rfl) (by rfl) (by rfl) Try.underlying81 (by kernel_rfl) (Int.natCast_nonneg _) (Int.ofNat_lt.2 (by omega)) (by rw [Int.toNat_natCast]; omega)) rfl (by rfl) ?_
              refine rg_step 53 (ob_load (v := .int .u64 (g (lo))) (by rfl) (by rfl) (by kernel_rfl) (fun w' he => ext_cell he (HROW.out.cell (i := lo) (by omega)))) rfl (by rfl) ?_
              refine rg_step 54 (ob_move (by rfl) (by rfl)) rfl (by rfl) ?_
              refine rg_step 55 (ob_move (by rfl) (by rfl)) rfl (by rfl) ?_
              refine rg_step 56 (ob_index 1 (j) (by rfl) (by rfl) (by rfl) Try.underlying81 (by kernel_rfl) (Int.natCast_nonneg _) (Int.ofNat_lt.2 (by omega)) (by rw [Int.toNat_natCast]; omega)) rfl (by rfl) ?_
              refine rg_step 57 (ob_load (v := .int .u64 (g (j))) (by rfl) (by rfl) (by kernel_rfl) (fun w' he => ext_cell he (HROW.out.cell (i := j) (by omega)))) rfl (by rfl) ?_
              refine rg_step 58 (ob_call (.ex (.bool (decide (g lo < g j)))) (by rfl) cf_less (fun w' he => gives_ex ((less_in (g lo) (g j) w').mono fun e w2 h => ⟨h.1, by rw [h.2]; exact Ext.rfl _⟩))) rfl (by rfl) ?_
              refine rg_step 59 (ob_pick true (by rfl) (by rfl) (by rfl)) rfl (by rfl) ?_
              refine rg_end ?_
              intro w3 he3
              simp only [asg, List.set_cons_zero, List.set_cons_succ, List.map_cons, List.map_nil, opens]
              have R3 := hid (HROW.out.ext he3)
              have B3 := hid (below_ext HB.out HROW.out he3)
              clear he3
              rw [HAT.out]
              by_cases hlt : v < g j
              · have dd : decide (v < g j) = true := decide_eq_true hlt
                rw [dd]
                have HP2 := hid (show PEq lo hi n i (j - 1) f g v from ⟨HP.out.i1, by have := HP.out.i1; have := HP.out.i2; omega, by have := HP.out.j1; omega, HP.out.re, HP.out.at_, HP.out.low, fun k k1 k2 => by
                  by_cases c : k = j
                  · subst c; exact hlt
                  · exact HP.out.up k (by omega) k2⟩)
                clear hlt dd dj hb1
                go_wp2_with fail
                go_roundw
                case rel => exact ⟨j - 1, by have := BN.out; go_num, by omega, HP2.out, R3.out, B3.out⟩
                case measure => have := BN.out; first | (simp [intOf]; done) | (simp [intOf]; omega)
              · have dd : decide (v < g j) = false := decide_eq_false hlt
                rw [dd]
                have hgi := hstop.out (by omega)
                have hne : i ≠ j := fun e => by subst e; exact hlt hgi
                have hlt2 : i < j := by omega
                have HP2 := hid (HP.out.swap hij hgi hlt)
                have ci := R3.out.cell (i := i) (by omega)
                have cj := R3.out.cell (i := j) (by omega)
                have ff := R3.out.frozen
                have hin : ((i : Nat) : Int) < (n : Int) := by omega
                have hjn : ((j : Nat) : Int) < (n : Int) := by omega
                have hin' : i < n := by omega
                have hjn' : j < n := by omega
                have HSW := hid (R3.out.swapD (i := i) (j := j) (by omega) (by omega))
                have HSB := hid (swap_below B3.out i j (g j) (g i))
                clear hlt dd dj hgi
                have dgt : decide ((j : Int) < (i : Int)) = false := decide_eq_false (by omega)
                have dgt' : ¬ j < i := by omega
                go_wp2_with fail
                go_region
                generalize (((w3.setCell ⟨b, i, none⟩ (.int .u64 (g j))).setCell ⟨b, j, none⟩ (.int .u64 (g i))).drew) = wq at *
                clear ci cj ff
                go_wp2_with fail
                go_roundw
                case rel => exact ⟨i + 1, j - 1, _, by have := BN.out; go_num, by have := BN.out; go_num, HP2.out, HSW.out, HSB.out⟩
                case measure => have := BN.out; first | (simp [intOf]; done) | (simp [intOf]; omega)
            · have dj : icmp .leq (i : Int) (j : Int) = some false := by unfold icmp; simp; omega
              have dgt : decide ((j : Int) < (i : Int)) = true := decide_eq_true (by omega)
              have dgt' : j < i := by omega
              go_wp2_with fail
              refine wp_draw (by kernel_rfl) (by kernel_rfl) ?_
              refine rg_step 46 (ob_move (by rfl) (by rfl)) rfl (by rfl) ?_
              refine rg_step 47 (ob_move (by rfl) (by rfl)) rfl (by rfl) ?_
              refine rg_step 48 (ob_icmp false (by rfl) (by rfl) (by rfl) (dj)) rfl (by rfl) ?_
              refine rg_step 49 (ob_move (by rfl) (by rfl)) rfl (by rfl) ?_
              refine rg_step 50 (ob_skip (by rfl)) rfl (by rfl) ?_
              refine rg_step 51 (ob_skip (by rfl)) rfl (by rfl) ?_
              refine rg_step 52 (ob_skip (by rfl)) rfl (by rfl) ?_
              refine rg_step 53 (ob_skip (by rfl)) rfl (by rfl) ?_
              refine rg_step 54 (ob_skip (by rfl)) rfl (by rfl) ?_
              refine rg_step 55 (ob_skip (by rfl)) rfl (by rfl) ?_
              refine rg_step 56 (ob_skip (by rfl)) rfl (by rfl) ?_
              refine rg_step 57 (ob_skip (by rfl)) rfl (by rfl) ?_
              refine rg_step 58 (ob_skip (by rfl)) rfl (by rfl) ?_
              refine rg_step 59 (ob_pick false (by rfl) (by rfl) (by rfl)) rfl (by rfl) ?_
              refine rg_end ?_
              intro w3 he3
              simp only [asg, List.set_cons_zero, List.set_cons_succ, List.map_cons, List.map_nil, opens]
              have R3 := hid (HROW.out.ext he3)
              have B3 := hid (below_ext HB.out HROW.out he3)
              clear he3
              go_wp2_with fail
              go_ret
              exact ⟨i, g, rfl, HP.out.i1, by have := BN.out; omega, HP.out.re, R3.out, B3.out, HP.out.low, fun k k1 k2 => HP.out.up k (by omega) k2⟩
        · have dd : decide (v < g i) = false := decide_eq_false hlt
          rw [dd, show (!false) = true from rfl]
          have HP2 := hid (show PEq lo hi n (i + 1) j0 f g v from ⟨by have := HP.out.i1; omega, by omega, HP.out.j1, HP.out.re, HP.out.at_, fun k k1 k2 => by
            by_cases c : k = i
            · subst c; exact hlt
            · exact HP.out.low k k1 (by omega), HP.out.up⟩)
          clear hlt dd dj hb1
          go_wp2_with fail
          go_roundw
          case rel => exact ⟨i + 1, by have := BN.out; go_num, by omega, HP2.out, R3.out, B3.out⟩
          case measure => first | (simp [intOf]; done) | (simp [intOf]; omega)
      · have dj : icmp .leq (i : Int) (j0 : Int) = some false := by unfold icmp; simp; omega
        go_wp2_with fail
        refine wp_draw (by kernel_rfl) (by kernel_rfl) ?_
        refine rg_step 29 (ob_move (by rfl) (by rfl)) rfl (by rfl) ?_
        refine rg_step 30 (ob_move (by rfl) (by rfl)) rfl (by rfl) ?_
        refine rg_step 31 (ob_icmp false (by rfl) (by rfl) (by rfl) (dj)) rfl (by rfl) ?_
        refine rg_step 32 (ob_move (by rfl) (by rfl)) rfl (by rfl) ?_
        refine rg_step 33 (ob_skip (by rfl)) rfl (by rfl) ?_
        refine rg_step 34 (ob_skip (by rfl)) rfl (by rfl) ?_
        refine rg_step 35 (ob_skip (by rfl)) rfl (by rfl) ?_
        refine rg_step 36 (ob_skip (by rfl)) rfl (by rfl) ?_
        refine rg_step 37 (ob_skip (by rfl)) rfl (by rfl) ?_
        refine rg_step 38 (ob_skip (by rfl)) rfl (by rfl) ?_
        refine rg_step 39 (ob_skip (by rfl)) rfl (by rfl) ?_
        refine rg_step 40 (ob_skip (by rfl)) rfl (by rfl) ?_
        refine rg_step 41 (ob_skip (by rfl)) rfl (by rfl) ?_
        refine rg_step 42 (ob_skip (by rfl)) rfl (by rfl) ?_
        refine rg_step 43 (ob_pick false (by rfl) (by rfl) (by rfl)) rfl (by rfl) ?_
        refine rg_end ?_
        intro w3 he3
        simp only [asg, List.set_cons_zero, List.set_cons_succ, List.map_cons, List.map_nil, opens]
        have R3 := hid (HROW.out.ext he3)
        have B3 := hid (below_ext HB.out HROW.out he3)
        clear he3
        have hstop := hid (show i ≤ j0 → v < g i from fun h => absurd h hij)
        have HQ := hid HP.out
        clear dj HROW HB HP BN hij
        have HQB := hid (And.intro HQ.out (And.intro R3.out B3.out))
        clear HQ R3 B3
        go_wp2_with fail
        go_loopw [10] (fun tj wz => ∃ j : Nat, tj = .int .i64 j ∧ j ≤ j0 ∧ PEq lo hi n i j f g v ∧ RowU b cap n g wz ∧ Below b w wz) (fun tj _ => (intOf tj + 1).toNat)
        case atStart => exact ⟨j0, rfl, Nat.le_refl _, HQB.out.1, HQB.out.2.1, HQB.out.2.2⟩
        case round =>
          clear HQB
          obtain ⟨j, rfl, hj, hp, hrow, hb⟩ := hrel
          have HP := hid hp
          have HROW := hid hrow
          have HB := hid hb
          have BN := hid (show lo < i ∧ i ≤ j + 1 ∧ j < hi from ⟨hp.i1, hp.i2, hp.j1⟩)
          have HAT := hid hp.at_
          clear hp hrow hb
          by_cases hij : i ≤ j
          · have dj : icmp .leq (i : Int) (j : Int) = some true := by unfold icmp; simp; omega
            have hb1 : lo < n ∧ i < n ∧ j < n := by have := BN.out; omega
            have hj1 : 1 ≤ j := by have := BN.out; omega
            have hj2 : j < 2305843009213693952 := by omega
            go_wp2_with fail
            refine wp_draw (by kernel_rfl) (by kernel_rfl) ?_
            refine rg_step 46 (ob_move (by rfl) (by rfl)) rfl (by rfl) ?_
            refine rg_step 47 (ob_move (by rfl) (by rfl)) rfl (by rfl) ?_
            refine rg_step 48 (ob_icmp true (by rfl) (by rfl) (by rfl) (dj)) rfl (by rfl) ?_
            refine rg_step 49 (ob_move (by rfl) (by rfl)) rfl (by rfl) ?_
            refine rg_step 50 (ob_move (by rfl) (by rfl)) rfl (by rfl) ?_
            refine rg_step 51 (ob_move (by rfl) (by rfl)) rfl (by rfl) ?_
            refine rg_step 52 (ob_index 1 (lo) (by rfl) (by rfl) (by rfl) Try.underlying81 (by kernel_rfl) (Int.natCast_nonneg _) (Int.ofNat_lt.2 (by omega)) (by rw [Int.toNat_natCast]; omega)) rfl (by rfl) ?_
            refine rg_step 53 (ob_load (v := .int .u64 (g (lo))) (by rfl) (by rfl) (by kernel_rfl) (fun w' he => ext_cell he (HROW.out.cell (i := lo) (by omega)))) rfl (by rfl) ?_
            refine rg_step 54 (ob_move (by rfl) (by rfl)) rfl (by rfl) ?_
            refine rg_step 55 (ob_move (by rfl) (by rfl)) rfl (by rfl) ?_
            refine rg_step 56 (ob_index 1 (j) (by rfl) (by rfl) (by rfl) Try.underlying81 (by kernel_rfl) (Int.natCast_nonneg _) (Int.ofNat_lt.2 (by omega)) (by rw [Int.toNat_natCast]; omega)) rfl (by rfl) ?_
            refine rg_step 57 (ob_load (v := .int .u64 (g (j))) (by rfl) (by rfl) (by kernel_rfl) (fun w' he => ext_cell he (HROW.out.cell (i := j) (by omega)))) rfl (by rfl) ?_
            refine rg_step 58 (ob_call (.ex (.bool (decide (g lo < g j)))) (by rfl) cf_less (fun w' he => gives_ex ((less_in (g lo) (g j) w').mono fun e w2 h => ⟨h.1, by rw [h.2]; exact Ext.rfl _⟩))) rfl (by rfl) ?_
            refine rg_step 59 (ob_pick true (by rfl) (by rfl) (by rfl)) rfl (by rfl) ?_
            refine rg_end ?_
            intro w3 he3
            simp only [asg, List.set_cons_zero, List.set_cons_succ, List.map_cons, List.map_nil, opens]
            have R3 := hid (HROW.out.ext he3)
            have B3 := hid (below_ext HB.out HROW.out he3)
            clear he3
            rw [HAT.out]
            by_cases hlt : v < g j
            · have dd : decide (v < g j) = true := decide_eq_true hlt
              rw [dd]
              have HP2 := hid (show PEq lo hi n i (j - 1) f g v from ⟨HP.out.i1, by have := HP.out.i1; have := HP.out.i2; omega, by have := HP.out.j1; omega, HP.out.re, HP.out.at_, HP.out.low, fun k k1 k2 => by
                by_cases c : k = j
                · subst c; exact hlt
                · exact HP.out.up k (by omega) k2⟩)
              clear hlt dd dj hb1
              go_wp2_with fail
              go_roundw
              case rel => exact ⟨j - 1, by have := BN.out; go_num, by omega, HP2.out, R3.out, B3.out⟩
              case measure => have := BN.out; first | (simp [intOf]; done) | (simp [intOf]; omega)
            · have dd : decide (v < g j) = false := decide_eq_false hlt
              rw [dd]
              have hgi := hstop.out (by omega)
              have hne : i ≠ j := fun e => by subst e; exact hlt hgi
              have hlt2 : i < j := by omega
              have HP2 := hid (HP.out.swap hij hgi hlt)
              have ci := R3.out.cell (i := i) (by omega)
              have cj := R3.out.cell (i := j) (by omega)
              have ff := R3.out.frozen
              have hin : ((i : Nat) : Int) < (n : Int) := by omega
              have hjn : ((j : Nat) : Int) < (n : Int) := by omega
              have hin' : i < n := by omega
              have hjn' : j < n := by omega
              have HSW := hid (R3.out.swapD (i := i) (j := j) (by omega) (by omega))
              have HSB := hid (swap_below B3.out i j (g j) (g i))
              clear hlt dd dj hgi
              have dgt : decide ((j : Int) < (i : Int)) = false := decide_eq_false (by omega)
              have dgt' : ¬ j < i := by omega
              go_wp2_with fail
              go_region
              generalize (((w3.setCell ⟨b, i, none⟩ (.int .u64 (g j))).setCell ⟨b, j, none⟩ (.int .u64 (g i))).drew) = wq at *
              clear ci cj ff
              go_wp2_with fail
              go_roundw
              case rel => exact ⟨i + 1, j - 1, _, by have := BN.out; go_num, by have := BN.out; go_num, HP2.out, HSW.out, HSB.out⟩
              case measure => have := BN.out; first | (simp [intOf]; done) | (simp [intOf]; omega)
          · have dj : icmp .leq (i : Int) (j : Int) = some false := by unfold icmp; simp; omega
            have dgt : decide ((j : Int) < (i : Int)) = true := decide_eq_true (by omega)
            have dgt' : j < i := by omega
            go_wp2_with fail
            refine wp_draw (by kernel_rfl) (by kernel_rfl) ?_
            refine rg_step 46 (ob_move (by rfl) (by rfl)) rfl (by rfl) ?_
            refine rg_step 47 (ob_move (by rfl) (by rfl)) rfl (by rfl) ?_
            refine rg_step 48 (ob_icmp false (by rfl) (by rfl) (by rfl) (dj)) rfl (by rfl) ?_
            refine rg_step 49 (ob_move (by rfl) (by rfl)) rfl (by rfl) ?_
            refine rg_step 50 (ob_skip (by rfl)) rfl (by rfl) ?_
            refine rg_step 51 (ob_skip (by rfl)) rfl (by rfl) ?_
            refine rg_step 52 (ob_skip (by rfl)) rfl (by rfl) ?_
            refine rg_step 53 (ob_skip (by rfl)) rfl (by rfl) ?_
            refine rg_step 54 (ob_skip (by rfl)) rfl (by rfl) ?_
            refine rg_step 55 (ob_skip (by rfl)) rfl (by rfl) ?_
            refine rg_step 56 (ob_skip (by rfl)) rfl (by rfl) ?_
            refine rg_step 57 (ob_skip (by rfl)) rfl (by rfl) ?_
            refine rg_step 58 (ob_skip (by rfl)) rfl (by rfl) ?_
            refine rg_step 59 (ob_pick false (by rfl) (by rfl) (by rfl)) rfl (by rfl) ?_
            refine rg_end ?_
            intro w3 he3
            simp only [asg, List.set_cons_zero, List.set_cons_succ, List.map_cons, List.map_nil, opens]
            have R3 := hid (HROW.out.ext he3)
            have B3 := hid (below_ext HB.out HROW.out he3)
            clear he3
            go_wp2_with fail
            go_ret
            exact ⟨i, g, rfl, HP.out.i1, by have := BN.out; omega, HP.out.re, R3.out, B3.out, HP.out.low, fun k k1 k2 => HP.out.up k (by omega) k2⟩
end Go.Proofs.Ytoonhcmeklmnlaa
