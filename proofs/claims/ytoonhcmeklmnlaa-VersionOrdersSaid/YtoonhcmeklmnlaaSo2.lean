/- Sorting numbers: insertion. -/
import Derived.Test.YtoonhcmeklmnlaaSo1
set_option linter.unusedSimpArgs false
set_option linter.unusedVariables false
set_option linter.unnecessarySimpa false
namespace Go.Proofs.Ytoonhcmeklmnlaa
open Go.RowKit Go.Rg Go.St

def Srt (g : Nat → Int) (lo hi : Nat) : Prop := ∀ k, lo ≤ k → k + 1 < hi → g k ≤ g (k + 1)
/-- in order but for one that is on its way down -/
def InsI (g : Nat → Int) (lo i j : Nat) : Prop := (∀ k, lo ≤ k → k + 1 ≤ i → k + 1 ≠ j → g k ≤ g (k + 1)) ∧ (lo < j → j < i → g (j - 1) ≤ g (j + 1))
theorem InsI.start {g : Nat → Int} {lo i : Nat} (h : Srt g lo i) : InsI g lo i i := ⟨fun k h1 h2 h3 => h k h1 (by omega), fun _ h => absurd h (by omega)⟩
theorem InsI.step {g : Nat → Int} {lo i j : Nat} (h : InsI g lo i j) (hj : lo < j) (hji : j ≤ i) (hl : g j < g (j - 1)) : InsI (swapF g j (j - 1)) lo i (j - 1) := by
  have e1 : swapF g j (j - 1) j = g (j - 1) := by unfold swapF; rw [if_neg (by omega), if_pos rfl]
  have e2 : swapF g j (j - 1) (j - 1) = g j := by unfold swapF; rw [if_pos rfl]
  have e3 : ∀ k, k ≠ j → k ≠ j - 1 → swapF g j (j - 1) k = g k := fun k h1 h2 => by unfold swapF; rw [if_neg h2, if_neg h1]
  refine ⟨fun k h1 h2 h3 => ?_, fun h1 h2 => ?_⟩
  · by_cases c1 : k + 1 = j
    · have : k = j - 1 := by omega
      subst this
      rw [c1, e1, e2]
      omega
    · by_cases c2 : k = j
      · subst c2
        rw [e1, e3 (k + 1) (by omega) (by omega)]
        exact h.2 hj (by omega)
      · rw [e3 k c2 (by omega), e3 (k + 1) c1 h3]
        exact h.1 k h1 h2 c1
  · have := h.1 (j - 2) (by omega) (by omega) (by omega)
    rw [e3 (j - 1 - 1) (by omega) (by omega), show j - 1 + 1 = j by omega, e1]
    rw [show j - 1 - 1 = j - 2 by omega]
    rw [show j - 2 + 1 = j - 1 by omega] at this
    exact this
theorem InsI.done {g : Nat → Int} {lo i j : Nat} (h : InsI g lo i j) (hd : lo < j → ¬ g j < g (j - 1)) : Srt g lo (i + 1) := fun k h1 h2 => by
  by_cases c : k + 1 = j
  · subst c
    have := hd (by omega)
    rw [Nat.add_sub_cancel] at this
    omega
  · exact h.1 k h1 (by omega) c
theorem below_ext {b cap n : Nat} {f : Nat → Int} {w0 w w' : World} (h : Below b w0 w) (hr : RowU b cap n f w) (he : Ext w w') : Below b w0 w' := Below.trans h (Below.mono he (Nat.le_of_lt hr.lt))

set_option maxRecDepth 100000 in
set_option maxHeartbeats 4000000 in
theorem ins_in (b cap n : Nat) (f : Nat → Int) (lo hi : Nat) (w : World) (h : RowU b cap n f w) (h2 : hi ≤ n) (h3 : n ≤ 4611686018427387904) (h4 : lo ≤ n) :
    Calls Try.prog 116 #[.slice (some ⟨b, 0, none⟩) n cap, .int .i64 lo, .int .i64 hi] w (SortP b cap n lo hi f w (fun g => Srt g lo hi)) := by
  have H := hid h
  clear h
  go_enter Try.func116, Try.ntmps116
  go_wp2_with fail
  go_loopw [6] (fun ti wr => ∃ (i : Nat) (g : Nat → Int), ti = .int .i64 i ∧ lo < i ∧ (i ≤ hi ∨ i = lo + 1) ∧ Srt g lo i ∧ Re lo hi f g ∧ RowU b cap n g wr ∧ Below b w wr) (fun ti _ => hi - (intOf ti).toNat)
  case atStart => exact ⟨lo + 1, f, by go_num, by omega, .inr rfl, fun k h1 h2 => absurd h2 (by omega), .refl, H.out, Below.refl _ _⟩
  case round =>
    obtain ⟨i, g, rfl, hi1, hi2, hs, hre, hrow, hb⟩ := hrel
    have HS := hid hs
    have HRE := hid hre
    have HROW := hid hrow
    have HB := hid hb
    clear hs hre hrow hb
    by_cases hih : i < hi
    · have dl : decide ((i : Int) < (hi : Int)) = true := decide_eq_true (by omega)
      have I0 := hid (InsI.start HS.out)
      go_wp2_with fail
      have HGI := hid (show Re lo hi f g ∧ RowU b cap n g wr ∧ Below b w wr ∧ InsI g lo i i from ⟨HRE.out, HROW.out, HB.out, I0.out⟩)
      clear HS HRE HROW HB I0
      go_loopw [7] (fun tj wz => ∃ (j : Nat) (g : Nat → Int), tj = .int .i64 j ∧ lo ≤ j ∧ j ≤ i ∧ Re lo hi f g ∧ RowU b cap n g wz ∧ Below b w wz ∧ InsI g lo i j) (fun tj _ => (intOf tj).toNat)
      case atStart => exact ⟨i, g, rfl, by omega, Nat.le_refl _, HGI.out.1, HGI.out.2.1, HGI.out.2.2.1, HGI.out.2.2.2⟩
      case round =>
        clear HGI
        obtain ⟨j, g, rfl, hj1, hj2, hre, hrow, hb, hin⟩ := hrel
        have HRE := hid hre
        have HROW := hid hrow
        have HB := hid hb
        have HIN := hid hin
        clear hre hrow hb hin
        by_cases hlj : lo < j
        · have dj : icmp .gtr (j : Int) (lo : Int) = some true := by unfold icmp; simp; omega
          have hj0 : ((j - 1 : Nat) : Int) = (j : Int) - 1 := by omega
          go_wp2_with fail
          refine wp_draw (by kernel_rfl) (by kernel_rfl) ?_
          refine rg_step 16 (ob_move (by rfl) (by rfl)) rfl (by rfl) ?_
          refine rg_step 17 (ob_move (by rfl) (by rfl)) rfl (by rfl) ?_
          refine rg_step 18 (ob_icmp true (by rfl) (by rfl) (by rfl) (dj)) rfl (by rfl) ?_
          refine rg_step 19 (ob_move (by rfl) (by rfl)) rfl (by rfl) ?_
          refine rg_step 20 (ob_move (by rfl) (by rfl)) rfl (by rfl) ?_
          refine rg_step 21 (ob_move (by rfl) (by rfl)) rfl (by rfl) ?_
          refine rg_step 22 (ob_index 1 (j) (by rfl) (by rfl) (by rfl) Try.underlying81 (by kernel_rfl) (Int.natCast_nonneg _) (Int.ofNat_lt.2 (by omega)) (by rw [Int.toNat_natCast]; omega)) rfl (by rfl) ?_
          refine rg_step 23 (ob_load (v := .int .u64 (g (j))) (by rfl) (by rfl) (by kernel_rfl) (fun w' he => ext_cell he (HROW.out.cell (i := j) (by omega)))) rfl (by rfl) ?_
          refine rg_step 24 (ob_move (by rfl) (by rfl)) rfl (by rfl) ?_
          refine rg_step 25 (ob_move (by rfl) (by rfl)) rfl (by rfl) ?_
          refine rg_step 26 (ob_iarith ((j - 1 : Nat) : Int) ((j - 1 : Nat) : Int) (by rfl) (by rfl) (by rfl) (congrArg some (by omega)) (IntWalk.i64_in _ (by omega))) rfl (by rfl) ?_
          refine rg_step 27 (ob_index 1 (j - 1) (by rfl) (by rfl) (by rfl) Try.underlying81 (by kernel_rfl) (Int.natCast_nonneg _) (Int.ofNat_lt.2 (by omega)) (by rw [Int.toNat_natCast]; omega)) rfl (by rfl) ?_
          refine rg_step 28 (ob_load (v := .int .u64 (g (j - 1))) (by rfl) (by rfl) (by kernel_rfl) (fun w' he => ext_cell he (HROW.out.cell (i := j - 1) (by omega)))) rfl (by rfl) ?_
          refine rg_step 29 (ob_call (.ex (.bool (decide (g j < g (j - 1))))) (by rfl) cf_less (fun w' he => gives_ex ((less_in (g j) (g (j - 1)) w').mono fun e w2 h => ⟨h.1, by rw [h.2]; exact Ext.rfl _⟩))) rfl (by rfl) ?_
          refine rg_step 30 (ob_pick true (by rfl) (by rfl) (by rfl)) rfl (by rfl) ?_
          refine rg_end ?_
          intro w3 he3
          simp only [asg, List.set_cons_zero, List.set_cons_succ, List.map_cons, List.map_nil, opens]
          have R3 := hid (HROW.out.ext he3)
          have B3 := hid (below_ext HB.out HROW.out he3)
          clear he3
          by_cases hlt : g j < g (j - 1)
          · have dd : decide (g j < g (j - 1)) = true := decide_eq_true hlt
            rw [dd]
            have ci := R3.out.cell (i := j) (by omega)
            have cj := R3.out.cell (i := j - 1) (by omega)
            have ff := R3.out.frozen
            have hin : ((j : Nat) : Int) < (n : Int) := Int.ofNat_lt.2 (by omega)
            have hjn : ((j - 1 : Nat) : Int) < (n : Int) := Int.ofNat_lt.2 (by omega)
            have hin' : j < n := by omega
            have hjn' : j - 1 < n := by omega
            have HSW := hid (R3.out.swapD (i := j) (j := j - 1) (by omega) (by omega))
            have HSB := hid (swap_below B3.out (j) (j - 1) (g (j - 1)) (g (j)))
            have HRS := hid (HRE.out.step j (j - 1) (by omega) (by omega) (by omega) (by omega))
            have HIS := hid (HIN.out.step hlj hj2 hlt)
            clear hlt dd dj
            rw [hj0] at hjn
            go_wp2_with fail
            go_region
            generalize (((w3.setCell ⟨b, j, none⟩ (.int .u64 (g (j - 1)))).setCell ⟨b, j - 1, none⟩ (.int .u64 (g j))).drew) = wq at *
            clear ci cj ff HROW HB HRE R3 B3 HIN
            go_wp2_with fail
            go_roundw
            case rel => exact ⟨j - 1, _, by go_num, by omega, by omega, HRS.out, HSW.out, HSB.out, HIS.out⟩
            case measure => simp [intOf]; omega
          · have dd : decide (g j < g (j - 1)) = false := decide_eq_false hlt
            rw [dd]
            have HD := hid (HIN.out.done (fun _ => hlt))
            clear hlt dd
            go_wp2_with fail
            go_roundw
            case rel => exact ⟨i + 1, g, by go_num, by omega, by omega, HD.out, HRE.out, R3.out, B3.out⟩
            case measure => simp [intOf]; omega
        · have dj : icmp .gtr (j : Int) (lo : Int) = some false := by unfold icmp; simp; omega
          go_wp2_with fail
          refine wp_draw (by kernel_rfl) (by kernel_rfl) ?_
          refine rg_step 16 (ob_move (by rfl) (by rfl)) rfl (by rfl) ?_
          refine rg_step 17 (ob_move (by rfl) (by rfl)) rfl (by rfl) ?_
          refine rg_step 18 (ob_icmp false (by rfl) (by rfl) (by rfl) (dj)) rfl (by rfl) ?_
          refine rg_step 19 (ob_move (by rfl) (by rfl)) rfl (by rfl) ?_
          refine rg_step 20 (ob_skip (by rfl)) rfl (by rfl) ?_
          refine rg_step 21 (ob_skip (by rfl)) rfl (by rfl) ?_
          refine rg_step 22 (ob_skip (by rfl)) rfl (by rfl) ?_
          refine rg_step 23 (ob_skip (by rfl)) rfl (by rfl) ?_
          refine rg_step 24 (ob_skip (by rfl)) rfl (by rfl) ?_
          refine rg_step 25 (ob_skip (by rfl)) rfl (by rfl) ?_
          refine rg_step 26 (ob_skip (by rfl)) rfl (by rfl) ?_
          refine rg_step 27 (ob_skip (by rfl)) rfl (by rfl) ?_
          refine rg_step 28 (ob_skip (by rfl)) rfl (by rfl) ?_
          refine rg_step 29 (ob_skip (by rfl)) rfl (by rfl) ?_
          refine rg_step 30 (ob_pick false (by rfl) (by rfl) (by rfl)) rfl (by rfl) ?_
          refine rg_end ?_
          intro w3 he3
          simp only [asg, List.set_cons_zero, List.set_cons_succ, List.map_cons, List.map_nil, opens]
          have R3 := hid (HROW.out.ext he3)
          have B3 := hid (below_ext HB.out HROW.out he3)
          clear he3
          have HD := hid (HIN.out.done (fun h => absurd h hlj))
          go_wp2_with fail
          go_roundw
          case rel => exact ⟨i + 1, g, by go_num, by omega, by omega, HD.out, HRE.out, R3.out, B3.out⟩
          case measure => simp [intOf]; omega
    · have dl : decide ((i : Int) < (hi : Int)) = false := decide_eq_false (by omega)
      go_wp2_with fail
      go_end0
      exact ⟨rfl, g, HRE.out, HROW.out, HB.out, fun k k1 k2 => HS.out k k1 (by omega)⟩
end Go.Proofs.Ytoonhcmeklmnlaa
