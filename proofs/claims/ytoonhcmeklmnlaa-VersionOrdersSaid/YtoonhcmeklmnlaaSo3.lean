/- Sorting numbers: the heap. -/
import Derived.Test.YtoonhcmeklmnlaaSo2
import Derived.Deep.CutRange
set_option linter.unusedSimpArgs false
set_option linter.unusedVariables false
set_option linter.unnecessarySimpa false
namespace Go.Proofs.Ytoonhcmeklmnlaa
open Go.RowKit Go.Rg Go.St

/-- a heap from first on, but for what hangs at r -/
def HeapE (g : Nat → Int) (first lo hi r : Nat) : Prop :=
  (∀ p, lo ≤ p → p ≠ r → ∀ c, (c = 2 * p + 1 ∨ c = 2 * p + 2) → c < hi → g (first + c) ≤ g (first + p)) ∧
  (∀ p, lo ≤ p → (r = 2 * p + 1 ∨ r = 2 * p + 2) → ∀ c, (c = 2 * r + 1 ∨ c = 2 * r + 2) → c < hi → g (first + c) ≤ g (first + p))
def HeapF (g : Nat → Int) (first lo hi : Nat) : Prop := ∀ p, lo ≤ p → ∀ c, (c = 2 * p + 1 ∨ c = 2 * p + 2) → c < hi → g (first + c) ≤ g (first + p)
theorem HeapE.start {g : Nat → Int} {first lo hi : Nat} (h : HeapF g first (lo + 1) hi) : HeapE g first lo hi lo :=
  ⟨fun p h1 h2 c h3 h4 => h p (by omega) c h3 h4, fun p h1 h2 => absurd h2 (by omega)⟩
theorem HeapE.step {g : Nat → Int} {first lo hi r c : Nat} (h : HeapE g first lo hi r) (hr : lo ≤ r) (hc : c = 2 * r + 1 ∨ c = 2 * r + 2) (hch : c < hi) (hbig : ∀ d, (d = 2 * r + 1 ∨ d = 2 * r + 2) → d < hi → g (first + d) ≤ g (first + c)) (hl : g (first + r) < g (first + c)) :
    HeapE (swapF g (first + r) (first + c)) first lo hi c := by
  have er : swapF g (first + r) (first + c) (first + r) = g (first + c) := by unfold swapF; rw [if_neg (by omega), if_pos rfl]
  have ec : swapF g (first + r) (first + c) (first + c) = g (first + r) := by unfold swapF; rw [if_pos rfl]
  have eo : ∀ k, k ≠ r → k ≠ c → swapF g (first + r) (first + c) (first + k) = g (first + k) := fun k h1 h2 => by unfold swapF; rw [if_neg (by omega), if_neg (by omega)]
  refine ⟨fun p h1 h2 d h3 h4 => ?_, fun p h1 h2 d h3 h4 => ?_⟩
  · by_cases hp : p = r
    · subst hp
      rw [er]
      by_cases hd : d = c
      · subst hd; rw [ec]; omega
      · rw [eo d (by omega) hd]; exact hbig d h3 h4
    · rw [eo p hp h2]
      by_cases hd : d = r
      · subst hd
        rw [er]
        exact h.2 p h1 h3 c hc hch
      · rw [eo d hd (by omega)]
        exact h.1 p h1 hp d h3 h4
  · have hp : p = r := by omega
    subst hp
    rw [er, eo d (by omega) (by omega)]
    exact h.1 c (by omega) (by omega) d h3 h4
theorem HeapE.done {g : Nat → Int} {first lo hi r : Nat} (h : HeapE g first lo hi r) (hd : ∀ c, (c = 2 * r + 1 ∨ c = 2 * r + 2) → c < hi → g (first + c) ≤ g (first + r)) : HeapF g first lo hi := fun p h1 c h2 h3 => by
  by_cases hp : p = r
  · subst hp; exact hd c h2 h3
  · exact h.1 p h1 hp c h2 h3
theorem HeapF.top {g : Nat → Int} {first hi : Nat} (h : HeapF g first 0 hi) : ∀ k, k < hi → g (first + k) ≤ g first := by
  intro k
  induction k using Nat.strongRecOn with
  | _ k ih =>
    intro hk
    by_cases h0 : k = 0
    · subst h0; exact Int.le_refl _
    · have := h ((k - 1) / 2) (Nat.zero_le _) k (by omega) hk
      exact Int.le_trans this (ih ((k - 1) / 2) (by omega) (by omega))

set_option maxRecDepth 100000 in
set_option maxHeartbeats 8000000 in
theorem sift_in (b cap n : Nat) (f : Nat → Int) (lo hi first : Nat) (w : World) (h : RowU b cap n f w) (h2 : first + hi ≤ n) (h3 : n ≤ 2305843009213693952) (hlo : lo ≤ hi) (hh : HeapF f first (lo + 1) hi) :
    Calls Try.prog 134 #[.slice (some ⟨b, 0, none⟩) n cap, .int .i64 lo, .int .i64 hi, .int .i64 first] w (SortP b cap n (first + lo) (first + hi) f w (fun g => HeapF g first lo hi)) := by
  have H := hid h
  have HH := hid (HeapE.start hh)
  clear h hh
  go_enter Try.func134, Try.ntmps134
  go_wp2_with fail
  go_loopw [8] (fun tr wr => ∃ (r : Nat) (g : Nat → Int), tr = .int .i64 r ∧ lo ≤ r ∧ r ≤ hi ∧ HeapE g first lo hi r ∧ Re (first + lo) (first + hi) f g ∧ RowU b cap n g wr ∧ Below b w wr) (fun tr _ => hi - (intOf tr).toNat)
  case atStart => exact ⟨lo, f, rfl, Nat.le_refl _, hlo, HH.out, .refl, H.out, Below.refl _ _⟩
  case round =>
    clear HH
    obtain ⟨r, g, rfl, hr1, hr2, hhe, hre, hrow, hb⟩ := hrel
    have HHE := hid hhe
    have HRE := hid hre
    have HROW := hid hrow
    have HB := hid hb
    clear hhe hre hrow hb
    have w1 : wrap64 (2 * (r : Int)) = ((2 * r : Nat) : Int) := by unfold wrap64; omega
    have w2 : wrap64 (((2 * r : Nat) : Int) + 1) = ((2 * r + 1 : Nat) : Int) := by unfold wrap64; omega
    by_cases hc : hi ≤ 2 * r + 1
    · have dc : decide ((hi : Int) ≤ 2 * (r : Int) + 1) = true := decide_eq_true (by omega)
      have HD := hid (HHE.out.done (fun c k1 k2 => absurd k2 (by omega)))
      go_wp2_with fail
      go_end0
      exact ⟨rfl, g, HRE.out, HROW.out, HB.out, HD.out⟩
    · have dc : decide ((hi : Int) ≤ 2 * (r : Int) + 1) = false := decide_eq_false (by omega)
      go_wp2_with fail
      obtain ⟨c0, hc0⟩ : ∃ c0 : Nat, c0 = 2 * r + 1 := ⟨_, rfl⟩
      rw [show 2 * (r : Int) + 1 = (c0 : Int) by omega]
      clear dc w1 w2
      by_cases h1 : c0 + 1 < hi
      · have d1 : icmp .lss ((c0 + 1 : Nat) : Int) (hi : Int) = some true := by unfold icmp; simp; omega
        refine wp_draw (by kernel_rfl) (by kernel_rfl) ?_
        refine rg_step 17 (ob_move (by rfl) (by rfl)) rfl (by rfl) ?_
        refine rg_step 18 (ob_iarith ((c0 + 1 : Nat) : Int) ((c0 + 1 : Nat) : Int) (by rfl) (by rfl) (by rfl) (congrArg some (by omega)) (IntWalk.i64_in _ (by omega))) rfl (by rfl) ?_
        refine rg_step 19 (ob_move (by rfl) (by rfl)) rfl (by rfl) ?_
        refine rg_step 20 (ob_icmp true (by rfl) (by rfl) (by rfl) (d1)) rfl (by rfl) ?_
        refine rg_step 21 (ob_move (by rfl) (by rfl)) rfl (by rfl) ?_
        refine rg_step 22 (ob_move (by rfl) (by rfl)) rfl (by rfl) ?_
        refine rg_step 23 (ob_move (by rfl) (by rfl)) rfl (by rfl) ?_
        refine rg_step 24 (ob_move (by rfl) (by rfl)) rfl (by rfl) ?_
        refine rg_step 25 (ob_iarith ((first + c0 : Nat) : Int) ((first + c0 : Nat) : Int) (by rfl) (by rfl) (by rfl) (congrArg some (by omega)) (IntWalk.i64_in _ (by omega))) rfl (by rfl) ?_
        refine rg_step 26 (ob_index 1 (first + c0) (by rfl) (by rfl) (by rfl) Try.underlying81 (by kernel_rfl) (Int.natCast_nonneg _) (Int.ofNat_lt.2 (by omega)) (by rw [Int.toNat_natCast]; omega)) rfl (by rfl) ?_
        refine rg_step 27 (ob_load (v := .int .u64 (g (first + c0))) (by rfl) (by rfl) (by kernel_rfl) (fun w' he => ext_cell he (HROW.out.cell (i := first + c0) (by omega)))) rfl (by rfl) ?_
        refine rg_step 28 (ob_move (by rfl) (by rfl)) rfl (by rfl) ?_
        refine rg_step 29 (ob_move (by rfl) (by rfl)) rfl (by rfl) ?_
        refine rg_step 30 (ob_move (by rfl) (by rfl)) rfl (by rfl) ?_
        refine rg_step 31 (ob_iarith ((first + c0 : Nat) : Int) ((first + c0 : Nat) : Int) (by rfl) (by rfl) (by rfl) (congrArg some (by omega)) (IntWalk.i64_in _ (by omega))) rfl (by rfl) ?_
        refine rg_step 32 (ob_iarith ((first + c0 + 1 : Nat) : Int) ((first + c0 + 1 : Nat) : Int) (by rfl) (by rfl) (by rfl) (congrArg some (by omega)) (IntWalk.i64_in _ (by omega))) rfl (by rfl) ?_
        refine rg_step 33 (ob_index 1 (first + c0 + 1) (by rfl) (by rfl) (by rfl) Try.underlying81 (by kernel_rfl) (Int.natCast_nonneg _) (Int.ofNat_lt.2 (by omega)) (by rw [Int.toNat_natCast]; omega)) rfl (by rfl) ?_
        refine rg_step 34 (ob_load (v := .int .u64 (g (first + c0 + 1))) (by rfl) (by rfl) (by kernel_rfl) (fun w' he => ext_cell he (HROW.out.cell (i := first + c0 + 1) (by omega)))) rfl (by rfl) ?_
        refine rg_step 35 (ob_call (.ex (.bool (decide (g (first + c0) < g (first + c0 + 1))))) (by rfl) cf_less (fun w' he => gives_ex ((less_in (g (first + c0)) (g (first + c0 + 1)) w').mono fun e w2 h => ⟨h.1, by rw [h.2]; exact Ext.rfl _⟩))) rfl (by rfl) ?_
        refine rg_step 36 (ob_pick true (by rfl) (by rfl) (by rfl)) rfl (by rfl) ?_
        refine rg_end ?_
        intro w3 he3
        simp only [asg, List.set_cons_zero, List.set_cons_succ, List.map_cons, List.map_nil, opens]
        have R3 := hid (HROW.out.ext he3)
        have B3 := hid (below_ext HB.out HROW.out he3)
        clear he3
        by_cases hls : g (first + c0) < g (first + c0 + 1)
        · have dd : decide (g (first + c0) < g (first + c0 + 1)) = true := decide_eq_true hls
          rw [dd]
          obtain ⟨c1, hc1⟩ : ∃ c1 : Nat, c1 = c0 + 1 := ⟨_, rfl⟩
          have hcc : c1 = 2 * r + 1 ∨ c1 = 2 * r + 2 := by omega
          have hch : c1 < hi := by omega
          have hbig : ∀ d, (d = 2 * r + 1 ∨ d = 2 * r + 2) → d < hi → g (first + d) ≤ g (first + c1) := fun d k1 k2 => by
            rcases k1 with k1 | k1
            · rw [show first + d = first + c0 by omega, show first + c1 = first + c0 + 1 by omega]; exact Int.le_of_lt hls
            · rw [show d = c1 by omega]; exact Int.le_refl _
          have hc01 := hid (show (c0 : Int) + 1 = (c1 : Int) by omega)
          clear hls dd d1 hc0 hc1
          go_upto_region 5 with fail
          rw [hc01.out]
          refine wp_draw (by kernel_rfl) (by kernel_rfl) ?_
          refine rg_step 39 (ob_move (by rfl) (by rfl)) rfl (by rfl) ?_
          refine rg_step 40 (ob_move (by rfl) (by rfl)) rfl (by rfl) ?_
          refine rg_step 41 (ob_move (by rfl) (by rfl)) rfl (by rfl) ?_
          refine rg_step 42 (ob_iarith ((first + r : Nat) : Int) ((first + r : Nat) : Int) (by rfl) (by rfl) (by rfl) (congrArg some (by omega)) (IntWalk.i64_in _ (by omega))) rfl (by rfl) ?_
          refine rg_step 43 (ob_index 1 (first + r) (by rfl) (by rfl) (by rfl) Try.underlying81 (by kernel_rfl) (Int.natCast_nonneg _) (Int.ofNat_lt.2 (by omega)) (by rw [Int.toNat_natCast]; omega)) rfl (by rfl) ?_
          refine rg_step 44 (ob_load (v := .int .u64 (g (first + r))) (by rfl) (by rfl) (by kernel_rfl) (fun w' he => ext_cell he (R3.out.cell (i := first + r) (by omega)))) rfl (by rfl) ?_
          refine rg_step 45 (ob_move (by rfl) (by rfl)) rfl (by rfl) ?_
          refine rg_step 46 (ob_move (by rfl) (by rfl)) rfl (by rfl) ?_
          refine rg_step 47 (ob_move (by rfl) (by rfl)) rfl (by rfl) ?_
          refine rg_step 48 (ob_iarith ((first + c1 : Nat) : Int) ((first + c1 : Nat) : Int) (by rfl) (by rfl) (by rfl) (congrArg some (by omega)) (IntWalk.i64_in _ (by omega))) rfl (by rfl) ?_
          refine rg_step 49 (ob_index 1 (first + c1) (by rfl) (by rfl) (by rfl) Try.underlying81 (by kernel_rfl) (Int.natCast_nonneg _) (Int.ofNat_lt.2 (by omega)) (by rw [Int.toNat_natCast]; omega)) rfl (by rfl) ?_
          refine rg_step 50 (ob_load (v := .int .u64 (g (first + c1))) (by rfl) (by rfl) (by kernel_rfl) (fun w' he => ext_cell he (R3.out.cell (i := first + c1) (by omega)))) rfl (by rfl) ?_
          refine rg_step 51 (ob_call (.ex (.bool (decide (g (first + r) < g (first + c1))))) (by rfl) cf_less (fun w' he => gives_ex ((less_in (g (first + r)) (g (first + c1)) w').mono fun e w2 h => ⟨h.1, by rw [h.2]; exact Ext.rfl _⟩))) rfl (by rfl) ?_
          refine rg_step 52 (ob_not (decide (g (first + r) < g (first + c1))) (by rfl) (by rfl)) rfl (by rfl) ?_
          refine rg_end ?_
          intro w5 he5
          simp only [asg, List.set_cons_zero, List.set_cons_succ, List.map_cons, List.map_nil, opens]
          have R5 := hid (R3.out.ext he5)
          have B5 := hid (below_ext B3.out R3.out he5)
          clear he5
          by_cases hlt : g (first + r) < g (first + c1)
          · have dd : decide (g (first + r) < g (first + c1)) = true := decide_eq_true hlt
            rw [dd, show (!true) = false from rfl]
            have ci := R5.out.cell (i := first + r) (by omega)
            have cj := R5.out.cell (i := first + c1) (by omega)
            have ff := R5.out.frozen
            have hin : (first : Int) + (r : Int) < (n : Int) := by omega
            have hjn : (first : Int) + ((c1 : Nat) : Int) < (n : Int) := by omega
            have hi0 : (0 : Int) ≤ (first : Int) + (r : Int) := by omega
            have hj0 : (0 : Int) ≤ (first : Int) + ((c1 : Nat) : Int) := by omega
            have hti : ((first : Int) + (r : Int)).toNat = first + r := by omega
            have htj : ((first : Int) + ((c1 : Nat) : Int)).toNat = first + c1 := by omega
            have HSW := hid (R5.out.swapD (i := first + r) (j := first + c1) (by omega) (by omega))
            have HSB := hid (swap_below B5.out (first + r) (first + c1) (g (first + c1)) (g (first + r)))
            have HRS := hid (HRE.out.step (first + r) (first + c1) (by omega) (by omega) (by omega) (by omega))
            have HES := hid (HHE.out.step hr1 hcc hch hbig hlt)
            clear hlt dd hbig
            go_wp2_with fail
            go_region
            generalize (((w5.setCell ⟨b, first + r, none⟩ (.int .u64 (g (first + c1)))).setCell ⟨b, first + c1, none⟩ (.int .u64 (g (first + r)))).drew) = wq at *
            clear ci cj ff HROW HB HRE R5 B5 HHE
            go_wp2_with fail
            go_roundw
            case rel => exact ⟨c1, _, by go_num, by omega, by omega, HES.out, HRS.out, HSW.out, HSB.out⟩
            case measure => simp [intOf]; omega
          · have dd : decide (g (first + r) < g (first + c1)) = false := decide_eq_false hlt
            rw [dd, show (!false) = true from rfl]
            have HD := hid (HHE.out.done (fun d k1 k2 => Int.le_trans (hbig d k1 k2) (Int.not_lt.1 hlt)))
            clear hlt dd hbig
            go_wp2_with fail
            first | go_end0 | refine bodyPost_ret (results_none rfl _ _ _) rfl ?_
            exact ⟨rfl, g, HRE.out, R5.out, B5.out, HD.out⟩
        · have dd : decide (g (first + c0) < g (first + c0 + 1)) = false := decide_eq_false hls
          rw [dd]
          have hcc : c0 = 2 * r + 1 ∨ c0 = 2 * r + 2 := by omega
          have hch : c0 < hi := by omega
          have hbig : ∀ d, (d = 2 * r + 1 ∨ d = 2 * r + 2) → d < hi → g (first + d) ≤ g (first + c0) := fun d k1 k2 => by
            rcases k1 with k1 | k1
            · rw [show d = c0 by omega]; exact Int.le_refl _
            · rw [show first + d = first + c0 + 1 by omega]; omega
          clear hls dd d1 hc0
          go_wp2_with fail
          refine wp_draw (by kernel_rfl) (by kernel_rfl) ?_
          refine rg_step 39 (ob_move (by rfl) (by rfl)) rfl (by rfl) ?_
          refine rg_step 40 (ob_move (by rfl) (by rfl)) rfl (by rfl) ?_
          refine rg_step 41 (ob_move (by rfl) (by rfl)) rfl (by rfl) ?_
          refine rg_step 42 (ob_iarith ((first + r : Nat) : Int) ((first + r : Nat) : Int) (by rfl) (by rfl) (by rfl) (congrArg some (by omega)) (IntWalk.i64_in _ (by omega))) rfl (by rfl) ?_
          refine rg_step 43 (ob_index 1 (first + r) (by rfl) (by rfl) (by rfl) Try.underlying81 (by kernel_rfl) (Int.natCast_nonneg _) (Int.ofNat_lt.2 (by omega)) (by rw [Int.toNat_natCast]; omega)) rfl (by rfl) ?_
          refine rg_step 44 (ob_load (v := .int .u64 (g (first + r))) (by rfl) (by rfl) (by kernel_rfl) (fun w' he => ext_cell he (R3.out.cell (i := first + r) (by omega)))) rfl (by rfl) ?_
          refine rg_step 45 (ob_move (by rfl) (by rfl)) rfl (by rfl) ?_
          refine rg_step 46 (ob_move (by rfl) (by rfl)) rfl (by rfl) ?_
          refine rg_step 47 (ob_move (by rfl) (by rfl)) rfl (by rfl) ?_
          refine rg_step 48 (ob_iarith ((first + c0 : Nat) : Int) ((first + c0 : Nat) : Int) (by rfl) (by rfl) (by rfl) (congrArg some (by omega)) (IntWalk.i64_in _ (by omega))) rfl (by rfl) ?_
          refine rg_step 49 (ob_index 1 (first + c0) (by rfl) (by rfl) (by rfl) Try.underlying81 (by kernel_rfl) (Int.natCast_nonneg _) (Int.ofNat_lt.2 (by omega)) (by rw [Int.toNat_natCast]; omega)) rfl (by rfl) ?_
          refine rg_step 50 (ob_load (v := .int .u64 (g (first + c0))) (by rfl) (by rfl) (by kernel_rfl) (fun w' he => ext_cell he (R3.out.cell (i := first + c0) (by omega)))) rfl (by rfl) ?_
          refine rg_step 51 (ob_call (.ex (.bool (decide (g (first + r) < g (first + c0))))) (by rfl) cf_less (fun w' he => gives_ex ((less_in (g (first + r)) (g (first + c0)) w').mono fun e w2 h => ⟨h.1, by rw [h.2]; exact Ext.rfl _⟩))) rfl (by rfl) ?_
          refine rg_step 52 (ob_not (decide (g (first + r) < g (first + c0))) (by rfl) (by rfl)) rfl (by rfl) ?_
          refine rg_end ?_
          intro w5 he5
          simp only [asg, List.set_cons_zero, List.set_cons_succ, List.map_cons, List.map_nil, opens]
          have R5 := hid (R3.out.ext he5)
          have B5 := hid (below_ext B3.out R3.out he5)
          clear he5
          by_cases hlt : g (first + r) < g (first + c0)
          · have dd : decide (g (first + r) < g (first + c0)) = true := decide_eq_true hlt
            rw [dd, show (!true) = false from rfl]
            have ci := R5.out.cell (i := first + r) (by omega)
            have cj := R5.out.cell (i := first + c0) (by omega)
            have ff := R5.out.frozen
            have hin : (first : Int) + (r : Int) < (n : Int) := by omega
            have hjn : (first : Int) + ((c0 : Nat) : Int) < (n : Int) := by omega
            have hi0 : (0 : Int) ≤ (first : Int) + (r : Int) := by omega
            have hj0 : (0 : Int) ≤ (first : Int) + ((c0 : Nat) : Int) := by omega
            have hti : ((first : Int) + (r : Int)).toNat = first + r := by omega
            have htj : ((first : Int) + ((c0 : Nat) : Int)).toNat = first + c0 := by omega
            have HSW := hid (R5.out.swapD (i := first + r) (j := first + c0) (by omega) (by omega))
            have HSB := hid (swap_below B5.out (first + r) (first + c0) (g (first + c0)) (g (first + r)))
            have HRS := hid (HRE.out.step (first + r) (first + c0) (by omega) (by omega) (by omega) (by omega))
            have HES := hid (HHE.out.step hr1 hcc hch hbig hlt)
            clear hlt dd hbig
            go_wp2_with fail
            go_region
            generalize (((w5.setCell ⟨b, first + r, none⟩ (.int .u64 (g (first + c0)))).setCell ⟨b, first + c0, none⟩ (.int .u64 (g (first + r)))).drew) = wq at *
            clear ci cj ff HROW HB HRE R5 B5 HHE
            go_wp2_with fail
            go_roundw
            case rel => exact ⟨c0, _, by go_num, by omega, by omega, HES.out, HRS.out, HSW.out, HSB.out⟩
            case measure => simp [intOf]; omega
          · have dd : decide (g (first + r) < g (first + c0)) = false := decide_eq_false hlt
            rw [dd, show (!false) = true from rfl]
            have HD := hid (HHE.out.done (fun d k1 k2 => Int.le_trans (hbig d k1 k2) (Int.not_lt.1 hlt)))
            clear hlt dd hbig
            go_wp2_with fail
            first | go_end0 | refine bodyPost_ret (results_none rfl _ _ _) rfl ?_
            exact ⟨rfl, g, HRE.out, R5.out, B5.out, HD.out⟩
      · have d1 : icmp .lss ((c0 + 1 : Nat) : Int) (hi : Int) = some false := by unfold icmp; simp; omega
        refine wp_draw (by kernel_rfl) (by kernel_rfl) ?_
        refine rg_step 17 (ob_move (by rfl) (by rfl)) rfl (by rfl) ?_
        refine rg_step 18 (ob_iarith ((c0 + 1 : Nat) : Int) ((c0 + 1 : Nat) : Int) (by rfl) (by rfl) (by rfl) (congrArg some (by omega)) (IntWalk.i64_in _ (by omega))) rfl (by rfl) ?_
        refine rg_step 19 (ob_move (by rfl) (by rfl)) rfl (by rfl) ?_
        refine rg_step 20 (ob_icmp false (by rfl) (by rfl) (by rfl) (d1)) rfl (by rfl) ?_
        refine rg_step 21 (ob_move (by rfl) (by rfl)) rfl (by rfl) ?_
        refine rg_step 22 (ob_skip (by rfl)) rfl (by rfl) ?_
        refine rg_step 23 (ob_skip (by rfl)) rfl (by rfl) ?_
        refine rg_step 24 (ob_skip (by rfl)) rfl (by rfl) ?_
        refine rg_step 25 (ob_skip (by rfl)) rfl (by rfl) ?_
        refine rg_step 26 (ob_skip (by rfl)) rfl (by rfl) ?_
        refine rg_step 27 (ob_skip (by rfl)) rfl (by rfl) ?_
        refine rg_step 28 (ob_skip (by rfl)) rfl (by rfl) ?_
        refine rg_step 29 (ob_skip (by rfl)) rfl (by rfl) ?_
        refine rg_step 30 (ob_skip (by rfl)) rfl (by rfl) ?_
        refine rg_step 31 (ob_skip (by rfl)) rfl (by rfl) ?_
        refine rg_step 32 (ob_skip (by rfl)) rfl (by rfl) ?_
        refine rg_step 33 (ob_skip (by rfl)) rfl (by rfl) ?_
        refine rg_step 34 (ob_skip (by rfl)) rfl (by rfl) ?_
        refine rg_step 35 (ob_skip (by rfl)) rfl (by rfl) ?_
        refine rg_step 36 (ob_pick false (by rfl) (by rfl) (by rfl)) rfl (by rfl) ?_
        refine rg_end ?_
        intro w3 he3
        simp only [asg, List.set_cons_zero, List.set_cons_succ, List.map_cons, List.map_nil, opens]
        have R3 := hid (HROW.out.ext he3)
        have B3 := hid (below_ext HB.out HROW.out he3)
        clear he3
        have hcc : c0 = 2 * r + 1 ∨ c0 = 2 * r + 2 := by omega
        have hch : c0 < hi := by omega
        have hbig : ∀ d, (d = 2 * r + 1 ∨ d = 2 * r + 2) → d < hi → g (first + d) ≤ g (first + c0) := fun d k1 k2 => by
          rw [show d = c0 by omega]; exact Int.le_refl _
        clear d1 hc0
        go_wp2_with fail
        refine wp_draw (by kernel_rfl) (by kernel_rfl) ?_
        refine rg_step 39 (ob_move (by rfl) (by rfl)) rfl (by rfl) ?_
        refine rg_step 40 (ob_move (by rfl) (by rfl)) rfl (by rfl) ?_
        refine rg_step 41 (ob_move (by rfl) (by rfl)) rfl (by rfl) ?_
        refine rg_step 42 (ob_iarith ((first + r : Nat) : Int) ((first + r : Nat) : Int) (by rfl) (by rfl) (by rfl) (congrArg some (by omega)) (IntWalk.i64_in _ (by omega))) rfl (by rfl) ?_
        refine rg_step 43 (ob_index 1 (first + r) (by rfl) (by rfl) (by rfl) Try.underlying81 (by kernel_rfl) (Int.natCast_nonneg _) (Int.ofNat_lt.2 (by omega)) (by rw [Int.toNat_natCast]; omega)) rfl (by rfl) ?_
        refine rg_step 44 (ob_load (v := .int .u64 (g (first + r))) (by rfl) (by rfl) (by kernel_rfl) (fun w' he => ext_cell he (R3.out.cell (i := first + r) (by omega)))) rfl (by rfl) ?_
        refine rg_step 45 (ob_move (by rfl) (by rfl)) rfl (by rfl) ?_
        refine rg_step 46 (ob_move (by rfl) (by rfl)) rfl (by rfl) ?_
        refine rg_step 47 (ob_move (by rfl) (by rfl)) rfl (by rfl) ?_
        refine rg_step 48 (ob_iarith ((first + c0 : Nat) : Int) ((first + c0 : Nat) : Int) (by rfl) (by rfl) (by rfl) (congrArg some (by omega)) (IntWalk.i64_in _ (by omega))) rfl (by rfl) ?_
        refine rg_step 49 (ob_index 1 (first + c0) (by rfl) (by rfl) (by rfl) Try.underlying81 (by kernel_rfl) (Int.natCast_nonneg _) (Int.ofNat_lt.2 (by omega)) (by rw [Int.toNat_natCast]; omega)) rfl (by rfl) ?_
        refine rg_step 50 (ob_load (v := .int .u64 (g (first + c0))) (by rfl) (by rfl) (by kernel_rfl) (fun w' he => ext_cell he (R3.out.cell (i := first + c0) (by omega)))) rfl (by rfl) ?_
        refine rg_step 51 (ob_call (.ex (.bool (decide (g (first + r) < g (first + c0))))) (by rfl) cf_less (fun w' he => gives_ex ((less_in (g (first + r)) (g (first + c0)) w').mono fun e w2 h => ⟨h.1, by rw [h.2]; exact Ext.rfl _⟩))) rfl (by rfl) ?_
        refine rg_step 52 (ob_not (decide (g (first + r) < g (first + c0))) (by rfl) (by rfl)) rfl (by rfl) ?_
        refine rg_end ?_
        intro w5 he5
        simp only [asg, List.set_cons_zero, List.set_cons_succ, List.map_cons, List.map_nil, opens]
        have R5 := hid (R3.out.ext he5)
        have B5 := hid (below_ext B3.out R3.out he5)
        clear he5
        by_cases hlt : g (first + r) < g (first + c0)
        · have dd : decide (g (first + r) < g (first + c0)) = true := decide_eq_true hlt
          rw [dd, show (!true) = false from rfl]
          have ci := R5.out.cell (i := first + r) (by omega)
          have cj := R5.out.cell (i := first + c0) (by omega)
          have ff := R5.out.frozen
          have hin : (first : Int) + (r : Int) < (n : Int) := by omega
          have hjn : (first : Int) + ((c0 : Nat) : Int) < (n : Int) := by omega
          have hi0 : (0 : Int) ≤ (first : Int) + (r : Int) := by omega
          have hj0 : (0 : Int) ≤ (first : Int) + ((c0 : Nat) : Int) := by omega
          have hti : ((first : Int) + (r : Int)).toNat = first + r := by omega
          have htj : ((first : Int) + ((c0 : Nat) : Int)).toNat = first + c0 := by omega
          have HSW := hid (R5.out.swapD (i := first + r) (j := first + c0) (by omega) (by omega))
          have HSB := hid (swap_below B5.out (first + r) (first + c0) (g (first + c0)) (g (first + r)))
          have HRS := hid (HRE.out.step (first + r) (first + c0) (by omega) (by omega) (by omega) (by omega))
          have HES := hid (HHE.out.step hr1 hcc hch hbig hlt)
          clear hlt dd hbig
          go_wp2_with fail
          go_region
          generalize (((w5.setCell ⟨b, first + r, none⟩ (.int .u64 (g (first + c0)))).setCell ⟨b, first + c0, none⟩ (.int .u64 (g (first + r)))).drew) = wq at *
          clear ci cj ff HROW HB HRE R5 B5 HHE
          go_wp2_with fail
          go_roundw
          case rel => exact ⟨c0, _, by go_num, by omega, by omega, HES.out, HRS.out, HSW.out, HSB.out⟩
          case measure => simp [intOf]; omega
        · have dd : decide (g (first + r) < g (first + c0)) = false := decide_eq_false hlt
          rw [dd, show (!false) = true from rfl]
          have HD := hid (HHE.out.done (fun d k1 k2 => Int.le_trans (hbig d k1 k2) (Int.not_lt.1 hlt)))
          clear hlt dd hbig
          go_wp2_with fail
          first | go_end0 | refine bodyPost_ret (results_none rfl _ _ _) rfl ?_
          exact ⟨rfl, g, HRE.out, R5.out, B5.out, HD.out⟩
end Go.Proofs.Ytoonhcmeklmnlaa
