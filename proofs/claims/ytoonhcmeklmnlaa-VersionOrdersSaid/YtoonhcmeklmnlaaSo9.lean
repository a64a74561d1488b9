/- Sorting numbers: a few steps of insertion. -/
import Derived.Test.YtoonhcmeklmnlaaSo8
set_option linter.unusedSimpArgs false
set_option linter.unusedVariables false
set_option linter.unnecessarySimpa false
namespace Go.Proofs.Ytoonhcmeklmnlaa
open Go.RowKit Go.Rg Go.St

/-- what stands just ahead is above none -/
def Pred (lo hi : Nat) (f : Nat → Int) : Prop := 0 < lo → ∀ k, lo ≤ k → k < hi → f (lo - 1) ≤ f k
theorem Pred.re {lo hi : Nat} {f g : Nat → Int} (hp : Pred lo hi f) (h : Re lo hi f g) : Pred lo hi g := fun h0 => by
  rw [h.out (.inl (by omega))]
  exact h.all (hp h0)
structure PIn (b cap n lo hi i : Nat) (f g : Nat → Int) (w wr : World) : Prop where
  i1 : lo < i
  i2 : i ≤ hi
  s : Srt g lo i
  re : Re lo hi f g
  row : RowU b cap n g wr
  bel : Below b w wr
theorem PIn.right {b cap n lo hi i j : Nat} {f g : Nat → Int} {w wr wq : World} (h : PIn b cap n lo hi i f g w wr) (hj : i < j) (hh : j < hi) (hr : RowU b cap n (swapF g j (j - 1)) wq) (hb : Below b w wq) : PIn b cap n lo hi i f (swapF g j (j - 1)) w wq := by
  have := h.i1
  refine ⟨h.i1, h.i2, fun k k1 k2 => ?_, h.re.step j (j - 1) (by omega) (by omega) (by omega) (by omega), hr, hb⟩
  have e : ∀ k, k < i → swapF g j (j - 1) k = g k := fun k hk => by unfold swapF; rw [if_neg (by omega), if_neg (by omega)]
  rw [e k (by omega), e (k + 1) k2]
  exact h.s k k1 k2
/-- behind the swap of i and i - 1 -/
theorem srt_swap {g : Nat → Int} {lo i : Nat} (h : Srt g lo i) : Srt (swapF g i (i - 1)) lo (i - 1) := fun k k1 k2 => by
  have e : ∀ k, k < i - 1 → swapF g i (i - 1) k = g k := fun k hk => by unfold swapF; rw [if_neg (by omega), if_neg (by omega)]
  rw [e k (by omega), e (k + 1) k2]
  exact h k k1 (by omega)
def PartI (b cap n lo hi : Nat) (f : Nat → Int) (w : World) (e : Ending) (w' : World) : Prop :=
  ∃ (t : Bool) (g : Nat → Int), e = .returned (.bool t) ∧ Re lo hi f g ∧ RowU b cap n g w' ∧ Below b w w' ∧ (t = true → Srt g lo hi)
set_option maxRecDepth 100000 in
set_option maxHeartbeats 8000000 in
theorem pins_in (b cap n : Nat) (f : Nat → Int) (lo hi : Nat) (w : World) (h : RowU b cap n f w) (h1 : lo < hi) (h2 : hi ≤ n) (h3 : n ≤ 2305843009213693952) (hp : Pred lo hi f) :
    Calls Try.prog 121 #[.slice (some ⟨b, 0, none⟩) n cap, .int .i64 lo, .int .i64 hi] w (PartI b cap n lo hi f w) := by
  have H := hid h
  have HPR := hid hp
  clear h hp
  go_enter Try.func121, Try.ntmps121
  go_wp2_with fail
  go_loopw [7, 8] (fun ti tj wr => ∃ (i k : Nat) (g : Nat → Int), ti = .int .i64 i ∧ tj = .int .i64 k ∧ k ≤ 5 ∧ PIn b cap n lo hi i f g w wr) (fun _ tj _ => 5 - (intOf tj).toNat)
  case atStart => exact ⟨lo + 1, 0, f, by go_num, rfl, by omega, ⟨by omega, by omega, fun k k1 k2 => by omega, .refl, H.out, Below.refl _ _⟩⟩
  case round =>
    obtain ⟨i0, k, g, rfl, rfl, hk, hp⟩ := hrel
    have HP0 := hid hp
    clear hp
    by_cases hk5 : k < 5
    · have dk : decide ((k : Int) < 5) = true := decide_eq_true (by omega)
      go_wp2_with fail
      go_loopw [7] (fun ti wz => ∃ i : Nat, ti = .int .i64 i ∧ PIn b cap n lo hi i f g w wz) (fun ti _ => hi - (intOf ti).toNat)
      case atStart => exact ⟨i0, rfl, HP0.out⟩
      case round =>
        clear HP0
        obtain ⟨i, rfl, hp⟩ := hrel
        have HP := hid hp
        have HROW := hid hp.row
        have HB := hid hp.bel
        have i1 := hp.i1
        have i2 := hp.i2
        clear hp
        by_cases hih : i < hi
        · have dj : icmp .lss (i : Int) (hi : Int) = some true := by unfold icmp; simp; omega
          have hb1 : i < n := by omega
          go_wp2_with fail
          refine wp_draw (by kernel_rfl) (by kernel_rfl) ?_
          refine rg_step 17 (ob_move (by rfl) (by rfl)) rfl (by rfl) ?_
          refine rg_step 18 (ob_move (by rfl) (by rfl)) rfl (by rfl) ?_
          refine rg_step 19 (ob_icmp true (by rfl) (by rfl) (by rfl) (dj)) rfl (by rfl) ?_
          refine rg_step 20 (ob_move (by rfl) (by rfl)) rfl (by rfl) ?_
          refine rg_step 21 (ob_move (by rfl) (by rfl)) rfl (by rfl) ?_
          refine rg_step 22 (ob_move (by rfl) (by rfl)) rfl (by rfl) ?_
          refine rg_step 23 (ob_index 1 (i) (by rfl) (by rfl) (by rfl) Try.underlying81 (by kernel_rfl) (Int.natCast_nonneg _) (Int.ofNat_lt.2 (by omega)) (by rw [Int.toNat_natCast]; omega)) rfl (by rfl) ?_
          refine rg_step 24 (ob_load (v := .int .u64 (g (i))) (by rfl) (by rfl) (by kernel_rfl) (fun w' he => ext_cell he (HROW.out.cell (i := i) (by omega)))) rfl (by rfl) ?_
          refine rg_step 25 (ob_move (by rfl) (by rfl)) rfl (by rfl) ?_
          refine rg_step 26 (ob_move (by rfl) (by rfl)) rfl (by rfl) ?_
          refine rg_step 27 (ob_iarith ((i - 1 : Nat) : Int) ((i - 1 : Nat) : Int) (by rfl) (by rfl) (by rfl) (congrArg some (by omega)) (IntWalk.i64_in _ (by omega))) rfl (by rfl) ?_
          refine rg_step 28 (ob_index 1 (i - 1) (by rfl) (by rfl) (by rfl) Try.underlying81 (by kernel_rfl) (Int.natCast_nonneg _) (Int.ofNat_lt.2 (by omega)) (by rw [Int.toNat_natCast]; omega)) rfl (by rfl) ?_
          refine rg_step 29 (ob_load (v := .int .u64 (g (i - 1))) (by rfl) (by rfl) (by kernel_rfl) (fun w' he => ext_cell he (HROW.out.cell (i := i - 1) (by omega)))) rfl (by rfl) ?_
          refine rg_step 30 (ob_call (.ex (.bool (decide (g i < g (i - 1))))) (by rfl) cf_less (fun w' he => gives_ex ((less_in (g i) (g (i - 1)) w').mono fun e w2 h => ⟨h.1, by rw [h.2]; exact Ext.rfl _⟩))) rfl (by rfl) ?_
          refine rg_step 31 (ob_not (decide (g i < g (i - 1))) (by rfl) (by rfl)) rfl (by rfl) ?_
          refine rg_step 32 (ob_pick true (by rfl) (by rfl) (by rfl)) rfl (by rfl) ?_
          refine rg_end ?_
          intro w3 he3
          simp only [asg, List.set_cons_zero, List.set_cons_succ, List.map_cons, List.map_nil, opens]
          have R3 := hid (HROW.out.ext he3)
          have B3 := hid (below_ext HB.out HROW.out he3)
          clear he3
          by_cases hlt : g i < g (i - 1)
          · have dd : decide (g i < g (i - 1)) = true := decide_eq_true hlt
            rw [dd, show (!true) = false from rfl]
            have de : decide ((i : Int) = (hi : Int)) = false := decide_eq_false (by omega)
            have de' : ¬ i = hi := by omega
            clear hlt dd dj
            by_cases h50 : hi - lo < 50
            · have d50 : decide ((hi : Int) - (lo : Int) < 50) = true := decide_eq_true (by omega)
              go_wp2_with fail
              go_ret
              exact ⟨false, g, rfl, HP.out.re, R3.out, B3.out, fun h => by cases h⟩
            · have d50 : decide ((hi : Int) - (lo : Int) < 50) = false := decide_eq_false (by omega)
              have ci := R3.out.cell (i := i) (by omega)
              have cj := R3.out.cell (i := i - 1) (by omega)
              have ff := R3.out.frozen
              have hin : ((i : Nat) : Int) < (n : Int) := Int.ofNat_lt.2 (by omega)
              have hjn : ((i - 1 : Nat) : Int) < (n : Int) := Int.ofNat_lt.2 (by omega)
              have hin' : i < n := by omega
              have hjn' : i - 1 < n := by omega
              have hne : i ≠ i - 1 := by omega
              have HSW := hid (R3.out.swapD (i := i) (j := i - 1) (by omega) (by omega))
              have HSB := hid (swap_below B3.out (i) (i - 1) (g (i - 1)) (g (i)))
              rw [show ((i - 1 : Nat) : Int) = (i : Int) - 1 from by omega] at hjn
              have HS0 := hid (srt_swap HP.out.s)
              have HR0 := hid (HP.out.re.step i (i - 1) (by omega) (by omega) (by omega) (by omega))
              go_wp2_with fail
              go_region
              generalize (((w3.setCell ⟨b, i, none⟩ (.int .u64 (g (i - 1)))).setCell ⟨b, i - 1, none⟩ (.int .u64 (g i))).drew) = wq at *
              clear ci cj ff de de' d50 HP HROW HB R3 B3
              generalize swapF g i (i - 1) = g1 at *
              by_cases hl : 2 ≤ i - lo
              · have dl2 : decide (2 ≤ (i : Int) - (lo : Int)) = true := decide_eq_true (by omega)
                have HQ := hid (And.intro HR0.out (And.intro HSW.out (And.intro HSB.out (InsI.start HS0.out))))
                clear HS0 HR0 HSW HSB
                go_wp2_with fail
                go_loopw [9] (fun tj wz => ∃ (j : Nat) (g : Nat → Int), tj = .int .i64 j ∧ lo ≤ j ∧ j ≤ i - 1 ∧ Re lo hi f g ∧ RowU b cap n g wz ∧ Below b w wz ∧ InsI g lo (i - 1) j) (fun tj _ => (intOf tj).toNat)
                case atStart => exact ⟨i - 1, g1, by go_num, by omega, Nat.le_refl _, HQ.out.1, HQ.out.2.1, HQ.out.2.2.1, HQ.out.2.2.2⟩
                case round =>
                  clear HQ
                  obtain ⟨j, g, rfl, hj1, hj2, hre, hrow, hb, hin⟩ := hrel
                  have HRE := hid hre
                  have HROW := hid hrow
                  have HB := hid hb
                  have HIN := hid hin
                  clear hre hrow hb hin
                  by_cases hj0 : 1 ≤ j
                  · have dl : decide (1 ≤ (j : Int)) = true := decide_eq_true (by omega)
                    have hb2 : j < n := by omega
                    go_wp2_with fail
                    refine wp_draw (by kernel_rfl) (by kernel_rfl) ?_
                    refine rg_step 68 (ob_move (by rfl) (by rfl)) rfl (by rfl) ?_
                    refine rg_step 69 (ob_move (by rfl) (by rfl)) rfl (by rfl) ?_
                    refine rg_step 70 (ob_index 1 (j) (by rfl) (by rfl) (by rfl) Try.underlying81 (by kernel_rfl) (Int.natCast_nonneg _) (Int.ofNat_lt.2 (by omega)) (by rw [Int.toNat_natCast]; omega)) rfl (by rfl) ?_
                    refine rg_step 71 (ob_load (v := .int .u64 (g (j))) (by rfl) (by rfl) (by kernel_rfl) (fun w' he => ext_cell he (HROW.out.cell (i := j) (by omega)))) rfl (by rfl) ?_
                    refine rg_step 72 (ob_move (by rfl) (by rfl)) rfl (by rfl) ?_
                    refine rg_step 73 (ob_move (by rfl) (by rfl)) rfl (by rfl) ?_
                    refine rg_step 74 (ob_iarith ((j - 1 : Nat) : Int) ((j - 1 : Nat) : Int) (by rfl) (by rfl) (by rfl) (congrArg some (by omega)) (IntWalk.i64_in _ (by omega))) rfl (by rfl) ?_
                    refine rg_step 75 (ob_index 1 (j - 1) (by rfl) (by rfl) (by rfl) Try.underlying81 (by kernel_rfl) (Int.natCast_nonneg _) (Int.ofNat_lt.2 (by omega)) (by rw [Int.toNat_natCast]; omega)) rfl (by rfl) ?_
                    refine rg_step 76 (ob_load (v := .int .u64 (g (j - 1))) (by rfl) (by rfl) (by kernel_rfl) (fun w' he => ext_cell he (HROW.out.cell (i := j - 1) (by omega)))) rfl (by rfl) ?_
                    refine rg_step 77 (ob_call (.ex (.bool (decide (g j < g (j - 1))))) (by rfl) cf_less (fun w' he => gives_ex ((less_in (g j) (g (j - 1)) w').mono fun e w2 h => ⟨h.1, by rw [h.2]; exact Ext.rfl _⟩))) rfl (by rfl) ?_
                    refine rg_step 78 (ob_not (decide (g j < g (j - 1))) (by rfl) (by rfl)) rfl (by rfl) ?_
                    refine rg_end ?_
                    intro w3 he3
                    simp only [asg, List.set_cons_zero, List.set_cons_succ, List.map_cons, List.map_nil, opens]
                    have R3 := hid (HROW.out.ext he3)
                    have B3 := hid (below_ext HB.out HROW.out he3)
                    clear he3
                    by_cases hlt : g j < g (j - 1)
                    · have dd : decide (g j < g (j - 1)) = true := decide_eq_true hlt
                      rw [dd, show (!true) = false from rfl]
                      have hlj : lo < j := by
                        rcases Nat.lt_or_ge lo j with h | h
                        · exact h
                        · have e : j = lo := by omega
                          subst e
                          have := (HPR.out.re HRE.out) (by omega) j (Nat.le_refl _) (by omega)
                          omega
                      have ci := R3.out.cell (i := j) (by omega)
                      have cj := R3.out.cell (i := j - 1) (by omega)
                      have ff := R3.out.frozen
                      have hin : ((j : Nat) : Int) < (n : Int) := Int.ofNat_lt.2 (by omega)
                      have hjn : ((j - 1 : Nat) : Int) < (n : Int) := Int.ofNat_lt.2 (by omega)
                      have hin' : j < n := by omega
                      have hjn' : j - 1 < n := by omega
                      have hne : j ≠ j - 1 := by omega
                      have HSW := hid (R3.out.swapD (i := j) (j := j - 1) (by omega) (by omega))
                      have HSB := hid (swap_below B3.out (j) (j - 1) (g (j - 1)) (g (j)))
                      rw [show ((j - 1 : Nat) : Int) = (j : Int) - 1 from by omega] at hjn
                      have HRS := hid (HRE.out.step j (j - 1) (by omega) (by omega) (by omega) (by omega))
                      have HIS := hid (HIN.out.step hlj hj2 hlt)
                      clear hlt dd HIN HRE HROW HB R3 B3
                      go_wp2_with fail
                      go_region
                      generalize (((w3.setCell ⟨b, j, none⟩ (.int .u64 (g (j - 1)))).setCell ⟨b, j - 1, none⟩ (.int .u64 (g j))).drew) = wq at *
                      clear ci cj ff
                      go_wp2_with fail
                      go_roundw
                      case rel => exact ⟨j - 1, _, by go_num, by omega, by omega, HRS.out, HSW.out, HSB.out, HIS.out⟩
                      case measure => first | (simp [intOf]; done) | (simp [intOf]; omega)
                    · have dd : decide (g j < g (j - 1)) = false := decide_eq_false hlt
                      rw [dd, show (!false) = true from rfl]
                      have HD := HIN.out.done (fun _ => hlt)
                      rw [show i - 1 + 1 = i by omega] at HD
                      have PL := hid (show PIn b cap n lo hi i f g w w3 from ⟨i1, i2, HD, HRE.out, R3.out, B3.out⟩)
                      clear hlt dd HD HIN HRE HROW HB R3 B3
                      by_cases hr : 2 ≤ hi - i
                      · have dr : decide (2 ≤ (hi : Int) - (i : Int)) = true := decide_eq_true (by omega)
                        go_wp2_with fail
                        go_loopw [10] (fun tj wz => ∃ (j : Nat) (g : Nat → Int), tj = .int .i64 j ∧ i < j ∧ j ≤ hi ∧ PIn b cap n lo hi i f g w wz) (fun tj _ => hi - (intOf tj).toNat)
                        case atStart => exact ⟨i + 1, _, by go_num, by omega, by omega, PL.out⟩
                        case round =>
                          clear PL
                          obtain ⟨j, g, rfl, hj1, hj2, hp⟩ := hrel
                          have HP := hid hp
                          clear hp
                          by_cases hjh : j < hi
                          · have dl : decide ((j : Int) < (hi : Int)) = true := decide_eq_true (by omega)
                            have HROW := hid HP.out.row
                            have HB := hid HP.out.bel
                            have hb1 : i < n ∧ j < n := by omega
                            go_wp2_with fail
                            refine wp_draw (by kernel_rfl) (by kernel_rfl) ?_
                            refine rg_step 106 (ob_move (by rfl) (by rfl)) rfl (by rfl) ?_
                            refine rg_step 107 (ob_move (by rfl) (by rfl)) rfl (by rfl) ?_
                            refine rg_step 108 (ob_index 1 (j) (by rfl) (by rfl) (by rfl) Try.underlying81 (by kernel_rfl) (Int.natCast_nonneg _) (Int.ofNat_lt.2 (by omega)) (by rw [Int.toNat_natCast]; omega)) rfl (by rfl) ?_
                            refine rg_step 109 (ob_load (v := .int .u64 (g (j))) (by rfl) (by rfl) (by kernel_rfl) (fun w' he => ext_cell he (HROW.out.cell (i := j) (by omega)))) rfl (by rfl) ?_
                            refine rg_step 110 (ob_move (by rfl) (by rfl)) rfl (by rfl) ?_
                            refine rg_step 111 (ob_move (by rfl) (by rfl)) rfl (by rfl) ?_
                            refine rg_step 112 (ob_iarith ((j - 1 : Nat) : Int) ((j - 1 : Nat) : Int) (by rfl) (by rfl) (by rfl) (congrArg some (by omega)) (IntWalk.i64_in _ (by omega))) rfl (by rfl) ?_
                            refine rg_step 113 (ob_index 1 (j - 1) (by rfl) (by rfl) (by rfl) Try.underlying81 (by kernel_rfl) (Int.natCast_nonneg _) (Int.ofNat_lt.2 (by omega)) (by rw [Int.toNat_natCast]; omega)) rfl (by rfl) ?_
                            refine rg_step 114 (ob_load (v := .int .u64 (g (j - 1))) (by rfl) (by rfl) (by kernel_rfl) (fun w' he => ext_cell he (HROW.out.cell (i := j - 1) (by omega)))) rfl (by rfl) ?_
                            refine rg_step 115 (ob_call (.ex (.bool (decide (g j < g (j - 1))))) (by rfl) cf_less (fun w' he => gives_ex ((less_in (g j) (g (j - 1)) w').mono fun e w2 h => ⟨h.1, by rw [h.2]; exact Ext.rfl _⟩))) rfl (by rfl) ?_
                            refine rg_step 116 (ob_not (decide (g j < g (j - 1))) (by rfl) (by rfl)) rfl (by rfl) ?_
                            refine rg_end ?_
                            intro w3 he3
                            simp only [asg, List.set_cons_zero, List.set_cons_succ, List.map_cons, List.map_nil, opens]
                            have R3 := hid (HROW.out.ext he3)
                            have B3 := hid (below_ext HB.out HROW.out he3)
                            clear he3
                            by_cases hlt : g j < g (j - 1)
                            · have dd : decide (g j < g (j - 1)) = true := decide_eq_true hlt
                              rw [dd, show (!true) = false from rfl]
                              have ci := R3.out.cell (i := j) (by omega)
                              have cj := R3.out.cell (i := j - 1) (by omega)
                              have ff := R3.out.frozen
                              have hin : ((j : Nat) : Int) < (n : Int) := Int.ofNat_lt.2 (by omega)
                              have hjn : ((j - 1 : Nat) : Int) < (n : Int) := Int.ofNat_lt.2 (by omega)
                              have hin' : j < n := by omega
                              have hjn' : j - 1 < n := by omega
                              have hne : j ≠ j - 1 := by omega
                              have HSW := hid (R3.out.swapD (i := j) (j := j - 1) (by omega) (by omega))
                              have HSB := hid (swap_below B3.out (j) (j - 1) (g (j - 1)) (g (j)))
                              rw [show ((j - 1 : Nat) : Int) = (j : Int) - 1 from by omega] at hjn
                              have PR := hid (HP.out.right hj1 hjh HSW.out HSB.out)
                              clear hlt dd HP HROW HB R3 B3
                              go_wp2_with fail
                              go_region
                              generalize (((w3.setCell ⟨b, j, none⟩ (.int .u64 (g (j - 1)))).setCell ⟨b, j - 1, none⟩ (.int .u64 (g j))).drew) = wq at *
                              clear ci cj ff
                              go_wp2_with fail
                              go_roundw
                              case rel => exact ⟨j + 1, _, by go_num, by omega, by omega, PR.out⟩
                              case measure => first | (simp [intOf]; done) | (simp [intOf]; omega)
                            · have dd : decide (g j < g (j - 1)) = false := decide_eq_false hlt
                              rw [dd, show (!false) = true from rfl]
                              have PE := hid (show PIn b cap n lo hi i f g w w3 from ⟨HP.out.i1, HP.out.i2, HP.out.s, HP.out.re, R3.out, B3.out⟩)
                              clear hlt dd
                              go_wp2_with fail
                              go_roundw
                              case rel => exact ⟨i, k + 1, _, rfl, by go_num, by omega, PE.out⟩
                              case measure => first | (simp [intOf]; done) | (simp [intOf]; omega)
                          · have dl : decide ((j : Int) < (hi : Int)) = false := decide_eq_false (by omega)
                            have PE := hid HP.out
                            go_wp2_with fail
                            go_roundw
                            case rel => exact ⟨i, k + 1, _, rfl, by go_num, by omega, PE.out⟩
                            case measure => first | (simp [intOf]; done) | (simp [intOf]; omega)
                      · have dr : decide (2 ≤ (hi : Int) - (i : Int)) = false := decide_eq_false (by omega)
                        have PE := hid PL.out
                        go_wp2_with fail
                        go_roundw
                        case rel => exact ⟨i, k + 1, _, rfl, by go_num, by omega, PE.out⟩
                        case measure => first | (simp [intOf]; done) | (simp [intOf]; omega)
                  · have dl : decide (1 ≤ (j : Int)) = false := decide_eq_false (by omega)
                    have HD := HIN.out.done (fun h => absurd h (by omega))
                    rw [show i - 1 + 1 = i by omega] at HD
                    have PL := hid (show PIn b cap n lo hi i f g w wr from ⟨i1, i2, HD, HRE.out, HROW.out, HB.out⟩)
                    clear HD HIN HRE HROW HB
                    by_cases hr : 2 ≤ hi - i
                    · have dr : decide (2 ≤ (hi : Int) - (i : Int)) = true := decide_eq_true (by omega)
                      go_wp2_with fail
                      go_loopw [10] (fun tj wz => ∃ (j : Nat) (g : Nat → Int), tj = .int .i64 j ∧ i < j ∧ j ≤ hi ∧ PIn b cap n lo hi i f g w wz) (fun tj _ => hi - (intOf tj).toNat)
                      case atStart => exact ⟨i + 1, _, by go_num, by omega, by omega, PL.out⟩
                      case round =>
                        clear PL
                        obtain ⟨j, g, rfl, hj1, hj2, hp⟩ := hrel
                        have HP := hid hp
                        clear hp
                        by_cases hjh : j < hi
                        · have dl : decide ((j : Int) < (hi : Int)) = true := decide_eq_true (by omega)
                          have HROW := hid HP.out.row
                          have HB := hid HP.out.bel
                          have hb1 : i < n ∧ j < n := by omega
                          go_wp2_with fail
                          refine wp_draw (by kernel_rfl) (by kernel_rfl) ?_
                          refine rg_step 106 (ob_move (by rfl) (by rfl)) rfl (by rfl) ?_
                          refine rg_step 107 (ob_move (by rfl) (by rfl)) rfl (by rfl) ?_
                          refine rg_step 108 (ob_index 1 (j) (by rfl) (by rfl) (by rfl) Try.underlying81 (by kernel_rfl) (Int.natCast_nonneg _) (Int.ofNat_lt.2 (by omega)) (by rw [Int.toNat_natCast]; omega)) rfl (by rfl) ?_
                          refine rg_step 109 (ob_load (v := .int .u64 (g (j))) (by rfl) (by rfl) (by kernel_rfl) (fun w' he => ext_cell he (HROW.out.cell (i := j) (by omega)))) rfl (by rfl) ?_
                          refine rg_step 110 (ob_move (by rfl) (by rfl)) rfl (by rfl) ?_
                          refine rg_step 111 (ob_move (by rfl) (by rfl)) rfl (by rfl) ?_
                          refine rg_step 112 (ob_iarith ((j - 1 : Nat) : Int) ((j - 1 : Nat) : Int) (by rfl) (by rfl) (by rfl) (congrArg some (by omega)) (IntWalk.i64_in _ (by omega))) rfl (by rfl) ?_
                          refine rg_step 113 (ob_index 1 (j - 1) (by rfl) (by rfl) (by rfl) Try.underlying81 (by kernel_rfl) (Int.natCast_nonneg _) (Int.ofNat_lt.2 (by omega)) (by rw [Int.toNat_natCast]; omega)) rfl (by rfl) ?_
                          refine rg_step 114 (ob_load (v := .int .u64 (g (j - 1))) (by rfl) (by rfl) (by kernel_rfl) (fun w' he => ext_cell he (HROW.out.cell (i := j - 1) (by omega)))) rfl (by rfl) ?_
                          refine rg_step 115 (ob_call (.ex (.bool (decide (g j < g (j - 1))))) (by rfl) cf_less (fun w' he => gives_ex ((less_in (g j) (g (j - 1)) w').mono fun e w2 h => ⟨h.1, by rw [h.2]; exact Ext.rfl _⟩))) rfl (by rfl) ?_
                          refine rg_step 116 (ob_not (decide (g j < g (j - 1))) (by rfl) (by rfl)) rfl (by rfl) ?_
                          refine rg_end ?_
                          intro w3 he3
                          simp only [asg, List.set_cons_zero, List.set_cons_succ, List.map_cons, List.map_nil, opens]
                          have R3 := hid (HROW.out.ext he3)
                          have B3 := hid (below_ext HB.out HROW.out he3)
                          clear he3
                          by_cases hlt : g j < g (j - 1)
                          · have dd : decide (g j < g (j - 1)) = true := decide_eq_true hlt
                            rw [dd, show (!true) = false from rfl]
                            have ci := R3.out.cell (i := j) (by omega)
                            have cj := R3.out.cell (i := j - 1) (by omega)
                            have ff := R3.out.frozen
                            have hin : ((j : Nat) : Int) < (n : Int) := Int.ofNat_lt.2 (by omega)
                            have hjn : ((j - 1 : Nat) : Int) < (n : Int) := Int.ofNat_lt.2 (by omega)
                            have hin' : j < n := by omega
                            have hjn' : j - 1 < n := by omega
                            have hne : j ≠ j - 1 := by omega
                            have HSW := hid (R3.out.swapD (i := j) (j := j - 1) (by omega) (by omega))
                            have HSB := hid (swap_below B3.out (j) (j - 1) (g (j - 1)) (g (j)))
                            rw [show ((j - 1 : Nat) : Int) = (j : Int) - 1 from by omega] at hjn
                            have PR := hid (HP.out.right hj1 hjh HSW.out HSB.out)
                            clear hlt dd HP HROW HB R3 B3
                            go_wp2_with fail
                            go_region
                            generalize (((w3.setCell ⟨b, j, none⟩ (.int .u64 (g (j - 1)))).setCell ⟨b, j - 1, none⟩ (.int .u64 (g j))).drew) = wq at *
                            clear ci cj ff
                            go_wp2_with fail
                            go_roundw
                            case rel => exact ⟨j + 1, _, by go_num, by omega, by omega, PR.out⟩
                            case measure => first | (simp [intOf]; done) | (simp [intOf]; omega)
                          · have dd : decide (g j < g (j - 1)) = false := decide_eq_false hlt
                            rw [dd, show (!false) = true from rfl]
                            have PE := hid (show PIn b cap n lo hi i f g w w3 from ⟨HP.out.i1, HP.out.i2, HP.out.s, HP.out.re, R3.out, B3.out⟩)
                            clear hlt dd
                            go_wp2_with fail
                            go_roundw
                            case rel => exact ⟨i, k + 1, _, rfl, by go_num, by omega, PE.out⟩
                            case measure => first | (simp [intOf]; done) | (simp [intOf]; omega)
                        · have dl : decide ((j : Int) < (hi : Int)) = false := decide_eq_false (by omega)
                          have PE := hid HP.out
                          go_wp2_with fail
                          go_roundw
                          case rel => exact ⟨i, k + 1, _, rfl, by go_num, by omega, PE.out⟩
                          case measure => first | (simp [intOf]; done) | (simp [intOf]; omega)
                    · have dr : decide (2 ≤ (hi : Int) - (i : Int)) = false := decide_eq_false (by omega)
                      have PE := hid PL.out
                      go_wp2_with fail
                      go_roundw
                      case rel => exact ⟨i, k + 1, _, rfl, by go_num, by omega, PE.out⟩
                      case measure => first | (simp [intOf]; done) | (simp [intOf]; omega)
              · have dl2 : decide (2 ≤ (i : Int) - (lo : Int)) = false := decide_eq_false (by omega)
                have PL := hid (show PIn b cap n lo hi i f g1 w wq from ⟨i1, i2, fun k k1 k2 => by omega, HR0.out, HSW.out, HSB.out⟩)
                clear HS0 HR0 HSW HSB
                by_cases hr : 2 ≤ hi - i
                · have dr : decide (2 ≤ (hi : Int) - (i : Int)) = true := decide_eq_true (by omega)
                  go_wp2_with fail
                  go_loopw [10] (fun tj wz => ∃ (j : Nat) (g : Nat → Int), tj = .int .i64 j ∧ i < j ∧ j ≤ hi ∧ PIn b cap n lo hi i f g w wz) (fun tj _ => hi - (intOf tj).toNat)
                  case atStart => exact ⟨i + 1, _, by go_num, by omega, by omega, PL.out⟩
                  case round =>
                    clear PL
                    obtain ⟨j, g, rfl, hj1, hj2, hp⟩ := hrel
                    have HP := hid hp
                    clear hp
                    by_cases hjh : j < hi
                    · have dl : decide ((j : Int) < (hi : Int)) = true := decide_eq_true (by omega)
                      have HROW := hid HP.out.row
                      have HB := hid HP.out.bel
                      have hb1 : i < n ∧ j < n := by omega
                      go_wp2_with fail
                      refine wp_draw (by kernel_rfl) (by kernel_rfl) ?_
                      refine rg_step 106 (ob_move (by rfl) (by rfl)) rfl (by rfl) ?_
                      refine rg_step 107 (ob_move (by rfl) (by rfl)) rfl (by rfl) ?_
                      refine rg_step 108 (ob_index 1 (j) (by rfl) (by rfl) (by rfl) Try.underlying81 (by kernel_rfl) (Int.natCast_nonneg _) (Int.ofNat_lt.2 (by omega)) (by rw [Int.toNat_natCast]; omega)) rfl (by rfl) ?_
                      refine rg_step 109 (ob_load (v := .int .u64 (g (j))) (by rfl) (by rfl) (by kernel_rfl) (fun w' he => ext_cell he (HROW.out.cell (i := j) (by omega)))) rfl (by rfl) ?_
                      refine rg_step 110 (ob_move (by rfl) (by rfl)) rfl (by rfl) ?_
                      refine rg_step 111 (ob_move (by rfl) (by rfl)) rfl (by rfl) ?_
                      refine rg_step 112 (ob_iarith ((j - 1 : Nat) : Int) ((j - 1 : Nat) : Int) (by rfl) (by rfl) (by rfl) (congrArg some (by omega)) (IntWalk.i64_in _ (by omega))) rfl (by rfl) ?_
                      refine rg_step 113 (ob_index 1 (j - 1) (by rfl) (by rfl) (by rfl) Try.underlying81 (by kernel_rfl) (Int.natCast_nonneg _) (Int.ofNat_lt.2 (by omega)) (by rw [Int.toNat_natCast]; omega)) rfl (by rfl) ?_
                      refine rg_step 114 (ob_load (v := .int .u64 (g (j - 1))) (by rfl) (by rfl) (by kernel_rfl) (fun w' he => ext_cell he (HROW.out.cell (i := j - 1) (by omega)))) rfl (by rfl) ?_
                      refine rg_step 115 (ob_call (.ex (.bool (decide (g j < g (j - 1))))) (by rfl) cf_less (fun w' he => gives_ex ((less_in (g j) (g (j - 1)) w').mono fun e w2 h => ⟨h.1, by rw [h.2]; exact Ext.rfl _⟩))) rfl (by rfl) ?_
                      refine rg_step 116 (ob_not (decide (g j < g (j - 1))) (by rfl) (by rfl)) rfl (by rfl) ?_
                      refine rg_end ?_
                      intro w3 he3
                      simp only [asg, List.set_cons_zero, List.set_cons_succ, List.map_cons, List.map_nil, opens]
                      have R3 := hid (HROW.out.ext he3)
                      have B3 := hid (below_ext HB.out HROW.out he3)
                      clear he3
                      by_cases hlt : g j < g (j - 1)
                      · have dd : decide (g j < g (j - 1)) = true := decide_eq_true hlt
                        rw [dd, show (!true) = false from rfl]
                        have ci := R3.out.cell (i := j) (by omega)
                        have cj := R3.out.cell (i := j - 1) (by omega)
                        have ff := R3.out.frozen
                        have hin : ((j : Nat) : Int) < (n : Int) := Int.ofNat_lt.2 (by omega)
                        have hjn : ((j - 1 : Nat) : Int) < (n : Int) := Int.ofNat_lt.2 (by omega)
                        have hin' : j < n := by omega
                        have hjn' : j - 1 < n := by omega
                        have hne : j ≠ j - 1 := by omega
                        have HSW := hid (R3.out.swapD (i := j) (j := j - 1) (by omega) (by omega))
                        have HSB := hid (swap_below B3.out (j) (j - 1) (g (j - 1)) (g (j)))
                        rw [show ((j - 1 : Nat) : Int) = (j : Int) - 1 from by omega] at hjn
                        have PR := hid (HP.out.right hj1 hjh HSW.out HSB.out)
                        clear hlt dd HP HROW HB R3 B3
                        go_wp2_with fail
                        go_region
                        generalize (((w3.setCell ⟨b, j, none⟩ (.int .u64 (g (j - 1)))).setCell ⟨b, j - 1, none⟩ (.int .u64 (g j))).drew) = wq at *
                        clear ci cj ff
                        go_wp2_with fail
                        go_roundw
                        case rel => exact ⟨j + 1, _, by go_num, by omega, by omega, PR.out⟩
                        case measure => first | (simp [intOf]; done) | (simp [intOf]; omega)
                      · have dd : decide (g j < g (j - 1)) = false := decide_eq_false hlt
                        rw [dd, show (!false) = true from rfl]
                        have PE := hid (show PIn b cap n lo hi i f g w w3 from ⟨HP.out.i1, HP.out.i2, HP.out.s, HP.out.re, R3.out, B3.out⟩)
                        clear hlt dd
                        go_wp2_with fail
                        go_roundw
                        case rel => exact ⟨i, k + 1, _, rfl, by go_num, by omega, PE.out⟩
                        case measure => first | (simp [intOf]; done) | (simp [intOf]; omega)
                    · have dl : decide ((j : Int) < (hi : Int)) = false := decide_eq_false (by omega)
                      have PE := hid HP.out
                      go_wp2_with fail
                      go_roundw
                      case rel => exact ⟨i, k + 1, _, rfl, by go_num, by omega, PE.out⟩
                      case measure => first | (simp [intOf]; done) | (simp [intOf]; omega)
                · have dr : decide (2 ≤ (hi : Int) - (i : Int)) = false := decide_eq_false (by omega)
                  have PE := hid PL.out
                  go_wp2_with fail
                  go_roundw
                  case rel => exact ⟨i, k + 1, _, rfl, by go_num, by omega, PE.out⟩
                  case measure => first | (simp [intOf]; done) | (simp [intOf]; omega)
          · have dd : decide (g i < g (i - 1)) = false := decide_eq_false hlt
            rw [dd, show (!false) = true from rfl]
            have HP2 := hid (show PIn b cap n lo hi (i + 1) f g w w3 from ⟨by omega, by omega, fun k k1 k2 => by
              by_cases c : k + 1 = i
              · have e : k = i - 1 := by omega
                subst e
                rw [show i - 1 + 1 = i by omega]; omega
              · exact HP.out.s k k1 (by omega), HP.out.re, R3.out, B3.out⟩)
            clear hlt dd dj hb1
            go_wp2_with fail
            go_roundw
            case rel => exact ⟨i + 1, by go_num, HP2.out⟩
            case measure => first | (simp [intOf]; done) | (simp [intOf]; omega)
        · have dj : icmp .lss (i : Int) (hi : Int) = some false := by unfold icmp; simp; omega
          obtain rfl : i = hi := by omega
          go_wp2_with fail
          refine wp_draw (by kernel_rfl) (by kernel_rfl) ?_
          refine rg_step 17 (ob_move (by rfl) (by rfl)) rfl (by rfl) ?_
          refine rg_step 18 (ob_move (by rfl) (by rfl)) rfl (by rfl) ?_
          refine rg_step 19 (ob_icmp false (by rfl) (by rfl) (by rfl) (dj)) rfl (by rfl) ?_
          refine rg_step 20 (ob_move (by rfl) (by rfl)) rfl (by rfl) ?_
          refine rg_step 21 (ob_skip (by rfl)) rfl (by rfl) ?_
          refine rg_step 22 (ob_skip (by rfl)) rfl (by rfl) ?_
          refine rg_step 23 (ob_skip (by rfl)) rfl (by rfl) ?_
          refine rg_step 24 (ob_skip (by rfl)) rfl (by rfl) ?_
          refine rg_step 25 (ob_skip (by rfl)) rfl (by rfl) ?_
          refine rg_step 26 (ob_skip (by rfl)) rfl (by rfl) ?_
          refine rg_step 27 (ob_skip (by rfl)) rfl (by rfl) ?_
          refine rg_step 28 (ob_skip (by rfl)) rfl (by rfl) ?_
          refine rg_step 29 (ob_skip (by rfl)) rfl (by rfl) ?_
          refine rg_step 30 (ob_skip (by rfl)) rfl (by rfl) ?_
          refine rg_step 31 (ob_skip (by rfl)) rfl (by rfl) ?_
          refine rg_step 32 (ob_pick false (by rfl) (by rfl) (by rfl)) rfl (by rfl) ?_
          refine rg_end ?_
          intro w3 he3
          simp only [asg, List.set_cons_zero, List.set_cons_succ, List.map_cons, List.map_nil, opens]
          have R3 := hid (HROW.out.ext he3)
          have B3 := hid (below_ext HB.out HROW.out he3)
          clear he3
          clear dj hih
          go_wp2_with fail
          go_ret
          exact ⟨true, g, rfl, HP.out.re, R3.out, B3.out, fun _ => HP.out.s⟩
    · have dk : decide ((k : Int) < 5) = false := decide_eq_false (by omega)
      go_wp2_with fail
      go_ret
      exact ⟨false, g, rfl, HP0.out.re, HP0.out.row, HP0.out.bel, fun h => by cases h⟩
end Go.Proofs.Ytoonhcmeklmnlaa
