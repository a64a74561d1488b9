/- Sorting numbers: by the heap. -/
import Derived.Test.YtoonhcmeklmnlaaSo3
set_option linter.unusedSimpArgs false
set_option linter.unusedVariables false
set_option linter.unnecessarySimpa false
namespace Go.Proofs.Ytoonhcmeklmnlaa
open Go.RowKit Go.Rg Go.St

/-- what stands from e on is in order, and above all ahead of it -/
def HSuf (g : Nat → Int) (lo m e : Nat) : Prop := (∀ k, e ≤ k → k + 1 < m → g (lo + k) ≤ g (lo + (k + 1))) ∧ (∀ k d, k < e → e ≤ d → d < m → g (lo + k) ≤ g (lo + d))
theorem HSuf.step {g g2 : Nat → Int} {lo m i : Nat} (h : HSuf g lo m (i + 1)) (hh : HeapF g lo 0 (i + 1)) (hi : i < m) (hr : Re lo (lo + i) (swapF g lo (lo + i)) g2) : HSuf g2 lo m i := by
  have e1 : swapF g lo (lo + i) (lo + i) = g lo := by unfold swapF; rw [if_pos rfl]
  have eo : ∀ d, i < d → swapF g lo (lo + i) (lo + d) = g (lo + d) := fun d hd => by unfold swapF; rw [if_neg (by omega), if_neg (by omega)]
  have q1 : g2 (lo + i) = g lo := (hr.out (.inr (Nat.le_refl _))).trans e1
  have qo : ∀ d, i < d → g2 (lo + d) = g (lo + d) := fun d hd => (hr.out (.inr (by omega))).trans (eo d hd)
  have top := hh.top
  have low : ∀ k, k < i → g2 (lo + k) ≤ g lo ∧ ∀ d, i < d → d < m → g2 (lo + k) ≤ g (lo + d) := by
    intro k hk
    refine hr.all (p := fun x => x ≤ g lo ∧ ∀ d, i < d → d < m → x ≤ g (lo + d)) (fun k' k1 k2 => ?_) (lo + k) (by omega) (by omega)
    have key : ∀ q, q < i + 1 → g (lo + q) ≤ g lo ∧ ∀ d, i < d → d < m → g (lo + q) ≤ g (lo + d) := fun q hq => ⟨top q hq, fun d h1 h2 => h.2 q d hq (by omega) h2⟩
    by_cases c : k' = lo
    · subst c
      have : swapF g k' (k' + i) k' = g (k' + i) := by unfold swapF; rw [if_neg (by omega), if_pos rfl]
      rw [this]
      exact key i (by omega)
    · have : swapF g lo (lo + i) k' = g (lo + (k' - lo)) := by unfold swapF; rw [if_neg (by omega), if_neg c]; congr 1; omega
      rw [this]
      exact key (k' - lo) (by omega)
  refine ⟨fun k h1 h2 => ?_, fun k d h1 h2 h3 => ?_⟩
  · by_cases c : k = i
    · subst c
      rw [q1, qo (k + 1) (by omega)]
      exact h.2 0 (k + 1) (by omega) (by omega) h2
    · rw [qo k (by omega), qo (k + 1) (by omega)]
      exact h.1 k (by omega) h2
  · by_cases c : d = i
    · subst c; rw [q1]; exact (low k h1).1
    · rw [qo d (by omega)]; exact (low k h1).2 d (by omega) h3

set_option maxRecDepth 100000 in
set_option maxHeartbeats 8000000 in
theorem heap_in (b cap n : Nat) (f : Nat → Int) (lo m : Nat) (w : World) (h : RowU b cap n f w) (h2 : lo + m ≤ n) (h3 : n ≤ 2305843009213693952) (hm : 0 < m) :
    Calls Try.prog 117 #[.slice (some ⟨b, 0, none⟩) n cap, .int .i64 lo, .int .i64 ((lo + m : Nat) : Int)] w (SortP b cap n lo (lo + m) f w (fun g => Srt g lo (lo + m))) := by
  have H := hid h
  clear h
  obtain ⟨hi, hhi⟩ : ∃ hi : Nat, hi = lo + m := ⟨_, rfl⟩
  rw [← hhi]
  have hsub : (hi : Int) - (lo : Int) = (m : Int) := by omega
  have HHI := hid hhi
  have HS0 := hid (show HeapF f lo ((m - 1) / 2 + 1) m from fun p h1 c h4 h5 => absurd h5 (by omega))
  clear hhi
  go_enter Try.func117, Try.ntmps117
  go_wp2_with fail
  go_loopw [9] (fun t wr => ∃ (z : Int) (g : Nat → Int), t = .int .i64 z ∧ -1 ≤ z ∧ z ≤ m ∧ HeapF g lo (z + 1).toNat m ∧ Re lo hi f g ∧ RowU b cap n g wr ∧ Below b w wr) (fun t _ => (intOf t + 1).toNat)
  case atStart =>
    exact ⟨(((m - 1) / 2 : Nat) : Int), f, congrArg _ (by omega), by omega, by omega, by rw [show ((((m - 1) / 2 : Nat) : Int) + 1).toNat = (m - 1) / 2 + 1 by omega]; exact HS0.out, .refl, H.out, Below.refl _ _⟩
  case round =>
    obtain ⟨z, g, rfl, hz1, hz2, hhe, hre, hrow, hb⟩ := hrel
    have HRE := hid hre
    have HROW := hid hrow
    have HB := hid hb
    clear hre hrow hb
    by_cases hz : 0 ≤ z
    · obtain ⟨k, rfl⟩ : ∃ k : Nat, z = k := ⟨z.toNat, by omega⟩
      have HHE := hid (show HeapF g lo (k + 1) m from hhe)
      clear hhe
      go_wp2_with fail
      refine (sift_in b cap n g k m lo _ HROW.out h2 h3 (by omega) HHE.out).mono ?_
      rintro e w2 ⟨rfl, g2, r2, row2, b2, hf2⟩
      have R2 := hid (HRE.out.trans (r2.mono (Nat.le_add_right lo k) (Nat.le_of_eq HHI.out.symm)))
      have W2 := hid row2
      have B2 := hid (Below.trans HB.out b2)
      have HF2 := hid (show HeapF g2 lo (((k : Int) - 1) + 1).toNat m by rw [show (((k : Int) - 1) + 1).toNat = k by omega]; exact hf2)
      clear r2 row2 b2 hf2
      go_wp2_with fail
      go_roundw
      case rel => exact ⟨(k : Int) - 1, g2, by go_num, by omega, by omega, HF2.out, R2.out, W2.out, B2.out⟩
      case measure => first | (simp [intOf]; done) | (simp [intOf]; omega)
    · obtain rfl : z = -1 := by omega
      have HHE := hid (show HeapF g lo 0 m from hhe)
      clear hhe
      have HSF := hid (show HSuf g lo m m from ⟨fun k k1 k2 => absurd k2 (by omega), fun k d k1 k2 k3 => absurd k3 (by omega)⟩)
      go_wp2_with fail
      have HALL := hid (show ∃ g, HeapF g lo 0 m ∧ HSuf g lo m m ∧ Re lo hi f g ∧ RowU b cap n g wr ∧ Below b w wr from ⟨g, HHE.out, HSF.out, HRE.out, HROW.out, HB.out⟩)
      clear HHE HSF HRE HROW HB
      go_loopw [10] (fun t wz => ∃ (z : Int) (g : Nat → Int), t = .int .i64 z ∧ -1 ≤ z ∧ z < m ∧ HeapF g lo 0 (z + 1).toNat ∧ HSuf g lo m (z + 1).toNat ∧ Re lo hi f g ∧ RowU b cap n g wz ∧ Below b w wz) (fun t _ => (intOf t + 1).toNat)
      case atStart =>
        obtain ⟨g, x1, x2, x3, x4, x5⟩ := HALL.out
        have e : ((m : Int) - 1 + 1).toNat = m := by omega
        exact ⟨(m : Int) - 1, g, by go_num, by omega, by omega, by rw [e]; exact x1, by rw [e]; exact x2, x3, x4, x5⟩
      case round =>
        clear HALL
        obtain ⟨z, g, rfl, hz1, hz2, hhe, hsf, hre, hrow, hb⟩ := hrel
        have HRE := hid hre
        have HROW := hid hrow
        have HB := hid hb
        clear hre hrow hb
        by_cases hz : 0 ≤ z
        · obtain ⟨i, rfl⟩ : ∃ k : Nat, z = k := ⟨z.toNat, by omega⟩
          have HHE := hid (show HeapF g lo 0 (i + 1) from hhe)
          have HSF := hid (show HSuf g lo m (i + 1) from hsf)
          clear hhe hsf
          rcases Nat.eq_zero_or_pos i with hi0 | hi0
          · subst hi0
            have HHE := hid (show HeapF g lo 0 (0 + 1) from HHE.out)
            have ci := HROW.out.cell (i := lo) (by omega)
            have ff := HROW.out.frozen
            have hin : (lo : Int) < (n : Int) := by omega
            have hin' : lo < n := by omega
            have HSW := hid (HROW.out.swapD (i := lo) (j := lo) (by omega) (by omega))
            have HSB := hid (swap_below HB.out lo lo (g lo) (g lo))
            have HRS := hid (HRE.out.step lo lo (Nat.le_refl _) (by have := HHI.out; omega) (Nat.le_refl _) (by have := HHI.out; omega))
            have H1 := hid (show HeapF (swapF g lo lo) lo (0 + 1) 0 from fun p k1 c k2 k3 => absurd k3 (Nat.not_lt_zero _))
            go_wp2_with fail
            go_region
            generalize (((wr.setCell ⟨b, lo, none⟩ (.int .u64 (g lo))).setCell ⟨b, lo, none⟩ (.int .u64 (g lo))).drew) = wq at *
            clear ci ff HROW HB HRE
            go_wp2_with fail
            refine (sift_in b cap n _ 0 0 lo _ HSW.out (by omega) h3 (Nat.le_refl _) H1.out).mono ?_
            rintro e w2 ⟨rfl, g2, r2, row2, b2, hf2⟩
            have R2 := hid (HRS.out.trans (r2.mono (Nat.le_add_right lo 0) (by have := HHI.out; omega)))
            have W2 := hid row2
            have B2 := hid (Below.trans HSB.out b2)
            have HF2 := hid (show HeapF g2 lo 0 ((-1 : Int) + 1).toNat from fun p k1 c k2 k3 => absurd k3 (Nat.not_lt_zero _))
            have HS2 := hid (show HSuf g2 lo m ((-1 : Int) + 1).toNat from HSF.out.step HHE.out hm (by simpa using r2))
            clear r2 row2 b2 hf2
            go_wp2_with fail
            go_roundw
            case rel => exact ⟨-1, g2, by go_num, by omega, by omega, HF2.out, HS2.out, R2.out, W2.out, B2.out⟩
            case measure => first | (simp [intOf]; done) | (simp [intOf]; omega)
          · have ci := HROW.out.cell (i := lo) (by omega)
            have cj := HROW.out.cell (i := lo + i) (by omega)
            have ff := HROW.out.frozen
            have hne : ¬ lo = lo + i := by omega
            have hin : (lo : Int) < (n : Int) := by omega
            have hin' : lo < n := by omega
            have hjn : (lo : Int) + (i : Int) < (n : Int) := by omega
            have hj0 : (0 : Int) ≤ (lo : Int) + (i : Int) := by omega
            have htj : ((lo : Int) + (i : Int)).toNat = lo + i := by omega
            have HSW := hid (HROW.out.swapD (i := lo) (j := lo + i) (by omega) (by omega))
            have HSB := hid (swap_below HB.out lo (lo + i) (g (lo + i)) (g lo))
            have HRS := hid (HRE.out.step lo (lo + i) (Nat.le_refl _) (by have := HHI.out; omega) (by omega) (by have := HHI.out; omega))
            have H1 := hid (show HeapF (swapF g lo (lo + i)) lo (0 + 1) i from fun p k1 c k2 k3 => by
              have e : ∀ q, 0 < q → q < i → swapF g lo (lo + i) (lo + q) = g (lo + q) := fun q q1 q2 => by unfold swapF; rw [if_neg (by omega), if_neg (by omega)]
              rw [e c (by omega) k3, e p (by omega) (by omega)]
              exact HHE.out p (Nat.zero_le _) c k2 (by omega))
            go_wp2_with fail
            go_region
            generalize (((wr.setCell ⟨b, lo, none⟩ (.int .u64 (g (lo + i)))).setCell ⟨b, lo + i, none⟩ (.int .u64 (g lo))).drew) = wq at *
            clear ci cj ff HROW HB HRE
            go_wp2_with fail
            refine (sift_in b cap n _ 0 i lo _ HSW.out (by omega) h3 (Nat.zero_le _) H1.out).mono ?_
            rintro e w2 ⟨rfl, g2, r2, row2, b2, hf2⟩
            have R2 := hid (HRS.out.trans (r2.mono (Nat.le_add_right lo 0) (by have := HHI.out; omega)))
            have W2 := hid row2
            have B2 := hid (Below.trans HSB.out b2)
            have e0 : (((i : Int) - 1) + 1).toNat = i := by omega
            have HF2 := hid (show HeapF g2 lo 0 (((i : Int) - 1) + 1).toNat by rw [e0]; exact hf2)
            have HS2 := hid (show HSuf g2 lo m (((i : Int) - 1) + 1).toNat by rw [e0]; exact HSF.out.step HHE.out (by omega) r2)
            clear r2 row2 b2 hf2 e0
            go_wp2_with fail
            go_roundw
            case rel => exact ⟨(i : Int) - 1, g2, by go_num, by omega, by omega, HF2.out, HS2.out, R2.out, W2.out, B2.out⟩
            case measure => first | (simp [intOf]; done) | (simp [intOf]; omega)
        · obtain rfl : z = -1 := by omega
          have HSF := hid (show HSuf g lo m 0 from hsf)
          clear hhe hsf
          go_wp2_with fail
          go_end0
          refine ⟨rfl, g, HRE.out, HROW.out, HB.out, fun k k1 k2 => ?_⟩
          have := HSF.out.1 (k - lo) (Nat.zero_le _) (by have := HHI.out; omega)
          rw [show lo + (k - lo) = k by omega, show lo + (k - lo + 1) = k + 1 by omega] at this
          exact this
end Go.Proofs.Ytoonhcmeklmnlaa
