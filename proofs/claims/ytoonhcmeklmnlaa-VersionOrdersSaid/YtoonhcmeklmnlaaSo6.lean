/- Sorting numbers: the one to part by, chosen. -/
import Derived.Test.YtoonhcmeklmnlaaSo5
import Derived.Deep.CutRange
set_option linter.unusedSimpArgs false
set_option linter.unusedVariables false
set_option linter.unnecessarySimpa false
namespace Go.Proofs.Ytoonhcmeklmnlaa
open Go.RowKit Go.Rg Go.St

def Chosen (lo hi b : Nat) (w : World) (e : Ending) (w' : World) : Prop := ∃ (r : Nat) (z : Int), e = .returned (.tuple #[.int .i64 r, .int .i64 z]) ∧ lo < r ∧ r + 1 < hi ∧ Ext w w'
set_option maxRecDepth 100000 in
set_option maxHeartbeats 4000000 in
theorem choose_in (b cap n : Nat) (f : Nat → Int) (lo m : Nat) (w : World) (h : RowU b cap n f w) (h2 : lo + m ≤ n) (h3 : n ≤ 2305843009213693952) (hm : 12 < m) :
    Calls Try.prog 119 #[.slice (some ⟨b, 0, none⟩) n cap, .int .i64 lo, .int .i64 ((lo + m : Nat) : Int)] w (Chosen lo (lo + m) b w) := by
  have H := hid h
  clear h
  obtain ⟨hi, hhi⟩ : ∃ hi : Nat, hi = lo + m := ⟨_, rfl⟩
  rw [← hhi]
  have hsub : (hi : Int) - (lo : Int) = (m : Int) := by omega
  have HHI := hid hhi
  obtain ⟨q, hq⟩ : ∃ q : Nat, q = m / 4 := ⟨_, rfl⟩
  have HQ := hid (show 4 * q ≤ m ∧ 3 ≤ q ∧ m < 4 * q + 4 by omega)
  have hq4 : (m : Int) / 4 = (q : Int) := by omega
  have HI := hid (show lo + 4 * q ≤ hi by have := HQ.out; omega)
  clear hhi hq
  go_enter Try.func119, Try.ntmps119
  have d8 : decide (8 ≤ (m : Int)) = true := decide_eq_true (by omega)
  have d8' : 8 ≤ m := by omega
  go_upto_region 7 with fail
  obtain ⟨i0, hi0⟩ : ∃ i0 : Nat, i0 = lo + q := ⟨_, rfl⟩
  obtain ⟨j0, hj0⟩ : ∃ j0 : Nat, j0 = lo + q * 2 := ⟨_, rfl⟩
  obtain ⟨k0, hk0⟩ : ∃ k0 : Nat, k0 = lo + q * 3 := ⟨_, rfl⟩
  rw [show (lo : Int) + (q : Int) * 2 = (j0 : Int) by omega, show (lo : Int) + (q : Int) * 3 = (k0 : Int) by omega, show (lo : Int) + (q : Int) = (i0 : Int) by omega]
  have BD := hid (show lo + 1 < i0 ∧ i0 + 2 < hi ∧ lo + 1 < j0 ∧ j0 + 2 < hi ∧ lo + 1 < k0 ∧ k0 + 2 < hi ∧ hi ≤ n by have := HQ.out; have := HI.out; have := HHI.out; omega)
  clear hi0 hj0 hk0 d8 d8' hsub
  have S1 := hid (show CntAt w.heap.size 0 (w.alloc (Obj.cells #[.int .i64 0] 3)) from heap_alloc_new w _)
  have R1 := hid (H.out.ext ((Ext.rfl w).al (Obj.cells #[.int .i64 0] 3)))
  have B1 := hid (show Below w.heap.size w (w.alloc (Obj.cells #[.int .i64 0] 3)) from (Ext.rfl w).al _)
  have HEX := hid (show ∀ w', Below w.heap.size w w' → Ext w w' from fun _ h => h)
  have hbs : b < w.heap.size := H.out.lt
  generalize w.alloc (Obj.cells #[.int .i64 0] 3) = w1 at *
  generalize w.heap.size = s at *
  by_cases h50 : 50 ≤ m
  · have d50 : decide (50 ≤ (m : Int)) = true := decide_eq_true (by omega)
    go_wp2_with fail
    refine (medadj_in b cap n f i0 s 0 _ R1.out S1.out hbs (by have := BD.out; omega) (by have := BD.out; omega) (by decide) h3).mono ?_
    rintro e w2 ⟨i1, c2, rfl, p2, s2, q2, b2⟩
    have S2 := hid s2
    have R2 := hid (R1.out.kept (b2.block _ hbs))
    have B2 := hid (Below.trans B1.out b2)
    have P2 := hid (show lo < i1 ∧ i1 + 1 < hi by have := BD.out; rcases p2 with h | h | h <;> omega)
    clear s2 b2 p2
    go_wp2_with fail
    refine (medadj_in b cap n f j0 s c2 _ R2.out S2.out hbs (by have := BD.out; omega) (by have := BD.out; omega) (by omega) h3).mono ?_
    rintro e w3 ⟨j1, c3, rfl, p3, s3, q3, b3⟩
    have S3 := hid s3
    have R3 := hid (R2.out.kept (b3.block _ hbs))
    have B3 := hid (Below.trans B2.out b3)
    have P3 := hid (show lo < j1 ∧ j1 + 1 < hi by have := BD.out; rcases p3 with h | h | h <;> omega)
    clear s3 b3 p3
    go_wp2_with fail
    refine (medadj_in b cap n f k0 s c3 _ R3.out S3.out hbs (by have := BD.out; omega) (by have := BD.out; omega) (by omega) h3).mono ?_
    rintro e w4 ⟨k1, c4, rfl, p4, s4, q4, b4⟩
    have S4 := hid s4
    have R4 := hid (R3.out.kept (b4.block _ hbs))
    have B4 := hid (Below.trans B3.out b4)
    have P4 := hid (show lo < k1 ∧ k1 + 1 < hi by have := BD.out; rcases p4 with h | h | h <;> omega)
    have BD2 := hid (show lo < i1 ∧ i1 + 1 < hi ∧ lo < j1 ∧ j1 + 1 < hi ∧ lo < k1 ∧ k1 + 1 < hi ∧ hi ≤ n from ⟨P2.out.1, P2.out.2, P3.out.1, P3.out.2, P4.out.1, P4.out.2, BD.out.2.2.2.2.2.2⟩)
    clear s4 b4 p4
    go_wp2_with fail
    refine (median_in b cap n f i1 j1 k1 s c4 _ R4.out S4.out hbs (by have := BD2.out; omega) (by have := BD2.out; omega) (by have := BD2.out; omega) (by omega) h3).mono ?_
    rintro e w6 ⟨r, c6, rfl, p6, s6, q6, b6⟩
    have S6 := hid s6
    have B6 := hid (Below.trans B4.out b6)
    have P6 := hid (show lo < r ∧ r + 1 < hi by have := BD2.out; rcases p6 with h | h | h <;> omega)
    have c0 := S6.out.cell
    clear s6 b6 p6
    by_cases e0 : c6 = 0
    · subst e0
      go_wp2_with fail
      go_ret2
      exact ⟨r, 1, rfl, P6.out.1, P6.out.2, HEX.out _ B6.out⟩
    · by_cases e12 : c6 = 12
      · subst e12
        go_wp2_with fail
        go_ret2
        exact ⟨r, 2, rfl, P6.out.1, P6.out.2, HEX.out _ B6.out⟩
      · have d0 : decide ((c6 : Int) = 0) = false := decide_eq_false (by omega)
        have d12 : decide ((c6 : Int) = 12) = false := decide_eq_false (by omega)
        have d0' : ¬ (c6 : Int) = 0 := by omega
        have d12' : ¬ (c6 : Int) = 12 := by omega
        go_wp2_with fail
        go_ret2
        exact ⟨r, 0, rfl, P6.out.1, P6.out.2, HEX.out _ B6.out⟩
  · have d50 : decide (50 ≤ (m : Int)) = false := decide_eq_false (by omega)
    go_wp2_with fail
    refine (median_in b cap n f i0 j0 k0 s 0 _ R1.out S1.out hbs (by have := BD.out; omega) (by have := BD.out; omega) (by have := BD.out; omega) (by omega) h3).mono ?_
    rintro e w6 ⟨r, c6, rfl, p6, s6, q6, b6⟩
    have S6 := hid s6
    have B6 := hid (Below.trans B1.out b6)
    have P6 := hid (show lo < r ∧ r + 1 < hi by have := BD.out; rcases p6 with h | h | h <;> omega)
    have c0 := S6.out.cell
    clear s6 b6 p6
    by_cases e0 : c6 = 0
    · subst e0
      go_wp2_with fail
      go_ret2
      exact ⟨r, 1, rfl, P6.out.1, P6.out.2, HEX.out _ B6.out⟩
    · by_cases e12 : c6 = 12
      · subst e12
        go_wp2_with fail
        go_ret2
        exact ⟨r, 2, rfl, P6.out.1, P6.out.2, HEX.out _ B6.out⟩
      · have d0 : decide ((c6 : Int) = 0) = false := decide_eq_false (by omega)
        have d12 : decide ((c6 : Int) = 12) = false := decide_eq_false (by omega)
        have d0' : ¬ (c6 : Int) = 0 := by omega
        have d12' : ¬ (c6 : Int) = 12 := by omega
        go_wp2_with fail
        go_ret2
        exact ⟨r, 0, rfl, P6.out.1, P6.out.2, HEX.out _ B6.out⟩
end Go.Proofs.Ytoonhcmeklmnlaa
