/- Sorting numbers: which one to part by. -/
import Derived.Test.YtoonhcmeklmnlaaSo4
set_option linter.unusedSimpArgs false
set_option linter.unusedVariables false
set_option linter.unnecessarySimpa false
namespace Go.Proofs.Ytoonhcmeklmnlaa
open Go.RowKit Go.Rg Go.St

/-- a count in a cell -/
def CntAt (s : Nat) (c : Nat) (w : World) : Prop := w.heap[s]? = some (.cells #[.int .i64 (c : Int)] 3 (0, 0))
theorem CntAt.cell {s c : Nat} {w : World} (h : CntAt s c w) : w.cell? ⟨s, 0, none⟩ = some (.int .i64 (c : Int)) := by
  unfold CntAt at h
  rw [cell_of_row _ _ _ _ _ _ h]; rfl
def Ord2 (x y s c : Nat) (w : World) (e : Ending) (w' : World) : Prop := ∃ x' y' c' : Nat, e = .returned (.tuple #[.int .i64 x', .int .i64 y']) ∧ (x' = x ∧ y' = y ∨ x' = y ∧ y' = x) ∧ CntAt s c' w' ∧ c' ≤ c + 1 ∧ Below s w w'
set_option maxRecDepth 100000 in
set_option maxHeartbeats 2000000 in
theorem order2_in (b cap n : Nat) (f : Nat → Int) (x y s c : Nat) (w : World) (h : RowU b cap n f w) (hs : CntAt s c w) (hb : b < s) (hx : x < n) (hy : y < n) (hc : c < 1000000) (h3 : n ≤ 2305843009213693952) :
    Calls Try.prog 143 #[.slice (some ⟨b, 0, none⟩) n cap, .int .i64 x, .int .i64 y, .pointer (some ⟨s, 0, none⟩)] w (Ord2 x y s c w) := by
  have H := hid h
  have HS := hid hs
  clear h hs
  go_enter Try.func143, Try.ntmps143
  go_wp2_with fail
  refine wp_draw (by kernel_rfl) (by kernel_rfl) ?_
  refine rg_step 10 (ob_move (by rfl) (by rfl)) rfl (by rfl) ?_
  refine rg_step 11 (ob_move (by rfl) (by rfl)) rfl (by rfl) ?_
  refine rg_step 12 (ob_index 1 (y) (by rfl) (by rfl) (by rfl) Try.underlying81 (by kernel_rfl) (Int.natCast_nonneg _) (Int.ofNat_lt.2 (by omega)) (by rw [Int.toNat_natCast]; omega)) rfl (by rfl) ?_
  refine rg_step 13 (ob_load (v := .int .u64 (f (y))) (by rfl) (by rfl) (by kernel_rfl) (fun w' he => ext_cell he (H.out.cell (i := y) (by omega)))) rfl (by rfl) ?_
  refine rg_step 14 (ob_move (by rfl) (by rfl)) rfl (by rfl) ?_
  refine rg_step 15 (ob_move (by rfl) (by rfl)) rfl (by rfl) ?_
  refine rg_step 16 (ob_index 1 (x) (by rfl) (by rfl) (by rfl) Try.underlying81 (by kernel_rfl) (Int.natCast_nonneg _) (Int.ofNat_lt.2 (by omega)) (by rw [Int.toNat_natCast]; omega)) rfl (by rfl) ?_
  refine rg_step 17 (ob_load (v := .int .u64 (f (x))) (by rfl) (by rfl) (by kernel_rfl) (fun w' he => ext_cell he (H.out.cell (i := x) (by omega)))) rfl (by rfl) ?_
  refine rg_step 18 (ob_call (.ex (.bool (decide (f y < f x)))) (by rfl) cf_less (fun w' he => gives_ex ((less_in (f y) (f x) w').mono fun e w2 h => ⟨h.1, by rw [h.2]; exact Ext.rfl _⟩))) rfl (by rfl) ?_
  refine rg_end ?_
  intro w3 he3
  simp only [asg, List.set_cons_zero, List.set_cons_succ, List.map_cons, List.map_nil, opens]
  have hsl : s < w.heap.size := lt_of_at HS.out
  have S3 := hid (show CntAt s c w3 from (he3.block _ hsl).trans HS.out)
  have B3 := hid (show Below s w w3 from Below.mono he3 (Nat.le_of_lt hsl))
  clear he3
  by_cases hlt : f y < f x
  · have dd : decide (f y < f x) = true := decide_eq_true hlt
    rw [dd]
    have c0 := S3.out.cell
    have ff : ∀ i, w3.frozen? ⟨s, i, none⟩ = false := fun i => frozen_of_row _ _ _ _ _ S3.out
    clear hlt dd
    go_wp2_with fail
    go_ret2
    exact ⟨y, x, c + 1, rfl, .inr ⟨rfl, rfl⟩, (heap_setCell_same _ _ _ _ _ _ S3.out).trans (by simp), Nat.le_refl _, Below.setCell B3.out (Nat.le_refl _) _⟩
  · have dd : decide (f y < f x) = false := decide_eq_false hlt
    rw [dd]
    clear hlt dd
    go_wp2_with fail
    go_ret2
    exact ⟨x, y, c, rfl, .inl ⟨rfl, rfl⟩, S3.out, by omega, B3.out⟩
def Med (a1 a2 a3 s c : Nat) (w : World) (e : Ending) (w' : World) : Prop := ∃ r c' : Nat, e = .returned (.int .i64 r) ∧ (r = a1 ∨ r = a2 ∨ r = a3) ∧ CntAt s c' w' ∧ c' ≤ c + 3 ∧ Below s w w'
set_option maxRecDepth 100000 in
set_option maxHeartbeats 2000000 in
theorem median_in (b cap n : Nat) (f : Nat → Int) (a1 a2 a3 s c : Nat) (w : World) (h : RowU b cap n f w) (hs : CntAt s c w) (hb : b < s) (h1 : a1 < n) (h2 : a2 < n) (h4 : a3 < n) (hc : c < 900000) (h3 : n ≤ 2305843009213693952) :
    Calls Try.prog 138 #[.slice (some ⟨b, 0, none⟩) n cap, .int .i64 a1, .int .i64 a2, .int .i64 a3, .pointer (some ⟨s, 0, none⟩)] w (Med a1 a2 a3 s c w) := by
  have H := hid h
  have HS := hid hs
  clear h hs
  go_enter Try.func138, Try.ntmps138
  go_wp2_with fail
  refine (order2_in b cap n f a1 a2 s c _ H.out HS.out hb h1 h2 (by omega) h3).mono ?_
  rintro e w2 ⟨x1, y1, c1, rfl, p1, s1, q1, b1⟩
  have S1 := hid s1
  have B1 := hid b1
  have P1 := hid p1
  have R1 := hid (H.out.kept (b1.block _ hb))
  clear s1 b1 p1
  go_wp2_with fail
  refine (order2_in b cap n f y1 a3 s c1 _ R1.out S1.out hb (by rcases P1.out with h | h <;> omega) h4 (by omega) h3).mono ?_
  rintro e w3 ⟨x2, y2, c2, rfl, p2, s2, q2, b2⟩
  have S2 := hid s2
  have B2 := hid (Below.trans B1.out b2)
  have P2 := hid p2
  have R2 := hid (R1.out.kept (b2.block _ hb))
  clear s2 b2 p2
  go_wp2_with fail
  refine (order2_in b cap n f x1 x2 s c2 _ R2.out S2.out hb (by rcases P1.out with h | h <;> omega) (by rcases P1.out with h | h <;> rcases P2.out with h' | h' <;> omega) (by omega) h3).mono ?_
  rintro e w4 ⟨x3, y3, c3, rfl, p3, s3, q3, b3⟩
  have S3 := hid s3
  have B3 := hid (Below.trans B2.out b3)
  have P3 := hid p3
  clear s3 b3 p3
  go_wp2_with fail
  go_ret
  exact ⟨y3, c3, rfl, by rcases P1.out with h | h <;> rcases P2.out with h' | h' <;> rcases P3.out with h'' | h'' <;> omega, S3.out, by omega, B3.out⟩
set_option maxRecDepth 100000 in
theorem medadj_in (b cap n : Nat) (f : Nat → Int) (a s c : Nat) (w : World) (h : RowU b cap n f w) (hs : CntAt s c w) (hb : b < s) (h1 : 0 < a) (h2 : a + 1 < n) (hc : c < 900000) (h3 : n ≤ 2305843009213693952) :
    Calls Try.prog 137 #[.slice (some ⟨b, 0, none⟩) n cap, .int .i64 a, .pointer (some ⟨s, 0, none⟩)] w (Med (a - 1) a (a + 1) s c w) := by
  go_enter Try.func137, Try.ntmps137
  go_wp2_with fail
  rw [show (a : Int) - 1 = ((a - 1 : Nat) : Int) by omega, show (a : Int) + 1 = ((a + 1 : Nat) : Int) by omega]
  refine (median_in b cap n f (a - 1) a (a + 1) s c _ h hs hb (by omega) (by omega) h2 hc h3).mono ?_
  rintro e w2 ⟨r, c1, rfl, p1, s1, q1, b1⟩
  have S1 := hid s1
  have B1 := hid b1
  clear s1 b1
  go_wp2_with fail
  go_ret
  exact ⟨r, c1, rfl, p1, S1.out, q1, B1.out⟩
end Go.Proofs.Ytoonhcmeklmnlaa
