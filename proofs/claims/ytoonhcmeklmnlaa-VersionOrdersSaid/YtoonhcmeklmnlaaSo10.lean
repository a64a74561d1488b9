/- Sorting numbers: patterns broken. -/
import Derived.Test.YtoonhcmeklmnlaaSo9
import Derived.Shelf.SlSortCmp.Xorshift
import Derived.Laws.Bits64b
set_option linter.unusedSimpArgs false
set_option linter.unusedVariables false
set_option linter.unnecessarySimpa false
namespace Go.Proofs.Ytoonhcmeklmnlaa
open Go.RowKit Go.Rg Go.St Go.Shelf Go.Lib Go.Sort

/-- a number drawn from, in a box -/
def XAt (s x : Nat) (w : World) : Prop := w.heap[s]? = some (.cells #[.int .u64 (x : Int)] 195 (0, 0)) ∧ x < 18446744073709551616
theorem XAt.kept {s x : Nat} {w w' : World} (h : XAt s x w) (he : w'.heap[s]? = w.heap[s]?) : XAt s x w' := ⟨he.trans h.1, h.2⟩
theorem drewN_heap (w : World) (n : Nat) : (w.drewN n).heap = w.heap := by
  cases n <;> rfl
theorem below_drewN {B : Nat} {a w : World} (h : Below B a w) (n : Nat) : Below B a (w.drewN n) := by
  have h1 : Below B a (w.drewN n) ↔ Below B a w := by
    induction n generalizing w with
    | zero => exact Iff.rfl
    | succ n ih => exact ⟨fun _ => h, fun _ => ⟨h.os, h.tape, h.output, by rw [drewN_heap]; exact h.size, fun k hk => by rw [drewN_heap]; exact h.block k hk⟩⟩
  exact h1.2 h

set_option maxHeartbeats 4000000 in
set_option maxRecDepth 1000000 in
theorem next_in (s X : Nat) (w : World) (h : XAt s X w) :
    Calls Try.prog 136 #[.pointer (some ⟨s, 0, none⟩)] w (fun e w' => ∃ y : Nat, e = .returned (.int .u64 y) ∧ XAt s y w' ∧ Below s w w') := by
  have hX := h.2
  have hc : w.cell? ⟨s, 0, none⟩ = some (.int .u64 X) := by rw [cell_of_row _ _ _ _ _ _ h.1]; rfl
  have hf : w.frozen? ⟨s, 0, none⟩ = false := frozen_of_row _ _ _ _ _ h.1
  obtain ⟨A, hA⟩ : ∃ A : Nat, A = X ^^^ (X * 8192 % 18446744073709551616) := ⟨_, rfl⟩
  obtain ⟨B, hB⟩ : ∃ B : Nat, B = A ^^^ (A / 128) := ⟨_, rfl⟩
  obtain ⟨C, hC⟩ : ∃ C : Nat, C = B ^^^ (B * 131072 % 18446744073709551616) := ⟨_, rfl⟩
  have lA : A < 18446744073709551616 := by rw [hA]; exact Nat.xor_lt_two_pow (n := 64) (by omega) (by omega)
  have lB : B < 18446744073709551616 := by rw [hB]; exact Nat.xor_lt_two_pow (n := 64) (by omega) (by omega)
  have LC := hid (show C < 18446744073709551616 by rw [hC]; exact Nat.xor_lt_two_pow (n := 64) (by omega) (by omega))
  have e1 : bits .xor .u64 (X : Int) (IntKind.u64.wrap ((X : Int) * 8192)) = (A : Int) := by
    rw [IntKind.wrap_u64, show ((X : Int) * 8192 % 18446744073709551616) = ((X * 8192 % 18446744073709551616 : Nat) : Int) by omega, bits_xor_u64_nat _ _ hX (by omega), hA]
  have e2 : bits .xor .u64 (A : Int) ((A : Int) / 128) = (B : Int) := by
    rw [show ((A : Int) / 128) = ((A / 128 : Nat) : Int) by omega, bits_xor_u64_nat _ _ lA (by omega), hB]
  have e3 : bits .xor .u64 (B : Int) (IntKind.u64.wrap ((B : Int) * 131072)) = (C : Int) := by
    rw [IntKind.wrap_u64, show ((B : Int) * 131072 % 18446744073709551616) = ((B * 131072 % 18446744073709551616 : Nat) : Int) by omega, bits_xor_u64_nat _ _ lB (by omega), hC]
  clear hA hB hC
  have H := hid h
  clear h
  have hss : ∀ v v', (w.setCell ⟨s, 0, none⟩ v).setCell ⟨s, 0, none⟩ v' = w.setCell ⟨s, 0, none⟩ v' := setCell_setCell w s 0
  go_enter Try.func136, Try.ntmps136
  go_wp2
  go_region
  all_goals go_wp2
  all_goals go_region
  all_goals go_wp2
  all_goals go_region
  all_goals go_wp2
  go_ret
  refine ⟨C, rfl, ⟨(heap_setCell_same _ _ _ _ _ _ H.out.1).trans rfl, LC.out⟩, ?_⟩
  exact below_drew (below_drew (below_drew (Below.setCell (p := ⟨s, 0, none⟩) (Below.refl s w) (Nat.le_refl s) _)))

set_option maxRecDepth 1000000 in
theorem pow2_in (m : Nat) (hm : m < 4611686018427387904) (h0 : 0 < m) (w : World) :
    Calls Try.prog 135 #[.int .i64 m] w (fun e w' => (∃ p : Nat, e = .returned (.int .u64 p) ∧ 0 < p ∧ p ≤ 2 * m) ∧ w = w') := by
  have hLen : ∀ w, Calls Try.prog 105 #[.int .u64 (m : Int)] w fun e w' => e = .returned (.int .i64 (bitsLen m : Nat)) ∧ w' = w := fun w => by
    have h := Try.bits_Len (m : Int) w (by omega) (by omega)
    rwa [Int.toNat_natCast, bitLen_eq _ (by omega)] at h
  have hk : bitsLen m ≤ 62 := (bitsLen_le_iff m 62).2 (by omega)
  have hp := wrap_two_pow (bitsLen m) hk
  have wr : IntKind.u64.wrap (m : Int) = m := by simp [IntKind.wrap, IntKind.bits, IntKind.signed]; omega
  go_enter Try.func135, Try.ntmps135
  go_wp2_with fail
  refine (hLen _).mono ?_
  rintro e w' ⟨rfl, rfl⟩
  go_wp2_with fail
  go_ret
  refine ⟨⟨1 <<< bitsLen m, rfl, ?_, ?_⟩, rfl⟩
  · rw [Nat.one_shiftLeft]; exact Nat.two_pow_pos _
  · rw [Nat.one_shiftLeft]
    cases hq : bitsLen m with
    | zero => omega
    | succ k =>
      have h1 : ¬ m < 2 ^ k := fun h => by have := (bitsLen_le_iff m k).2 h; omega
      rw [Nat.pow_succ]; omega

theorem mask_lt (y p : Nat) (hp : 0 < p) : y &&& (p - 1) < p := Nat.lt_of_le_of_lt Nat.and_le_right (by omega)
structure PBr (b cap n lo hi s y : Nat) (f g : Nat → Int) (w wr : World) : Prop where
  x : XAt s y wr
  re : Re lo hi f g
  row : RowU b cap n g wr
  bel : Below b w wr
set_option maxRecDepth 100000 in
set_option maxHeartbeats 8000000 in
theorem break_in (b cap n : Nat) (f : Nat → Int) (lo m : Nat) (w : World) (h : RowU b cap n f w) (h2 : lo + m ≤ n) (h3 : n ≤ 2305843009213693952) (hm : 12 < m) :
    Calls Try.prog 118 #[.slice (some ⟨b, 0, none⟩) n cap, .int .i64 lo, .int .i64 ((lo + m : Nat) : Int)] w (SortP b cap n lo (lo + m) f w (fun _ => True)) := by
  have H := hid h
  clear h
  obtain ⟨hi, hhi⟩ : ∃ hi : Nat, hi = lo + m := ⟨_, rfl⟩
  rw [← hhi]
  have hsub : (hi : Int) - (lo : Int) = (m : Int) := by omega
  have HHI := hid hhi
  obtain ⟨q, hq⟩ : ∃ q : Nat, q = m / 4 := ⟨_, rfl⟩
  have HQ := hid (show 4 * q ≤ m ∧ 3 ≤ q ∧ m < 4 * q + 4 by omega)
  have hq4 : (m : Int) / 4 = (q : Int) := by omega
  obtain ⟨c, hc⟩ : ∃ c : Nat, c = lo + q * 2 := ⟨_, rfl⟩
  have HC := hid (show lo + 2 < c ∧ c + 2 < hi by have := HQ.out; omega)
  have hwm : IntKind.u64.wrap (m : Int) = m := by simp [IntKind.wrap, IntKind.bits, IntKind.signed]; omega
  have hc1 : (lo : Int) + (q : Int) * 2 = (c : Int) := by omega
  have hqb : lo + q * 2 < 4611686018427387904 := by have := HQ.out; omega
  have hcb : 3 ≤ c ∧ c < 4611686018427387904 := by have := HQ.out; omega
  clear hhi hq hc
  go_enter Try.func118, Try.ntmps118
  have d8 : decide (8 ≤ (m : Int)) = true := decide_eq_true (by omega)
  have d8' : 8 ≤ m := by omega
  go_upto_region 3 with fail
  have X1 := hid (show XAt w.heap.size m (w.alloc (Obj.cells #[.int .u64 (m : Int)] 195)) from ⟨heap_alloc_new w _, by omega⟩)
  have R1 := hid (H.out.ext ((Ext.rfl w).al (Obj.cells #[.int .u64 (m : Int)] 195)))
  have hbs : b < w.heap.size := H.out.lt
  have B1 := hid (show Below b w (w.alloc (Obj.cells #[.int .u64 (m : Int)] 195)) from Below.mono ((Ext.rfl w).al _) (Nat.le_of_lt hbs))
  generalize w.alloc (Obj.cells #[.int .u64 (m : Int)] 195) = w1 at *
  generalize w.heap.size = s at *
  go_wp2_with fail
  refine (pow2_in m (by omega) (by omega) _).mono ?_
  rintro e w2 ⟨⟨p, rfl, hp0, hp1⟩, rfl⟩
  have HPP := hid (And.intro hp0 hp1)
  have hp64 : p < 18446744073709551616 := by omega
  clear hp0 hp1
  have hwp : IntKind.u64.wrap ((p : Int) - 1) = ((p - 1 : Nat) : Int) := by have := HPP.out.1; simp [IntKind.wrap, IntKind.bits, IntKind.signed]; omega
  have P0 := hid (show PBr b cap n lo hi s m f f w w1 from ⟨X1.out, .refl, R1.out, B1.out⟩)
  clear X1 R1 B1
  go_wp2_with fail
  go_loopw [9] (fun ti wr => ∃ (i y : Nat) (g : Nat → Int), ti = .int .i64 i ∧ c ≤ i + 1 ∧ i ≤ c + 2 ∧ PBr b cap n lo hi s y f g w wr) (fun ti _ => c + 2 - (intOf ti).toNat)
  case atStart => exact ⟨c - 1, m, f, by have := HC.out; go_num, by omega, by omega, P0.out⟩
  case round =>
    clear P0
    obtain ⟨i, y, g, rfl, hi1, hi2, hp⟩ := hrel
    have HP := hid hp
    clear hp
    by_cases hil : i ≤ c + 1
    · have dl : decide ((i : Int) ≤ (c : Int) + 1) = true := decide_eq_true (by omega)
      go_wp2_with fail
      refine (next_in s y _ HP.out.x).mono ?_
      rintro e w2 ⟨z, rfl, hx, hb⟩
      have X2 := hid hx
      have R2 := hid (HP.out.row.kept (hb.block _ hbs))
      have B2 := hid (Below.trans HP.out.bel (Below.mono hb (Nat.le_of_lt hbs)))
      have HRE := hid HP.out.re
      clear hx hb HP
      have hand : bits .and .u64 (z : Int) ((p - 1 : Nat) : Int) = ((z &&& (p - 1) : Nat) : Int) := bits_and_u64_nat _ _ X2.out.2 (by omega)
      have HO := hid (show z &&& (p - 1) < 2 * m from Nat.lt_of_lt_of_le (mask_lt z p HPP.out.1) HPP.out.2)
      generalize z &&& (p - 1) = o at *
      have hwo : IntKind.i64.wrap (o : Int) = o := by have := HO.out; first | (simp [IntKind.wrap_i64]; done) | (simp [IntKind.wrap_i64]; omega)
      by_cases hom : m ≤ o
      · have dm : decide ((m : Int) ≤ (o : Int)) = true := decide_eq_true (by omega)
        obtain ⟨o1, ho1⟩ : ∃ o1 : Nat, o1 = o - m := ⟨_, rfl⟩
        have hso : (o : Int) - (m : Int) = (o1 : Int) := by omega
        have HOB := hid (show lo + o1 < hi by have := HO.out; have := HHI.out; omega)
        clear ho1
        rcases Nat.eq_or_lt_of_le (Nat.zero_le ((i - (lo + o1)) + ((lo + o1) - i))) with he | he
        · obtain rfl : i = lo + o1 := by omega
          clear he
          have ci := R2.out.cell (i := lo + o1) (by omega)
          have ff := R2.out.frozen
          have hin' : lo + o1 < n := by omega
          have HSW := hid (R2.out.swapD (i := lo + o1) (j := lo + o1) hin' hin')
          have HSB := hid (swap_below B2.out (lo + o1) (lo + o1) (g (lo + o1)) (g (lo + o1)))
          have HRS := hid (HRE.out.step (lo + o1) (lo + o1) (by omega) (by have := HOB.out; omega) (by omega) (by have := HOB.out; omega))
          have hin : (lo : Int) + (o1 : Int) < (n : Int) := by omega
          have hj0 : (0 : Int) ≤ (lo : Int) + (o1 : Int) := by omega
          have htj : ((lo : Int) + (o1 : Int)).toNat = lo + o1 := by omega
          have X3 := hid (show XAt s z (((w2.setCell ⟨b, lo + o1, none⟩ (.int .u64 (g (lo + o1)))).setCell ⟨b, lo + o1, none⟩ (.int .u64 (g (lo + o1)))).drew) from X2.out.kept ((heap_setCell_other _ _ _ _ (Nat.ne_of_gt hbs)).trans (heap_setCell_other _ _ _ _ (Nat.ne_of_gt hbs))))
          go_wp2_with fail
          go_region
          generalize (((w2.setCell ⟨b, lo + o1, none⟩ (.int .u64 (g (lo + o1)))).setCell ⟨b, lo + o1, none⟩ (.int .u64 (g (lo + o1)))).drew) = wq at *
          clear ci ff
          go_wp2_with fail
          go_roundw
          case rel => exact ⟨lo + o1 + 1, z, _, by go_num, by omega, by omega, X3.out, HRS.out, HSW.out, HSB.out⟩
          case measure => first | (simp [intOf]; done) | (simp [intOf]; omega)
        · have hne : i ≠ lo + o1 := by omega
          have ci := R2.out.cell (i := i) (by have := HC.out; have := HHI.out; omega)
          have cj := R2.out.cell (i := lo + o1) (by have := HOB.out; have := HHI.out; omega)
          have ff := R2.out.frozen
          have hin' : i < n := by have := HC.out; have := HHI.out; omega
          have hjn' : lo + o1 < n := by have := HOB.out; have := HHI.out; omega
          have hin : (i : Int) < (n : Int) := by omega
          have hjn : (lo : Int) + (o1 : Int) < (n : Int) := by omega
          have hj0 : (0 : Int) ≤ (lo : Int) + (o1 : Int) := by omega
          have htj : ((lo : Int) + (o1 : Int)).toNat = lo + o1 := by omega
          have HSW := hid (R2.out.swapD (i := i) (j := lo + o1) hin' hjn')
          have HSB := hid (swap_below B2.out i (lo + o1) (g (lo + o1)) (g i))
          have HRS := hid (HRE.out.step i (lo + o1) (by have := HC.out; omega) (by have := HC.out; omega) (by omega) (by have := HOB.out; omega))
          have X3 := hid (show XAt s z (((w2.setCell ⟨b, i, none⟩ (.int .u64 (g (lo + o1)))).setCell ⟨b, lo + o1, none⟩ (.int .u64 (g i))).drew) from X2.out.kept ((heap_setCell_other _ _ _ _ (Nat.ne_of_gt hbs)).trans (heap_setCell_other _ _ _ _ (Nat.ne_of_gt hbs))))
          go_wp2_with fail
          go_region
          generalize (((w2.setCell ⟨b, i, none⟩ (.int .u64 (g (lo + o1)))).setCell ⟨b, lo + o1, none⟩ (.int .u64 (g i))).drew) = wq at *
          clear ci cj ff
          go_wp2_with fail
          go_roundw
          case rel => exact ⟨i + 1, z, _, by go_num, by omega, by omega, X3.out, HRS.out, HSW.out, HSB.out⟩
          case measure => first | (simp [intOf]; done) | (simp [intOf]; omega)
      · have dm : decide ((m : Int) ≤ (o : Int)) = false := decide_eq_false (by omega)
        have HOB := hid (show lo + o < hi by have := HHI.out; omega)
        rcases Nat.eq_or_lt_of_le (Nat.zero_le ((i - (lo + o)) + ((lo + o) - i))) with he | he
        · obtain rfl : i = lo + o := by omega
          clear he
          have ci := R2.out.cell (i := lo + o) (by omega)
          have ff := R2.out.frozen
          have hin' : lo + o < n := by omega
          have HSW := hid (R2.out.swapD (i := lo + o) (j := lo + o) hin' hin')
          have HSB := hid (swap_below B2.out (lo + o) (lo + o) (g (lo + o)) (g (lo + o)))
          have HRS := hid (HRE.out.step (lo + o) (lo + o) (by omega) (by have := HOB.out; omega) (by omega) (by have := HOB.out; omega))
          have hin : (lo : Int) + (o : Int) < (n : Int) := by omega
          have hj0 : (0 : Int) ≤ (lo : Int) + (o : Int) := by omega
          have htj : ((lo : Int) + (o : Int)).toNat = lo + o := by omega
          have X3 := hid (show XAt s z (((w2.setCell ⟨b, lo + o, none⟩ (.int .u64 (g (lo + o)))).setCell ⟨b, lo + o, none⟩ (.int .u64 (g (lo + o)))).drew) from X2.out.kept ((heap_setCell_other _ _ _ _ (Nat.ne_of_gt hbs)).trans (heap_setCell_other _ _ _ _ (Nat.ne_of_gt hbs))))
          go_wp2_with fail
          go_region
          generalize (((w2.setCell ⟨b, lo + o, none⟩ (.int .u64 (g (lo + o)))).setCell ⟨b, lo + o, none⟩ (.int .u64 (g (lo + o)))).drew) = wq at *
          clear ci ff
          go_wp2_with fail
          go_roundw
          case rel => exact ⟨lo + o + 1, z, _, by go_num, by omega, by omega, X3.out, HRS.out, HSW.out, HSB.out⟩
          case measure => first | (simp [intOf]; done) | (simp [intOf]; omega)
        · have hne : i ≠ lo + o := by omega
          have ci := R2.out.cell (i := i) (by have := HC.out; have := HHI.out; omega)
          have cj := R2.out.cell (i := lo + o) (by have := HOB.out; have := HHI.out; omega)
          have ff := R2.out.frozen
          have hin' : i < n := by have := HC.out; have := HHI.out; omega
          have hjn' : lo + o < n := by have := HOB.out; have := HHI.out; omega
          have hin : (i : Int) < (n : Int) := by omega
          have hjn : (lo : Int) + (o : Int) < (n : Int) := by omega
          have hj0 : (0 : Int) ≤ (lo : Int) + (o : Int) := by omega
          have htj : ((lo : Int) + (o : Int)).toNat = lo + o := by omega
          have HSW := hid (R2.out.swapD (i := i) (j := lo + o) hin' hjn')
          have HSB := hid (swap_below B2.out i (lo + o) (g (lo + o)) (g i))
          have HRS := hid (HRE.out.step i (lo + o) (by have := HC.out; omega) (by have := HC.out; omega) (by omega) (by have := HOB.out; omega))
          have X3 := hid (show XAt s z (((w2.setCell ⟨b, i, none⟩ (.int .u64 (g (lo + o)))).setCell ⟨b, lo + o, none⟩ (.int .u64 (g i))).drew) from X2.out.kept ((heap_setCell_other _ _ _ _ (Nat.ne_of_gt hbs)).trans (heap_setCell_other _ _ _ _ (Nat.ne_of_gt hbs))))
          go_wp2_with fail
          go_region
          generalize (((w2.setCell ⟨b, i, none⟩ (.int .u64 (g (lo + o)))).setCell ⟨b, lo + o, none⟩ (.int .u64 (g i))).drew) = wq at *
          clear ci cj ff
          go_wp2_with fail
          go_roundw
          case rel => exact ⟨i + 1, z, _, by go_num, by omega, by omega, X3.out, HRS.out, HSW.out, HSB.out⟩
          case measure => first | (simp [intOf]; done) | (simp [intOf]; omega)
    · have dl : decide ((i : Int) ≤ (c : Int) + 1) = false := decide_eq_false (by omega)
      go_wp2_with fail
      go_end0
      exact ⟨rfl, g, HP.out.re, HP.out.row, HP.out.bel, trivial⟩
end Go.Proofs.Ytoonhcmeklmnlaa
