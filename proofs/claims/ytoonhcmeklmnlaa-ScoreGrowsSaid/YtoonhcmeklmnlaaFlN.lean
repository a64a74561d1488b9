/- Quotients of floats: less than one; their order by words; a count over a number. -/
import Derived.Test.YtoonhcmeklmnlaaFlM
import Derived.Test.YtoonhcmeklmnlaaFltO
import Derived.Laws.Cover2
set_option linter.unusedSimpArgs false
set_option linter.unusedVariables false
set_option linter.unnecessarySimpa false
namespace Go.St
open Ieee

theorem less_core {Y X T : Nat} (h3 : X = 9007199254740992 * T) (hlt : Y < X) (hgap : X < 18014398509481984 * (X - Y)) (h1 : 18014398509481983 * T ≤ 2 * Y) : False := by
  omega
theorem pow_shift (tn S k : Nat) : tn * 2 ^ (S + k) = 2 ^ k * (tn * 2 ^ S) := by
  rw [Nat.pow_add, ← Nat.mul_assoc, Nat.mul_comm]
theorem p53 : (2 : Nat) ^ 53 = 9007199254740992 := by decide
/-- where it is less, by more than half a unit -/
theorem q_less {n tn C r E S a : Nat} {j last : Int} (ht : 0 < tn) (h : QR n tn j C r E S last) (ha : (a : Int) = j + C) (hlt : n * 2 ^ C < tn * 2 ^ a) (hgap : tn * 2 ^ a < 18014398509481984 * (tn * 2 ^ a - n * 2 ^ C)) : r < fone := by
  have hE : E < a := by
    have h1 : 2 ^ E * tn < 2 ^ a * tn := Nat.lt_of_le_of_lt h.e1 (by rw [Nat.mul_comm (2 ^ a)]; exact hlt)
    exact (Nat.pow_lt_pow_iff_right (a := 2) (by decide)).1 (Nat.lt_of_mul_lt_mul_right h1)
  have hl : last ≤ -53 := by have := h.l; omega
  have hl0 : -1074 ≤ last := by have := h.l; omega
  have hk := h.kept ht
  have hs := h.s
  rw [h.r]
  refine Nat.lt_of_le_of_lt (Nat.min_le_left _ _) ?_
  unfold fone
  by_cases e : last = -53
  · have hS : a = S + 53 := by omega
    obtain ⟨k, hk1, hk2⟩ : ∃ k : Nat, k + 1 = 9007199254740992 ∧ 2 * k + 1 = 18014398509481983 := ⟨9007199254740991, rfl, rfl⟩
    have hno : ¬ k + 1 ≤ rne (n * 2 ^ C) (tn * 2 ^ S) := by
      intro hh
      have hg : 0 < tn * 2 ^ S := Nat.mul_pos ht (Nat.two_pow_pos _)
      have h1 := (rne_ge hg).1 hh
      rw [hk2] at h1
      have h2 : 18014398509481983 * (tn * 2 ^ S) ≤ 2 * (n * 2 ^ C) := by
        rcases h1 with h1 | ⟨h1, _⟩
        · exact Nat.le_of_lt h1
        · exact Nat.le_of_eq h1
      have e3 : tn * 2 ^ a = 9007199254740992 * (tn * 2 ^ S) := by
        rw [hS, pow_shift, p53]
      exact less_core e3 hlt hgap h2
    rw [hk1] at hno
    have e2 : (last + 1074).toNat = 1021 := by omega
    rw [e2]
    omega
  · have e2 : (last + 1074).toNat ≤ 1020 := by omega
    omega

/-! ### words by their order -/
def kw (r : Nat) : Nat := if r < 4503599627370496 then r else (4503599627370496 + r % 4503599627370496) * 2 ^ (r / 4503599627370496 - 1)
theorem kw_mono {r r' : Nat} (h : r < r') : kw r < kw r' := by
  unfold kw
  by_cases h1 : r' < 4503599627370496
  · rw [if_pos (by omega), if_pos h1]; exact h
  · rw [if_neg h1]
    have hp := Nat.two_pow_pos (r' / 4503599627370496 - 1)
    by_cases h2 : r < 4503599627370496
    · rw [if_pos h2]
      have h3 : 4503599627370496 + r' % 4503599627370496 ≤ (4503599627370496 + r' % 4503599627370496) * 2 ^ (r' / 4503599627370496 - 1) := Nat.le_mul_of_pos_right _ hp
      omega
    · rw [if_neg h2]
      by_cases h3 : r / 4503599627370496 = r' / 4503599627370496
      · rw [h3]
        exact Nat.mul_lt_mul_of_pos_right (by omega) hp
      · have h4 : r / 4503599627370496 < r' / 4503599627370496 := by omega
        have h5 : 1 ≤ r / 4503599627370496 := by omega
        have h6 : r % 4503599627370496 < 4503599627370496 := Nat.mod_lt _ (by decide)
        generalize r / 4503599627370496 = q at *
        generalize r' / 4503599627370496 = q' at *
        generalize r % 4503599627370496 = x at *
        generalize r' % 4503599627370496 = x' at *
        obtain ⟨q0, rfl⟩ : ∃ q0, q = q0 + 1 := ⟨q - 1, by omega⟩
        have e1 : q0 + 1 - 1 = q0 := by omega
        rw [e1]
        have h7 : 2 ^ (q0 + 1) ≤ 2 ^ (q' - 1) := Nat.pow_le_pow_right (by decide) (by omega)
        rw [Nat.pow_succ] at h7
        generalize 2 ^ (q' - 1) = Z at *
        have hz := Nat.two_pow_pos q0
        generalize 2 ^ q0 = Y at *
        have h8 : (4503599627370496 + x) * Y < (4503599627370496 * 2) * Y := Nat.mul_lt_mul_of_pos_right (by omega) hz
        have h9 : 4503599627370496 * Z ≤ (4503599627370496 + x') * Z := Nat.mul_le_mul_right _ (by omega)
        omega
theorem read_pos {r : Nat} (h : r < 9218868437227405312) : Ieee.double.read r = if r < 4503599627370496 then .number false r (-1074) else .number false (4503599627370496 + r % 4503599627370496) (-1074 + (r / 4503599627370496 - 1 : Nat)) := by
  unfold Ieee.Format.read
  have e1 : Ieee.double.signWeight = 9223372036854775808 := by decide
  have e2 : Ieee.double.binade = 4503599627370496 := by decide
  have e3 : Ieee.double.infRung = 9218868437227405312 := by decide
  have e4 : Ieee.double.leastPlace = -1074 := by decide
  simp only [e1, e2, e3, e4]
  have h1 : r / 9223372036854775808 % 2 = 0 := by omega
  have h2 : r % 9223372036854775808 = r := by omega
  rw [h1, h2, if_pos h]
  rfl
theorem read_inf : Ieee.double.read 9218868437227405312 = .infinity false := by decide
theorem fkey_fin {r : Nat} (h : r < 9218868437227405312) : fkey r = (kw r : Int) := by
  unfold fkey kw
  rw [read_pos h]
  split
  · simp [key, signed]
  · simp only [key, signed, Bool.false_eq_true, if_false, Nat.shiftLeft_eq]
    rw [show (-1074 + ((r / 4503599627370496 - 1 : Nat) : Int) + 1074).toNat = r / 4503599627370496 - 1 by omega]
theorem fnan_pos {r : Nat} (h : r ≤ 9218868437227405312) : fnan r = false := by
  rw [fnan_iff]
  by_cases h1 : r = 9218868437227405312
  · rw [h1, read_inf]; rfl
  · rw [read_pos (by omega)]
    split <;> rfl
theorem fkey_mono {r r' : Nat} (h : r < r') (h' : r' ≤ 9218868437227405312) : fkey r < fkey r' := by
  by_cases h1 : r' = 9218868437227405312
  · subst h1
    have h2 : fkey 9218868437227405312 = (2 ^ 3000 : Nat) := by
      unfold fkey
      rw [read_inf]
      rfl
    rw [h2]
    refine ((key_lt (read_fine r)).2.2 ?_).2
    rw [read_pos (by omega)]
    split <;> exact ⟨_, _, _, rfl⟩
  · rw [fkey_fin (by omega), fkey_fin (by omega)]
    have := kw_mono h
    omega
theorem fOrd_pos {r r' : Nat} (h : r ≤ 9218868437227405312) (h' : r' ≤ 9218868437227405312) : fOrd r r' = if r < r' then -1 else if r' < r then 1 else 0 := by
  rw [fOrd_key, fnan_pos h, fnan_pos h']
  rcases Nat.lt_trichotomy r r' with h1 | h1 | h1
  · rw [if_neg (by decide), if_neg (by decide), if_pos (fkey_mono h1 h'), if_pos h1]
  · subst h1
    rw [if_neg (by decide), if_neg (by decide), if_neg (by omega), if_neg (by omega), if_neg (by omega), if_neg (by omega)]
  · have := fkey_mono h1 h
    rw [if_neg (by decide), if_neg (by decide), if_neg (by omega), if_pos this, if_neg (by omega), if_pos h1]

/-! ### a whole number as a float -/
/-- a positive float: a number or the endless one -/
inductive Pos (t : Nat) : Prop
  | num (tn : Nat) (j : Int) : 0 < tn → tn < 9007199254740992 → -1074 ≤ j → Ieee.double.read t = .number false tn j → Pos t
  | inf : Ieee.double.read t = .infinity false → Pos t
theorem float_zero : floatOfInt .f64 0 = 0 := by decide
theorem nearest_whole {n : Nat} (hn : 0 < n) (hl : n.log2 ≤ 52) : floatOfInt .f64 (n : Int) = (n.log2 + 1022) * 4503599627370496 + n * 2 ^ (52 - n.log2) := by
  show Ieee.double.nearest (decide ((n : Int) < 0)) (n : Int).natAbs 0 = _
  have e0 : decide ((n : Int) < 0) = false := decide_eq_false (by omega)
  rw [e0, Int.natAbs_natCast]
  unfold Ieee.Format.nearest
  rw [if_neg (by omega)]
  have hw : ∀ x, Ieee.double.word false x = x := fun x => rfl
  have hfb : Ieee.double.fractionBits = 52 := rfl
  have hlp : Ieee.double.leastPlace = -1074 := by decide
  have hbi : Ieee.double.binade = 4503599627370496 := by decide
  have hir : Ieee.double.infRung = 9218868437227405312 := by decide
  simp only [hw, hfb, hlp, hbi, hir]
  have el : max (0 + (n.log2 : Int) - ((52 : Nat) : Int)) (-1074) = (n.log2 : Int) - 52 := by omega
  rw [el]
  have e1 : (0 - ((n.log2 : Int) - 52)).toNat = 52 - n.log2 := by omega
  have e2 : ((n.log2 : Int) - 52 - 0).toNat = 0 := by omega
  have e3 : ((n.log2 : Int) - 52 - -1074).toNat = n.log2 + 1022 := by omega
  rw [e1, e2, e3, cut_rne, Nat.shiftLeft_eq]
  have e4 : rne (n * 2 ^ (52 - n.log2)) (2 ^ 0) = n * 2 ^ (52 - n.log2) := by
    unfold rne
    simp
    omega
  rw [e4]
  refine Nat.min_eq_left ?_
  have h1 : n * 2 ^ (52 - n.log2) < 2 ^ (n.log2 + 1) * 2 ^ (52 - n.log2) := Nat.mul_lt_mul_of_pos_right (lt_two_log n) (Nat.two_pow_pos _)
  rw [← Nat.pow_add, show n.log2 + 1 + (52 - n.log2) = 53 by omega, p53] at h1
  omega
theorem whole_log {n : Nat} (hn : 0 < n) (hl : n.log2 ≤ 52) : 4503599627370496 ≤ n * 2 ^ (52 - n.log2) ∧ n * 2 ^ (52 - n.log2) < 9007199254740992 := by
  constructor
  · have h1 : 2 ^ n.log2 * 2 ^ (52 - n.log2) ≤ n * 2 ^ (52 - n.log2) := Nat.mul_le_mul_right _ (two_log_le hn)
    rw [← Nat.pow_add, show n.log2 + (52 - n.log2) = 52 by omega, show (2 : Nat) ^ 52 = 4503599627370496 by decide] at h1
    exact h1
  · have h1 : n * 2 ^ (52 - n.log2) < 2 ^ (n.log2 + 1) * 2 ^ (52 - n.log2) := Nat.mul_lt_mul_of_pos_right (lt_two_log n) (Nat.two_pow_pos _)
    rw [← Nat.pow_add, show n.log2 + 1 + (52 - n.log2) = 53 by omega, p53] at h1
    exact h1
theorem read_whole {n : Nat} (hn : 0 < n) (hl : n.log2 ≤ 52) : Ieee.double.read (floatOfInt .f64 (n : Int)) = .number false (n * 2 ^ (52 - n.log2)) ((n.log2 : Int) - 52) := by
  obtain ⟨h1, h2⟩ := whole_log hn hl
  rw [nearest_whole hn hl]
  generalize n * 2 ^ (52 - n.log2) = m at *
  rw [read_pos (by omega), if_neg (by omega)]
  have e1 : ((n.log2 + 1022) * 4503599627370496 + m) % 4503599627370496 = m - 4503599627370496 := by omega
  have e2 : ((n.log2 + 1022) * 4503599627370496 + m) / 4503599627370496 = n.log2 + 1023 := by omega
  have e3 : 4503599627370496 + (m - 4503599627370496) = m := by omega
  have e4 : (-1074 + ((n.log2 + 1023 - 1 : Nat) : Int)) = (n.log2 : Int) - 52 := by omega
  rw [e1, e2, e3, e4]
theorem log_lt {n : Nat} (h : n < 9007199254740992) : n.log2 ≤ 52 := by
  by_cases h0 : n = 0
  · subst h0; decide
  · have := (Nat.log2_lt h0 (k := 53)).2 (by rw [p53]; exact h)
    omega
/-- what a count over a positive number is -/
def Quo (n t r : Nat) : Prop :=
  (n = 0 ∧ r = 0) ∨ (Ieee.double.read t = .infinity false ∧ r = 0) ∨
    (0 < n ∧ ∃ tn j, 0 < tn ∧ tn < 9007199254740992 ∧ -1074 ≤ j ∧ Ieee.double.read t = .number false tn j ∧ ∃ E S last, QR n tn j (54 + tn.log2) r E S last)
theorem quo_of {n t r : Nat} (hn : n < 9007199254740992) (ht : Pos t) (h : FQ (floatOfInt .f64 (n : Int)) t r) : Quo n t r := by
  have hl := log_lt hn
  have hw : ∀ x, Ieee.double.word false x = x := fun x => rfl
  have hz : ∀ i, Ieee.double.nearest false 0 i = 0 := fun i => by unfold Ieee.Format.nearest; rw [if_pos rfl]; rfl
  by_cases h0 : n = 0
  · left
    refine ⟨h0, ?_⟩
    subst h0
    have e0 : floatOfInt .f64 ((0 : Nat) : Int) = 0 := float_zero
    rw [e0] at h
    unfold FQ Ieee.Format.div at h
    have e1 : Ieee.double.read 0 = .number false 0 (-1074) := by decide
    rw [e1] at h
    cases ht with
    | inf hr =>
      rw [hr] at h
      simp only [Ieee.Datum.quotient, Option.map_some, Ieee.Format.write, Bool.xor_false, hz] at h
      exact h
    | num tn j h1 h2 h3 hr =>
      rw [hr] at h
      simp only [Ieee.Datum.quotient, Option.map_some, Ieee.Format.write, Bool.xor_false] at h
      rw [if_neg (by omega)] at h
      simp only [Option.map_some, Nat.zero_shiftLeft, Nat.zero_div, Nat.zero_mod, Ieee.Format.write, Bool.xor_false] at h
      have e2 : (2 * 0 + ((0 : Nat) != 0).toNat) = 0 := rfl
      rw [e2, hz] at h
      exact h
  · have hn0 : 0 < n := by omega
    have hr0 := read_whole hn0 hl
    unfold FQ Ieee.Format.div at h
    rw [hr0] at h
    cases ht with
    | inf hr =>
      right; left
      rw [hr] at h
      simp only [Ieee.Datum.quotient, Option.map_some, Ieee.Format.write, Bool.xor_false, hz] at h
      exact ⟨hr, h⟩
    | num tn j h1 h2 h3 hr =>
      right; right
      refine ⟨hn0, tn, j, h1, h2, h3, hr, ?_⟩
      rw [hr] at h
      simp only [Ieee.Datum.quotient] at h
      rw [if_neg (by omega)] at h
      obtain ⟨w1, w2⟩ := whole_log hn0 hl
      have hm2 : (n * 2 ^ (52 - n.log2)).log2 = 52 := log_uniq (by rw [show (2 : Nat) ^ 52 = 4503599627370496 by decide]; exact w1) (by rw [p53]; exact w2)
      simp only [Option.map_some, Ieee.Format.write, Bool.xor_false, hm2] at h
      have e1 : Ieee.double.fractionBits + 2 + tn.log2 - 52 = 2 + tn.log2 := by
        have : Ieee.double.fractionBits = 52 := rfl
        omega
      rw [e1] at h
      rw [h]
      exact q_round hn0 h1 rfl hl hm2
theorem Quo.inf {n t r : Nat} (h : Quo n t r) : r ≤ 9218868437227405312 := by
  rcases h with ⟨_, h⟩ | ⟨_, h⟩ | ⟨_, _, _, _, _, _, _, _, _, _, h⟩
  · omega
  · omega
  · exact h.inf
theorem quo_mono {n n' t r r' : Nat} (hn : n ≤ n') (h : Quo n t r) (h' : Quo n' t r') : r ≤ r' := by
  rcases h with ⟨_, h⟩ | ⟨_, h⟩ | ⟨hn0, tn, j, h1, h2, h3, hr, E, S, last, h⟩
  · omega
  · omega
  · rcases h' with ⟨h4, _⟩ | ⟨h4, _⟩ | ⟨_, tn', j', h1', _, _, hr', E', S', last', h'⟩
    · omega
    · rw [hr] at h4; cases h4
    · rw [hr] at hr'
      simp only [Ieee.Datum.number.injEq, true_and] at hr'
      obtain ⟨rfl, rfl⟩ := hr'
      exact q_mono h1 h h' hn
/-- with more no level is less full -/
theorem quo_grows {n n' t r r' : Nat} (hn : n ≤ n') (hb : n' < 9007199254740992) (ht : Pos t) (h : FQ (floatOfInt .f64 (n : Int)) t r) (h' : FQ (floatOfInt .f64 (n' : Int)) t r') : ¬ fOrd r' r < 0 := by
  have q := quo_of (by omega) ht h
  have q' := quo_of hb ht h'
  have := quo_mono hn q q'
  rw [fOrd_pos q'.inf q.inf, if_neg (by omega)]
  split <;> decide

/-! ### one and more -/
theorem compare_int (a b : Int) : compare a b = if a < b then .lt else if a = b then .eq else .gt := by
  simp only [compare, compareOfLessAndEq]
theorem ford_ge {a b : Nat} (ha : fnan a = false) (hb : fnan b = false) : (ford a b == some .gt || ford a b == some .eq) = decide (fkey b ≤ fkey a) := by
  rw [ford_key, ha, hb]
  simp only [Bool.or_self, Bool.false_eq_true, if_false, compare_int]
  by_cases h1 : fkey a < fkey b
  · rw [if_pos h1, decide_eq_false (by omega)]; rfl
  · rw [if_neg h1, decide_eq_true (by omega)]
    by_cases h2 : fkey a = fkey b
    · rw [if_pos h2]; rfl
    · rw [if_neg h2]; rfl
theorem ford_nan {a b : Nat} (h : (ford a b == some .gt || ford a b == some .eq) = true) : fnan a = false ∧ fnan b = false := by
  rw [ford_key] at h
  cases ha : fnan a <;> cases hb : fnan b <;> rw [ha, hb] at h <;> simp at h
  exact ⟨rfl, rfl⟩
theorem pos_key {t : Nat} (hn : fnan t = false) (h : 0 < fkey t) : Pos t := by
  have hf := read_fine t
  unfold fkey at h
  rw [fnan_iff] at hn
  cases hr : Ieee.double.read t with
  | nan s f => rw [hr] at hn; cases hn
  | infinity s =>
    cases s with
    | false => exact .inf hr
    | true =>
      rw [hr] at h
      simp only [key, if_true] at h
      have := Nat.two_pow_pos 3000
      omega
  | number s m i =>
    rw [hr] at h hf
    obtain ⟨f1, f2, f3⟩ := hf
    rw [p53] at f3
    simp only [key, signed] at h
    cases s with
    | true =>
      simp only [if_true] at h
      generalize m <<< (i + 1074).toNat = X at h
      omega
    | false =>
      simp only [Bool.false_eq_true, if_false] at h
      refine .num m i ?_ f3 f1 hr
      rcases Nat.eq_zero_or_pos m with h0 | h0
      · subst h0; rw [Nat.zero_shiftLeft] at h; omega
      · exact h0
theorem fkey_zero : fkey 0 = 0 := by rw [fkey_fin (by decide)]; rfl
theorem pos_of {t : Nat} (h : (ford t 0 == some .gt) = true) : Pos t := by
  have hn := ford_nan (a := t) (b := 0) (by rw [h]; rfl)
  refine pos_key hn.1 ?_
  rw [ford_key, hn.1, hn.2] at h
  simp only [Bool.or_self, Bool.false_eq_true, if_false, compare_int, fkey_zero] at h
  by_cases h1 : fkey t < 0
  · rw [if_pos h1] at h; cases h
  · by_cases h2 : fkey t = 0
    · rw [if_neg h1, if_pos h2] at h; cases h
    · omega
set_option exponentiation.threshold 4000 in
theorem fkey_one : fkey fone = ((2 ^ 1074 : Nat) : Int) := by
  rw [fkey_fin (by decide)]
  have : kw fone = 4503599627370496 * 2 ^ 1022 := by
    unfold kw fone
    rw [if_neg (by decide)]
  rw [this, show (4503599627370496 : Nat) = 2 ^ 52 by decide, ← Nat.pow_add]
set_option exponentiation.threshold 4000 in
theorem fkey_whole {n : Nat} (hn : n < 9007199254740992) : fnan (floatOfInt .f64 (n : Int)) = false ∧ fkey (floatOfInt .f64 (n : Int)) = ((n * 2 ^ 1074 : Nat) : Int) := by
  rcases Nat.eq_zero_or_pos n with h0 | h0
  · subst h0
    have e0 : floatOfInt .f64 ((0 : Nat) : Int) = 0 := float_zero
    rw [e0]
    exact ⟨fnan_pos (by decide), by rw [fkey_zero, Nat.zero_mul]; rfl⟩
  · have hr := read_whole h0 (log_lt hn)
    refine ⟨by rw [fnan_iff, hr]; rfl, ?_⟩
    unfold fkey
    rw [hr]
    simp only [key, signed, Bool.false_eq_true, if_false, Nat.shiftLeft_eq]
    have hl := log_lt hn
    rw [show ((n.log2 : Int) - 52 + 1074).toNat = n.log2 + 1022 by omega, Nat.mul_assoc, ← Nat.pow_add, show 52 - n.log2 + (n.log2 + 1022) = 1074 by omega]
theorem gap_ok {n tn C a : Nat} {j : Int} (hn : n < 9007199254740992) (h2 : tn < 9007199254740992) (ha : (a : Int) = j + C) (hlt : n * 2 ^ C < tn * 2 ^ a) : tn * 2 ^ a < 18014398509481984 * (tn * 2 ^ a - n * 2 ^ C) := by
  by_cases hj : j ≤ 0
  · obtain ⟨d, hd⟩ : ∃ d, C = d + a := ⟨C - a, by omega⟩
    subst hd
    rw [Nat.pow_add, ← Nat.mul_assoc] at hlt ⊢
    have h3 := Nat.lt_of_mul_lt_mul_right hlt
    have h4 : (n * 2 ^ d + 1) * 2 ^ a ≤ tn * 2 ^ a := Nat.mul_le_mul_right _ h3
    have h5 : tn * 2 ^ a < 9007199254740992 * 2 ^ a := Nat.mul_lt_mul_of_pos_right h2 (Nat.two_pow_pos _)
    rw [Nat.add_mul] at h4
    generalize tn * 2 ^ a = X at *
    generalize n * 2 ^ d * 2 ^ a = Y at *
    generalize 2 ^ a = A at *
    omega
  · obtain ⟨d, hd⟩ : ∃ d, a = d + C := ⟨a - C, by omega⟩
    subst hd
    rw [Nat.pow_add, ← Nat.mul_assoc] at hlt ⊢
    have h3 := Nat.lt_of_mul_lt_mul_right hlt
    rw [← Nat.sub_mul, ← Nat.mul_assoc]
    refine Nat.mul_lt_mul_of_pos_right ?_ (Nat.two_pow_pos _)
    generalize tn * 2 ^ d = U at *
    omega
set_option exponentiation.threshold 4000 in
theorem quo_one {n t r : Nat} (hn : n < 9007199254740992) (h1 : (ford t fone == some .gt || ford t fone == some .eq) = true) (h : FQ (floatOfInt .f64 (n : Int)) t r) :
    decide (0 ≤ fOrd r fone) = (ford (floatOfInt .f64 (n : Int)) t == some .gt || ford (floatOfInt .f64 (n : Int)) t == some .eq) := by
  obtain ⟨n1, n2⟩ := ford_nan h1
  rw [ford_ge n1 n2, decide_eq_true_eq, fkey_one] at h1
  have hp1 := Nat.two_pow_pos 1074
  have hP := pos_key n1 (by omega)
  have hq := quo_of hn hP h
  obtain ⟨m1, m2⟩ := fkey_whole hn
  have hone : fone ≤ 9218868437227405312 := by decide
  rw [ford_ge m1 n1, m2, fOrd_pos hq.inf hone]
  have hz : r = 0 → decide ((0 : Int) ≤ if r < fone then -1 else if fone < r then 1 else 0) = false := fun e => by
    subst e
    rw [if_pos (by decide)]
    rfl
  rcases hq with ⟨h0, hr⟩ | ⟨hi, hr⟩ | ⟨hn0, tn, j, t1, t2, t3, hr, E, S, last, hQ⟩
  · rw [hz hr]
    symm
    refine decide_eq_false ?_
    subst h0
    rw [Nat.zero_mul]
    omega
  · rw [hz hr]
    symm
    refine decide_eq_false ?_
    have h3 : fkey t = ((2 ^ 3000 : Nat) : Int) := by
      unfold fkey
      rw [hi]
      rfl
    rw [h3]
    have h4 : n * 2 ^ 1074 < 9007199254740992 * 2 ^ 1074 := Nat.mul_lt_mul_of_pos_right hn (Nat.two_pow_pos _)
    rw [← p53, ← Nat.pow_add] at h4
    have h5 : 2 ^ (53 + 1074) ≤ 2 ^ 3000 := Nat.pow_le_pow_right (by decide) (by decide)
    generalize 2 ^ 3000 = A at *
    generalize 2 ^ (53 + 1074) = B at *
    generalize n * 2 ^ 1074 = D at *
    omega
  · have hk : fkey t = ((tn * 2 ^ (j + 1074).toNat : Nat) : Int) := by
      unfold fkey
      rw [hr]
      simp only [key, signed, Bool.false_eq_true, if_false, Nat.shiftLeft_eq]
    rw [hk] at h1 ⊢
    have hlo : 2 ^ 1074 ≤ tn * 2 ^ (j + 1074).toNat := by omega
    obtain ⟨J, hJ, hJ2⟩ : ∃ J : Nat, J = (j + 1074).toNat ∧ (J : Int) = j + 1074 := ⟨_, rfl, by omega⟩
    rw [← hJ] at hlo ⊢
    have ha : 1074 < tn.log2 + 1 + J := by
      have h3 := Nat.mul_lt_mul_of_pos_right (lt_two_log tn) (Nat.two_pow_pos J)
      rw [← Nat.pow_add] at h3
      exact (Nat.pow_lt_pow_iff_right (a := 2) (by decide)).1 (Nat.lt_of_le_of_lt hlo h3)
    obtain ⟨a, ha2⟩ : ∃ a : Nat, (a : Int) = j + (54 + tn.log2 : Nat) := ⟨(j + (54 + tn.log2 : Nat)).toNat, by omega⟩
    have hiff : tn * 2 ^ J ≤ n * 2 ^ 1074 ↔ tn * 2 ^ a ≤ n * 2 ^ (54 + tn.log2) := by
      have e1 : tn * 2 ^ J * 2 ^ (54 + tn.log2) = tn * 2 ^ a * 2 ^ 1074 := by
        rw [Nat.mul_assoc, ← Nat.pow_add, Nat.mul_assoc, ← Nat.pow_add]
        congr 2
        omega
      have e2 : n * 2 ^ 1074 * 2 ^ (54 + tn.log2) = n * 2 ^ (54 + tn.log2) * 2 ^ 1074 := Nat.mul_right_comm _ _ _
      constructor
      · intro hh
        have h3 := Nat.mul_le_mul_right (2 ^ (54 + tn.log2)) hh
        rw [e1, e2] at h3
        exact Nat.le_of_mul_le_mul_right h3 hp1
      · intro hh
        have h3 := Nat.mul_le_mul_right (2 ^ 1074) hh
        rw [← e1, ← e2] at h3
        exact Nat.le_of_mul_le_mul_right h3 (Nat.two_pow_pos _)
    by_cases hge : tn * 2 ^ a ≤ n * 2 ^ (54 + tn.log2)
    · have hr2 := q_full t1 hQ ha2 hge
      have h6 : tn * 2 ^ J ≤ n * 2 ^ 1074 := hiff.2 hge
      rw [decide_eq_true (show ((tn * 2 ^ J : Nat) : Int) ≤ ((n * 2 ^ 1074 : Nat) : Int) from Int.ofNat_le.2 h6)]
      refine decide_eq_true ?_
      rw [if_neg (by omega)]
      split <;> decide
    · have hr2 := q_less t1 hQ ha2 (by omega) (gap_ok hn t2 ha2 (by omega))
      have h6 : ¬ tn * 2 ^ J ≤ n * 2 ^ 1074 := fun h7 => hge (hiff.1 h7)
      rw [decide_eq_false (show ¬ ((tn * 2 ^ J : Nat) : Int) ≤ ((n * 2 ^ 1074 : Nat) : Int) from fun h7 => h6 (Int.ofNat_le.1 h7))]
      refine decide_eq_false ?_
      rw [if_pos hr2]
      decide
end Go.St
