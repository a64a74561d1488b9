/- Floats stand in one line, the NaNs ahead of all. -/
import Derived.Test.YtoonhcmeklmnlaaFlt
set_option linter.unusedSimpArgs false
set_option linter.unusedVariables false
set_option linter.unnecessarySimpa false
namespace Go.St
open Ieee

/-- a datum's place in the line (of those that a word of 64 bits tells) -/
def key : Datum → Int
  | .number s m i => signed s m (i + 1074).toNat
  | .infinity s => if s then -(2 ^ 3000 : Nat) else (2 ^ 3000 : Nat)
  | .nan _ _ => 0
def fkey (a : Nat) : Int := key (double.read a)

def Fine : Datum → Prop
  | .number _ m i => -1074 ≤ i ∧ i ≤ 1000 ∧ m < 2 ^ 53
  | _ => True

theorem signed_mul (s : Bool) (m a b : Nat) : signed s m (a + b) = signed s m a * (2 ^ b : Nat) := by
  unfold signed
  cases s <;> simp [Nat.shiftLeft_eq, Nat.pow_add, Int.mul_assoc, Int.neg_mul]

theorem compare_mul (a b : Int) (c : Nat) (hc : 0 < c) : compare (a * c) (b * c) = compare a b := by
  have h1 : (a * c < b * c) ↔ a < b := Int.mul_lt_mul_right (by omega)
  have h2 : (a * c = b * c) ↔ a = b := ⟨fun h => Int.eq_of_mul_eq_mul_right (by omega) h, fun h => by rw [h]⟩
  simp only [compare, compareOfLessAndEq, h1, h2]

theorem read_fine (a : Nat) : Fine (double.read a) := by
  unfold Format.read
  have e1 : double.signWeight = 2 ^ 63 := rfl
  have e2 : double.binade = 2 ^ 52 := rfl
  have e3 : double.infRung = 2047 * 2 ^ 52 := by decide
  have e4 : double.leastPlace = -1074 := by decide
  simp only [e1, e2, e3, e4]
  split
  · simp only [Fine]; omega
  · split
    · simp only [Fine]
      omega
    · split <;> trivial

set_option exponentiation.threshold 4000 in
theorem key_lt {d : Datum} (h : Fine d) : -(2 ^ 3000 : Nat) ≤ key d ∧ key d ≤ (2 ^ 3000 : Nat) ∧ ((∃ s m i, d = .number s m i) → -(2 ^ 3000 : Nat) < key d ∧ key d < (2 ^ 3000 : Nat)) := by
  cases d with
  | number s m i =>
    obtain ⟨h1, h2, h3⟩ := h
    have hb : m <<< (i + 1074).toNat < 2 ^ 3000 := by
      rw [Nat.shiftLeft_eq]
      calc m * 2 ^ (i + 1074).toNat ≤ m * 2 ^ 2074 := Nat.mul_le_mul_left _ (Nat.pow_le_pow_right (by omega) (by omega))
        _ < 2 ^ 53 * 2 ^ 2074 := Nat.mul_lt_mul_of_pos_right h3 (Nat.two_pow_pos _)
        _ = 2 ^ (53 + 2074) := by rw [← Nat.pow_add]
        _ ≤ 2 ^ 3000 := Nat.pow_le_pow_right (by omega) (by omega)
    generalize 2 ^ 3000 = B at *
    generalize hq : m <<< (i + 1074).toNat = q at *
    simp only [key, signed, hq]
    cases s <;> simp <;> omega
  | infinity s =>
    generalize hB : 2 ^ 3000 = B
    refine ⟨?_, ?_, fun ⟨s', m, i, h⟩ => by cases h⟩ <;> simp only [key, hB] <;> cases s <;> simp <;> omega
  | nan s f =>
    generalize hB : 2 ^ 3000 = B
    refine ⟨?_, ?_, fun ⟨s', m, i, h⟩ => by cases h⟩ <;> simp only [key] <;> omega

theorem order_key {d e : Datum} (hd : Fine d) (he : Fine e) : d.order e = if d.isNaN || e.isNaN then none else some (compare (key d) (key e)) := by
  cases d with
  | nan s f => simp [Datum.order, Datum.isNaN]
  | infinity s =>
    cases e with
    | nan t g => simp [Datum.order, Datum.isNaN]
    | infinity t =>
      have hB : (0 : Int) < (2 ^ 3000 : Nat) := by have := Nat.two_pow_pos 3000; omega
      simp only [Datum.order, Datum.isNaN, key]
      generalize ((2 ^ 3000 : Nat) : Int) = B at *
      have k1 : compare (-B) B = .lt := by simp only [compare, compareOfLessAndEq]; rw [if_pos (by omega)]
      have k2 : compare B (-B) = .gt := by simp only [compare, compareOfLessAndEq]; rw [if_neg (by omega), if_neg (by omega)]
      have k3 : ∀ x : Int, compare x x = .eq := fun x => by simp [compare, compareOfLessAndEq]
      cases s <;> cases t <;> simp [k1, k2, k3] <;> decide
    | number t n j =>
      have h2 := (key_lt he).2.2 ⟨_, _, _, rfl⟩
      simp only [Datum.order, Datum.isNaN]
      generalize key (.number t n j) = q at *
      simp only [key]
      generalize ((2 ^ 3000 : Nat) : Int) = B at *
      cases s
      · simp [compare, compareOfLessAndEq]
        rw [if_neg (by omega), if_neg (by omega)]
      · simp [compare, compareOfLessAndEq]
        omega
  | number s m i =>
    cases e with
    | nan t g => simp [Datum.order, Datum.isNaN]
    | infinity t =>
      have h2 := (key_lt hd).2.2 ⟨_, _, _, rfl⟩
      simp only [Datum.order, Datum.isNaN]
      generalize key (.number s m i) = q at *
      simp only [key]
      generalize ((2 ^ 3000 : Nat) : Int) = B at *
      cases t
      · simp [compare, compareOfLessAndEq]
        omega
      · simp [compare, compareOfLessAndEq]
        rw [if_neg (by omega), if_neg (by omega)]
    | number t n j =>
      obtain ⟨h1, _, _⟩ := hd
      obtain ⟨h2, _, _⟩ := he
      simp only [Datum.order, Datum.isNaN, key]
      simp only [Bool.or_self, Bool.false_eq_true, if_false, Option.some.injEq]
      have e1 : (i + 1074).toNat = (i - min i j).toNat + (min i j + 1074).toNat := by omega
      have e2 : (j + 1074).toNat = (j - min i j).toNat + (min i j + 1074).toNat := by omega
      rw [e1, e2, signed_mul, signed_mul, compare_mul _ _ _ (Nat.two_pow_pos _)]

theorem ford_key (a b : Nat) : ford a b = if fnan a || fnan b then none else some (compare (fkey a) (fkey b)) := by
  rw [fnan_iff, fnan_iff]
  exact order_key (read_fine a) (read_fine b)

theorem fOrd_key (a b : Nat) : fOrd a b = if fnan a = true then (if fnan b = true then 0 else -1) else if fnan b = true then 1 else if fkey a < fkey b then -1 else if fkey b < fkey a then 1 else 0 := by
  unfold fOrd
  cases ha : fnan a <;> cases hb : fnan b <;> simp [ford_key, ha, hb]
  simp only [compare, compareOfLessAndEq]
  split
  · rename_i h
    simp [h]
  · rename_i h
    split
    · rename_i h2; simp [h2]
    · rename_i h2
      have : fkey b < fkey a := by omega
      simp [this]

theorem fOrd_rev (a b : Nat) : fOrd b a = - fOrd a b := by
  simp only [fOrd_key]
  (repeat' split) <;> omega
theorem fOrd_self (a : Nat) : fOrd a a = 0 := by
  simp only [fOrd_key]
  (repeat' split) <;> omega
theorem fOrd_tri (a b : Nat) : fOrd a b = -1 ∨ fOrd a b = 0 ∨ fOrd a b = 1 := by
  simp only [fOrd_key]
  (repeat' split) <;> omega
theorem fOrd_trans (a b c : Nat) (h1 : fOrd a b ≤ 0) (h2 : fOrd b c ≤ 0) : fOrd a c ≤ 0 ∧ (fOrd b c < 0 → fOrd a c < 0) ∧ (fOrd a b < 0 → fOrd a c < 0) := by
  simp only [fOrd_key] at *
  cases ha : fnan a <;> cases hb : fnan b <;> cases hc : fnan c <;> simp only [ha, hb, hc, Bool.false_eq_true, if_false, if_true] at * <;>
    (repeat' split at h1) <;> (repeat' split at h2) <;> (repeat' split) <;> omega
end Go.St
