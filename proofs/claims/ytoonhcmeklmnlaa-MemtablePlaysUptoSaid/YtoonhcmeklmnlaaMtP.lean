/- The order of the texts by which a table's keys stand: the plain part. -/
import Derived.Test.YtoonhcmeklmnlaaMt4
set_option linter.unusedSimpArgs false
set_option linter.unusedVariables false
set_option linter.unnecessarySimpa false
namespace Go.Proofs.Ytoonhcmeklmnlaa
open Go.RowKit Go.Rg Go.St

theorem bl_cons (a b : UInt8) (x y : List UInt8) : Op.bytesLess (a :: x) (b :: y) = (decide (a < b) || (a == b && Op.bytesLess x y)) := rfl
theorem u8_zero_lt {c : UInt8} (h : c ≠ 0) : (0 : UInt8) < c := by
  rw [UInt8.lt_iff_toNat_lt]
  have : c.toNat ≠ 0 := fun e => h (UInt8.toNat_inj.1 (by simpa using e))
  show 0 < c.toNat
  omega
theorem u8_not_lt_zero (c : UInt8) : ¬ c < (0 : UInt8) := by
  rw [UInt8.lt_iff_toNat_lt]
  show ¬ c.toNat < 0
  omega
theorem esc_cons (c : UInt8) (l : List UInt8) : esc (c :: l) = escC c ++ esc l := by simp [esc]
theorem esc_less (A B : List UInt8) : ∀ u v : List UInt8, Op.bytesLess (esc u ++ 0 :: 0 :: A) (esc v ++ 0 :: 0 :: B) = if u = v then Op.bytesLess A B else Op.bytesLess u v
  | [], [] => by simp [esc, bl_cons]
  | [], d :: v => by
    rw [if_neg (by simp), esc_cons]
    unfold escC
    by_cases hd : d = 0
    · subst hd; simp [esc, bl_cons, Op.bytesLess]
    · rw [if_neg hd]
      simp [esc, bl_cons, Op.bytesLess, u8_zero_lt hd]
  | c :: u, [] => by
    rw [if_neg (by simp), esc_cons]
    unfold escC
    by_cases hc : c = 0
    · subst hc; simp [esc, bl_cons, Op.bytesLess]
    · rw [if_neg hc]
      have h1 : ¬ c < 0 := u8_not_lt_zero c
      simp [esc, bl_cons, Op.bytesLess, h1, hc]
  | c :: u, d :: v => by
    have ih := esc_less A B u v
    rw [esc_cons, esc_cons]
    by_cases e : c = d
    · subst e
      have hq : (c :: u = c :: v) = (u = v) := by simp
      unfold escC
      by_cases hc : c = 0
      · subst hc
        simp only [if_true, List.cons_append, List.nil_append, bl_cons, hq]
        rw [ih]
        by_cases huv : u = v <;> simp [huv]
      · rw [if_neg hc]
        simp only [List.cons_append, List.nil_append, bl_cons, hq]
        rw [ih]
        by_cases huv : u = v <;> simp [huv]
    · rw [if_neg (by simp [e])]
      unfold escC
      by_cases hc : c = 0
      · subst hc
        have hd : d ≠ 0 := fun h => e h.symm
        rw [if_pos rfl, if_neg hd]
        simp [bl_cons, u8_zero_lt hd]
      · by_cases hd : d = 0
        · subst hd
          rw [if_neg hc, if_pos rfl]
          have h1 : ¬ c < 0 := u8_not_lt_zero c
          have hcb : (c == 0) = false := by simpa using hc
          simp [bl_cons, h1, hcb]
        · rw [if_neg hc, if_neg hd]
          have hcb : (c == d) = false := by simpa using e
          simp [bl_cons, hcb]

theorem be_succ (n k : Nat) : (fixedTo n (k + 1)).reverse = fb n k :: (fixedTo n k).reverse := by rw [fixedTo_succ]; simp
theorem fb_val (n i : Nat) : (fb n i).toNat = n / 2 ^ (8 * i) % 256 := by simp [fb]
theorem be_less (n m : Nat) : ∀ k, Op.bytesLess (fixedTo n k).reverse (fixedTo m k).reverse = decide (n % 2 ^ (8 * k) < m % 2 ^ (8 * k))
  | 0 => by simp [fixedTo, Op.bytesLess, Nat.mod_one]
  | k + 1 => by
    rw [be_succ, be_succ, bl_cons, be_less n m k]
    have e : 2 ^ (8 * (k + 1)) = 2 ^ (8 * k) * 256 := by rw [Nat.mul_add, Nat.pow_add]
    rw [e, Nat.mod_mul, Nat.mod_mul]
    have ha : ((fb n k) < (fb m k)) = (n / 2 ^ (8 * k) % 256 < m / 2 ^ (8 * k) % 256) := by rw [UInt8.lt_iff_toNat_lt, fb_val, fb_val]
    have hb : ((fb n k) == (fb m k)) = decide (n / 2 ^ (8 * k) % 256 = m / 2 ^ (8 * k) % 256) := by
      rw [Bool.eq_iff_iff]
      simp only [beq_iff_eq, decide_eq_true_eq, ← UInt8.toNat_inj, fb_val]
    have hp : 0 < 2 ^ (8 * k) := Nat.pow_pos (by decide)
    have h1 := Nat.mod_lt n hp
    have h2 := Nat.mod_lt m hp
    rw [Bool.eq_iff_iff, hb]
    simp only [ha, Bool.or_eq_true, Bool.and_eq_true, decide_eq_true_eq]
    generalize n / 2 ^ (8 * k) % 256 = x at *
    generalize m / 2 ^ (8 * k) % 256 = y at *
    generalize n % 2 ^ (8 * k) = r at *
    generalize m % 2 ^ (8 * k) = q at *
    generalize 2 ^ (8 * k) = P at *
    constructor
    · rintro (h | ⟨rfl, h⟩)
      · have : P * (x + 1) ≤ P * y := Nat.mul_le_mul_left _ h
        rw [Nat.mul_add] at this
        omega
      · omega
    · intro h
      by_cases hxy : x < y
      · exact .inl hxy
      · by_cases hxe : x = y
        · subst hxe; exact .inr ⟨rfl, by omega⟩
        · exfalso
          have : P * (y + 1) ≤ P * x := Nat.mul_le_mul_left _ (by omega)
          rw [Nat.mul_add] at this
          omega
theorem turned_lt (s k : Nat) : turned s k < 18446744073709551616 := by unfold turned; omega
theorem ord_less (u v : List UInt8) (s k t l : Nat) (hs : s < 72057594037927936) (hk : k < 256) (ht : t < 72057594037927936) (hl : l < 256) :
    Op.bytesLess (ordL u s k) (ordL v t l) = if u = v then decide (t * 256 + l < s * 256 + k) else Op.bytesLess u v := by
  have e : ∀ (u : List UInt8) (A : List UInt8), esc u ++ [0, 0] ++ A = esc u ++ 0 :: 0 :: A := fun u A => by simp
  unfold ordL
  rw [e, e, esc_less, be_less]
  have h1 : turned s k % 2 ^ (8 * 8) = turned s k := Nat.mod_eq_of_lt (turned_lt s k)
  have h2 : turned t l % 2 ^ (8 * 8) = turned t l := Nat.mod_eq_of_lt (turned_lt t l)
  rw [h1, h2]
  congr 1
  rw [decide_eq_decide]
  unfold turned
  omega
theorem ord_inj {u v : List UInt8} {s k t l : Nat} (hs : s < 72057594037927936) (hk : k < 256) (ht : t < 72057594037927936) (hl : l < 256) (h : ordL u s k = ordL v t l) : u = v ∧ s = t ∧ k = l := by
  have h1 := ord_less u v s k t l hs hk ht hl
  have h2 := ord_less v u t l s k ht hl hs hk
  rw [h, bl_irrefl] at h1
  rw [← h, bl_irrefl] at h2
  by_cases e : u = v
  · rw [if_pos e] at h1
    rw [if_pos e.symm] at h2
    have h1' := of_decide_eq_false h1.symm
    have h2' := of_decide_eq_false h2.symm
    exact ⟨e, by omega, by omega⟩
  · rw [if_neg e] at h1
    rw [if_neg (fun x => e x.symm)] at h2
    rcases bl_total u v with h | h | h
    · rw [h] at h1; cases h1
    · exact absurd h e
    · rw [h] at h2; cases h2
end Go.Proofs.Ytoonhcmeklmnlaa
