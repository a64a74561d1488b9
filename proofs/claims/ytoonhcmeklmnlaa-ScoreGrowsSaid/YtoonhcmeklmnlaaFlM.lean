/- Quotients of floats: rounding is monotone. -/
import Derived.Test.YtoonhcmeklmnlaaFlt
set_option linter.unusedSimpArgs false
set_option linter.unusedVariables false
set_option linter.unnecessarySimpa false
namespace Go.St

/-- to the nearest whole number, between two the even one -/
def rne (n g : Nat) : Nat := n / g + (if g < 2 * (n % g) ∨ (g = 2 * (n % g) ∧ (n / g) % 2 = 1) then 1 else 0)
theorem rne_ge {n g k : Nat} (hg : 0 < g) : k + 1 ≤ rne n g ↔ (2 * k + 1) * g < 2 * n ∨ ((2 * k + 1) * g = 2 * n ∧ k % 2 = 1) := by
  have hd := Nat.div_add_mod n g
  have hr := Nat.mod_lt n hg
  unfold rne
  generalize n / g = q at *
  generalize n % g = r at *
  have e : (2 * k + 1) * g = 2 * (k * g) + g := by rw [Nat.add_mul, Nat.mul_assoc]; omega
  rw [e]
  have e2 : g * q = q * g := Nat.mul_comm _ _
  rw [e2] at hd
  rcases Nat.lt_trichotomy k q with h | h | h
  · have h1 : (k + 1) * g ≤ q * g := Nat.mul_le_mul_right g h
    rw [Nat.add_mul] at h1
    constructor
    · intro _; left; omega
    · intro _; omega
  · subst h
    constructor
    · intro hh
      split at hh
      · rename_i hc
        rcases hc with hc | ⟨hc, hk⟩
        · left; omega
        · right; exact ⟨by omega, hk⟩
      · omega
    · intro hh
      rw [if_pos (by rcases hh with hh | ⟨hh, hk⟩; exact .inl (by omega); exact .inr ⟨by omega, hk⟩)]
      omega
  · have h1 : (q + 1) * g ≤ k * g := Nat.mul_le_mul_right g h
    rw [Nat.add_mul] at h1
    constructor
    · intro hh
      split at hh <;> omega
    · intro hh
      rcases hh with hh | ⟨hh, _⟩ <;> omega
theorem rne_mono {n g n' g' : Nat} (hg : 0 < g) (hg' : 0 < g') (h : n * g' ≤ n' * g) : rne n g ≤ rne n' g' := by
  rcases hk : rne n g with _ | k
  · exact Nat.zero_le _
  · have h1 := (rne_ge (k := k) hg).1 (Nat.le_of_eq hk.symm)
    refine (rne_ge hg').2 ?_
    have key : (2 * k + 1) * g' * g = (2 * k + 1) * g * g' := by rw [Nat.mul_assoc, Nat.mul_assoc, Nat.mul_comm g' g]
    rcases h1 with h1 | ⟨h1, h2⟩
    · left
      have h3 : (2 * k + 1) * g * g' < 2 * n * g' := Nat.mul_lt_mul_of_pos_right h1 hg'
      have h4 : 2 * n * g' ≤ 2 * n' * g := by rw [Nat.mul_assoc, Nat.mul_assoc]; omega
      exact Nat.lt_of_mul_lt_mul_right (a := g) (by rw [key]; exact Nat.lt_of_lt_of_le h3 h4)
    · have h3 : (2 * k + 1) * g * g' = 2 * n * g' := by rw [h1]
      have h4 : 2 * n * g' ≤ 2 * n' * g := by rw [Nat.mul_assoc, Nat.mul_assoc]; omega
      have h5 : (2 * k + 1) * g' ≤ 2 * n' := Nat.le_of_mul_le_mul_right (c := g) (by rw [key, h3]; exact h4) hg
      rcases Nat.lt_or_eq_of_le h5 with h6 | h6
      · exact .inl h6
      · exact .inr ⟨h6, h2⟩
theorem rne_le {n g b : Nat} (hg : 0 < g) (h : n ≤ b * g) : rne n g ≤ b := by
  have h1 : rne n g ≤ rne (b * g) g := rne_mono hg hg (Nat.mul_le_mul_right g h)
  have h2 : rne (b * g) g = b := by
    unfold rne
    rw [Nat.mul_div_cancel _ hg, Nat.mul_mod_left, if_neg (by omega)]
    rfl
  omega
theorem le_rne {n g b : Nat} (hg : 0 < g) (h : b * g ≤ n) : b ≤ rne n g := by
  have h1 : rne (b * g) g ≤ rne n g := rne_mono hg hg (Nat.mul_le_mul_right g h)
  have h2 : rne (b * g) g = b := by
    unfold rne
    rw [Nat.mul_div_cancel _ hg, Nat.mul_mod_left, if_neg (by omega)]
    rfl
  omega
theorem lt_two_log (n : Nat) : n < 2 ^ (n.log2 + 1) := Nat.lt_log2_self
theorem cut_rne (neg : Bool) (n drop : Nat) : Ieee.Toward.even.cut neg n drop = rne n (2 ^ drop) := by
  unfold Ieee.Toward.cut rne
  simp only [Nat.one_shiftLeft]
  by_cases h : drop ≤ n.log2 + 2
  · rw [Nat.min_eq_left h]
    congr 1
    by_cases h1 : 2 ^ drop < 2 * (n % 2 ^ drop)
    · simp [h1]
    · by_cases h2 : 2 ^ drop = 2 * (n % 2 ^ drop)
      · by_cases h3 : n / 2 ^ drop % 2 = 1 <;> simp [h1, h2.symm, h3]
      · simp [h1, h2]
  · rw [Nat.min_eq_right (by omega)]
    have hl := lt_two_log n
    have e : 2 ^ (n.log2 + 2) = 2 * 2 ^ (n.log2 + 1) := by rw [Nat.pow_succ 2 (n.log2 + 1)]; omega
    have hd : 2 ^ (n.log2 + 2) ≤ 2 ^ drop := Nat.pow_le_pow_right (by decide) (by omega)
    have hn1 : n < 2 ^ (n.log2 + 2) := by omega
    have hn2 : n < 2 ^ drop := by omega
    rw [Nat.div_eq_of_lt hn1, Nat.mod_eq_of_lt hn1, Nat.div_eq_of_lt hn2, Nat.mod_eq_of_lt hn2]
    rw [if_neg (by omega)]
    have h1 : decide (2 ^ (n.log2 + 2) < 2 * n) = false := decide_eq_false (by omega)
    have h2 : (2 ^ (n.log2 + 2) == 2 * n) = false := by rw [beq_eq_false_iff_ne]; omega
    simp [h1, h2]
theorem rne_ext {a b c d : Nat} (h : ∀ k, k + 1 ≤ rne a b ↔ k + 1 ≤ rne c d) : rne a b = rne c d := by
  apply Nat.le_antisymm
  · rcases hk : rne a b with _ | k
    · exact Nat.zero_le _
    · exact (h k).1 (Nat.le_of_eq hk.symm)
  · rcases hk : rne c d with _ | k
    · exact Nat.zero_le _
    · exact (h k).2 (Nat.le_of_eq hk.symm)
theorem rne_scale {n g c : Nat} (hg : 0 < g) (hc : 0 < c) : rne (n * c) (g * c) = rne n g := by
  have e : n * c * g = n * (g * c) := by rw [Nat.mul_assoc, Nat.mul_comm c g]
  exact Nat.le_antisymm (rne_mono (Nat.mul_pos hg hc) hg (Nat.le_of_eq e)) (rne_mono hg (Nat.mul_pos hg hc) (Nat.le_of_eq e.symm))
/-- a digit that tells whether anything is left over tells enough -/
theorem sticky (a t H : Nat) (ht : 0 < t) (hH : 0 < H) : rne (2 * (a / t) + (a % t != 0).toNat) (2 * (2 * H)) = rne a (t * (2 * H)) := by
  refine rne_ext fun k => ?_
  rw [rne_ge (by omega), rne_ge (Nat.mul_pos ht (by omega))]
  have hd := Nat.div_add_mod a t
  have hr := Nat.mod_lt a ht
  obtain ⟨s, hs, hs0⟩ : ∃ s, s = (a % t != 0).toNat ∧ (s = 0 ∧ a % t = 0 ∨ s = 1 ∧ 0 < a % t) := ⟨_, rfl, by
    by_cases h : a % t = 0
    · left; simp [h]
    · right; simp [h]; omega⟩
  rw [← hs]
  generalize a / t = D at *
  generalize a % t = r at *
  have e1 : (2 * k + 1) * (2 * (2 * H)) = 4 * ((2 * k + 1) * H) := by rw [Nat.mul_left_comm, Nat.mul_left_comm (2 * k + 1) 2 H]; omega
  have e2 : (2 * k + 1) * (t * (2 * H)) = 2 * (t * ((2 * k + 1) * H)) := by
    rw [Nat.mul_left_comm, Nat.mul_left_comm (2 * k + 1) 2 H, Nat.mul_left_comm]
  rw [e1, e2]
  generalize (2 * k + 1) * H = X
  rw [← hd]
  rcases Nat.lt_trichotomy X D with h | h | h
  · have h1 : t * (X + 1) ≤ t * D := Nat.mul_le_mul_left t h
    rw [Nat.mul_add] at h1
    constructor
    · intro _; left; omega
    · intro _; left; omega
  · subst h
    rcases hs0 with ⟨h1, h2⟩ | ⟨h1, h2⟩
    · subst h1; subst h2
      simp only [Nat.add_zero]
      constructor
      · intro hh
        rcases hh with hh | ⟨_, hh⟩
        · omega
        · exact .inr ⟨by first | trivial | omega, hh⟩
      · intro hh
        rcases hh with hh | ⟨_, hh⟩
        · omega
        · exact .inr ⟨by first | trivial | omega, hh⟩
    · subst h1
      constructor
      · intro _; left; omega
      · intro _; left; omega
  · have h1 : t * (D + 1) ≤ t * X := Nat.mul_le_mul_left t h
    rw [Nat.mul_add] at h1
    constructor
    · intro hh
      rcases hh with hh | ⟨hh, _⟩ <;> omega
    · intro hh
      rcases hh with hh | ⟨hh, _⟩ <;> omega
theorem log_uniq {x k : Nat} (h1 : 2 ^ k ≤ x) (h2 : x < 2 ^ (k + 1)) : x.log2 = k := by
  have h3 : x ≠ 0 := fun e => by have := Nat.two_pow_pos k; omega
  have h4 := (Nat.le_log2 h3 (k := k)).2 h1
  have h5 := (Nat.log2_lt h3 (k := k + 1)).2 h2
  omega
theorem two_log_le {x : Nat} (h : 0 < x) : 2 ^ x.log2 ≤ x := Nat.log2_self_le (by omega)
theorem log_sticky {D s : Nat} (hD : 0 < D) (hs : s ≤ 1) : (2 * D + s).log2 = D.log2 + 1 := by
  have h1 := two_log_le hD
  have h2 := lt_two_log D
  apply log_uniq
  · rw [Nat.pow_succ]; omega
  · rw [Nat.pow_succ]; omega
/-- a quotient that is rounded -/
structure QR (n tn : Nat) (j : Int) (C : Nat) (r : Nat) (E S : Nat) (last : Int) : Prop where
  e1 : 2 ^ E * tn ≤ n * 2 ^ C
  e2 : n * 2 ^ C < 2 ^ (E + 1) * tn
  l : last = max ((E : Int) - j - C - 52) (-1074)
  s : (S : Int) = last + j + C
  r : r = min ((last + 1074).toNat * 4503599627370496 + rne (n * 2 ^ C) (tn * 2 ^ S)) 9218868437227405312
theorem q_round {n tn m : Nat} {j : Int} (hn : 0 < n) (ht : 0 < tn) (hm : m = n * 2 ^ (52 - n.log2)) (hl : n.log2 ≤ 52) (hm2 : m.log2 = 52) :
    ∃ E S last, QR n tn j (54 + tn.log2) (Ieee.double.nearest false (2 * (m <<< (2 + tn.log2) / tn) + (m <<< (2 + tn.log2) % tn != 0).toNat) ((n.log2 : Int) - 52 - j - ((2 + tn.log2 : Nat) : Int) - 1)) E S last := by
  generalize hM : 2 + tn.log2 = M
  have hC : 54 + tn.log2 = 52 + M := by omega
  rw [hC]
  have hl' : n.log2 = n.log2 := rfl
  generalize hll : n.log2 = l at *
  have hdiv : m <<< M = n * 2 ^ (52 + M - l) := by
    rw [Nat.shiftLeft_eq, hm, Nat.mul_assoc, ← Nat.pow_add]
    congr 2; omega
  have ht2 := lt_two_log tn
  have hm3 : 2 ^ 52 ≤ m := by
    have := two_log_le (x := m) (by
      rw [hm]; exact Nat.mul_pos hn (Nat.two_pow_pos _))
    rwa [hm2] at this
  have hD : 2 ^ 53 ≤ m <<< M / tn := by
    rw [Nat.le_div_iff_mul_le ht, Nat.shiftLeft_eq]
    have h1 : 2 ^ 53 * tn ≤ 2 ^ 53 * 2 ^ (tn.log2 + 1) := Nat.mul_le_mul_left _ (Nat.le_of_lt ht2)
    have h2 : 2 ^ 53 * 2 ^ (tn.log2 + 1) = 2 ^ 52 * 2 ^ M := by rw [← Nat.pow_add, ← Nat.pow_add]; congr 1; omega
    have h3 : 2 ^ 52 * 2 ^ M ≤ m * 2 ^ M := Nat.mul_le_mul_right _ hm3
    omega
  have hst := fun H (hH : 0 < H) => sticky (m <<< M) tn H ht hH
  have hDlo := two_log_le (x := m <<< M / tn) (by omega)
  have hDhi := lt_two_log (m <<< M / tn)
  have hs1 : (m <<< M % tn != 0).toNat ≤ 1 := by cases (m <<< M % tn != 0) <;> decide
  have hlog := log_sticky (D := m <<< M / tn) (by omega) hs1
  have hlb : 53 ≤ (m <<< M / tn).log2 := (Nat.le_log2 (by omega)).2 hD
  have hA1 : 2 ^ (m <<< M / tn).log2 * tn ≤ m <<< M := Nat.le_trans (Nat.mul_le_mul_right _ hDlo) (Nat.div_mul_le_self _ _)
  have hA2 : m <<< M < 2 ^ ((m <<< M / tn).log2 + 1) * tn := by
    have h1 := Nat.mul_le_mul_right tn (Nat.succ_le_of_lt hDhi)
    have h2 := Nat.div_add_mod (m <<< M) tn
    have h3 := Nat.mod_lt (m <<< M) ht
    rw [Nat.succ_mul, Nat.mul_comm _ tn] at h1
    omega
  generalize hDd : (m <<< M / tn).log2 = d at *
  generalize hQ : 2 * (m <<< M / tn) + (m <<< M % tn != 0).toNat = Q at *
  obtain ⟨last, hlast⟩ : ∃ last : Int, last = max (((l + d : Nat) : Int) - j - ((52 + M : Nat) : Int) - 52) (-1074) := ⟨_, rfl⟩
  have hlastp : (l : Int) - 52 - j - (M : Int) - 1 + 2 ≤ last := by omega
  obtain ⟨S, hS⟩ : ∃ S : Nat, (S : Int) = last + j + ((52 + M : Nat) : Int) := ⟨(last + j + ((52 + M : Nat) : Int)).toNat, by omega⟩
  refine ⟨l + d, S, last, ⟨?_, ?_, hlast, hS, ?_⟩⟩
  · have h1 := Nat.mul_le_mul_right (2 ^ l) hA1
    rw [hdiv, Nat.mul_assoc n, ← Nat.pow_add, show 52 + M - l + l = 52 + M by omega] at h1
    have e : 2 ^ (l + d) * tn = 2 ^ d * tn * 2 ^ l := by
      rw [Nat.mul_right_comm, ← Nat.pow_add]
      congr 2
      omega
    rw [e]
    exact h1
  · have h1 := Nat.mul_lt_mul_of_pos_right hA2 (Nat.two_pow_pos l)
    rw [hdiv, Nat.mul_assoc n, ← Nat.pow_add, show 52 + M - l + l = 52 + M by omega] at h1
    have e : 2 ^ (l + d + 1) * tn = 2 ^ (d + 1) * tn * 2 ^ l := by
      rw [Nat.mul_right_comm, ← Nat.pow_add]
      congr 2
      omega
    rw [e]
    exact h1
  · unfold Ieee.Format.nearest
    have hQ0 : Q ≠ 0 := by omega
    rw [if_neg hQ0]
    have hw : ∀ x, Ieee.double.word false x = x := fun x => rfl
    have hfb : Ieee.double.fractionBits = 52 := rfl
    have hlp : Ieee.double.leastPlace = -1074 := by decide
    have hbi : Ieee.double.binade = 4503599627370496 := by decide
    have hir : Ieee.double.infRung = 9218868437227405312 := by decide
    simp only [hw, hfb, hlp, hbi, hir, hlog]
    have el : max ((l : Int) - 52 - j - (M : Int) - 1 + ((d + 1 : Nat) : Int) - ((52 : Nat) : Int)) (-1074) = last := by omega
    rw [el]
    have e0 : ((l : Int) - 52 - j - (M : Int) - 1 - last).toNat = 0 := by omega
    rw [e0, Nat.shiftLeft_zero, cut_rne]
    obtain ⟨h, hh⟩ : ∃ h : Nat, (last - ((l : Int) - 52 - j - (M : Int) - 1)).toNat = h + 2 := ⟨(last - ((l : Int) - 52 - j - (M : Int) - 1)).toNat - 2, by omega⟩
    rw [hh]
    have e1 : 2 ^ (h + 2) = 2 * (2 * 2 ^ h) := by rw [Nat.pow_succ, Nat.pow_succ]; omega
    rw [e1, hst _ (Nat.two_pow_pos h)]
    have e2 : rne (m <<< M) (tn * (2 * 2 ^ h)) = rne (n * 2 ^ (52 + M)) (tn * 2 ^ S) := by
      rw [← rne_scale (n := m <<< M) (g := tn * (2 * 2 ^ h)) (c := 2 ^ l) (Nat.mul_pos ht (Nat.mul_pos (by decide) (Nat.two_pow_pos _))) (Nat.two_pow_pos _)]
      rw [hdiv, Nat.mul_assoc n, ← Nat.pow_add, show 52 + M - l + l = 52 + M by omega]
      congr 1
      rw [Nat.mul_assoc]
      congr 1
      rw [show S = h + 1 + l by omega, Nat.pow_add, Nat.pow_succ]
      congr 1
      omega
    rw [e2]
    congr 2
theorem QR.sE {n tn C r E S : Nat} {j last : Int} (h : QR n tn j C r E S last) : E ≤ S + 52 := by
  have := h.l; have := h.s; omega
theorem QR.kept {n tn C r E S : Nat} {j last : Int} (ht : 0 < tn) (h : QR n tn j C r E S last) : rne (n * 2 ^ C) (tn * 2 ^ S) ≤ 9007199254740992 := by
  rw [show (9007199254740992 : Nat) = 2 ^ 53 by decide]
  refine rne_le (Nat.mul_pos ht (Nat.two_pow_pos _)) ?_
  have h1 := h.e2
  have h2 : 2 ^ (E + 1) ≤ 2 ^ (53 + S) := Nat.pow_le_pow_right (by decide) (by have := h.sE; omega)
  have h3 := Nat.mul_le_mul_right tn h2
  have h4 : 2 ^ (53 + S) * tn = 2 ^ 53 * (tn * 2 ^ S) := by rw [Nat.pow_add, Nat.mul_assoc, Nat.mul_comm (2 ^ S)]
  rw [h4] at h3
  omega
theorem QR.most {n tn C r E S : Nat} {j last : Int} (ht : 0 < tn) (h : QR n tn j C r E S last) (hl : -1074 < last) : 4503599627370496 ≤ rne (n * 2 ^ C) (tn * 2 ^ S) := by
  rw [show (4503599627370496 : Nat) = 2 ^ 52 by decide]
  refine le_rne (Nat.mul_pos ht (Nat.two_pow_pos _)) ?_
  have h1 := h.e1
  have hS : E = 52 + S := by have := h.l; have := h.s; omega
  rw [hS, Nat.pow_add, Nat.mul_assoc, Nat.mul_comm (2 ^ S)] at h1
  exact h1
theorem QR.inf {n tn C r E S : Nat} {j last : Int} (h : QR n tn j C r E S last) : r ≤ 9218868437227405312 := by
  rw [h.r]; exact Nat.min_le_right _ _
theorem q_mono {n n' tn C r r' E E' S S' : Nat} {j last last' : Int} (ht : 0 < tn) (h : QR n tn j C r E S last) (h' : QR n' tn j C r' E' S' last') (hn : n ≤ n') : r ≤ r' := by
  have hE : E ≤ E' := by
    have h1 : 2 ^ E * tn < 2 ^ (E' + 1) * tn := Nat.lt_of_le_of_lt (Nat.le_trans h.e1 (Nat.mul_le_mul_right _ hn)) h'.e2
    have h2 := Nat.lt_of_mul_lt_mul_right h1
    have h3 := (Nat.pow_lt_pow_iff_right (a := 2) (by decide)).1 h2
    omega
  have hl : last ≤ last' := by have := h.l; have := h'.l; omega
  have hl0 : -1074 ≤ last := by have := h.l; omega
  rw [h.r, h'.r]
  suffices hs : (last + 1074).toNat * 4503599627370496 + rne (n * 2 ^ C) (tn * 2 ^ S) ≤ (last' + 1074).toNat * 4503599627370496 + rne (n' * 2 ^ C) (tn * 2 ^ S') from Nat.le_min.2 ⟨Nat.le_trans (Nat.min_le_left _ _) hs, Nat.min_le_right _ _⟩
  by_cases e : last = last'
  · have hSS : S = S' := by have := h.s; have := h'.s; omega
    subst e; subst hSS
    have := rne_mono (n := n * 2 ^ C) (n' := n' * 2 ^ C) (g := tn * 2 ^ S) (g' := tn * 2 ^ S) (Nat.mul_pos ht (Nat.two_pow_pos _)) (Nat.mul_pos ht (Nat.two_pow_pos _)) (Nat.mul_le_mul_right _ (Nat.mul_le_mul_right _ hn))
    omega
  · have h1 := h.kept ht
    have h2 := h'.most ht (by omega)
    have h3 : (last + 1074).toNat + 1 ≤ (last' + 1074).toNat := by omega
    omega
/-- where the quotient is 1 or more -/
theorem q_full {n tn C r E S a : Nat} {j last : Int} (ht : 0 < tn) (h : QR n tn j C r E S last) (ha : (a : Int) = j + C) (hge : tn * 2 ^ a ≤ n * 2 ^ C) : fone ≤ r := by
  have hE : a ≤ E := by
    have h1 : 2 ^ a * tn < 2 ^ (E + 1) * tn := Nat.lt_of_le_of_lt (by rw [Nat.mul_comm]; exact hge) h.e2
    have h3 := (Nat.pow_lt_pow_iff_right (a := 2) (by decide)).1 (Nat.lt_of_mul_lt_mul_right h1)
    omega
  have hl : -52 ≤ last := by have := h.l; omega
  have h2 := h.most ht (by omega)
  have h3 : 1022 ≤ (last + 1074).toNat := by omega
  rw [h.r]
  exact Nat.le_min.2 ⟨by unfold fone; omega, by decide⟩
end Go.St
