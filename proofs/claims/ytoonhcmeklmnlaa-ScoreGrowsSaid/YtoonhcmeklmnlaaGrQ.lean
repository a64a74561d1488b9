/- ScoreGrows: the plain part. -/
import Derived.Test.YtoonhcmeklmnlaaLeQ
import Derived.Test.YtoonhcmeklmnlaaFlN
set_option linter.unusedSimpArgs false
set_option linter.unusedVariables false
set_option linter.unnecessarySimpa false
namespace Go.Proofs.Ytoonhcmeklmnlaa
open Go.RowKit Go.Rg Go.St

def szF (l : List File) : Nat := (l.map fun f => f.size.toNat).sum
theorem sumTo_sz {xs : List File} (hb : ∀ f, f ∈ xs → 0 ≤ f.size ∧ f.size ≤ 2147483647) (hl : xs.length ≤ 2000) : ∀ k, k ≤ xs.length → sumTo xs k = ((szF (xs.take k) : Nat) : Int) ∧ szF (xs.take k) ≤ k * 2147483647
  | 0, _ => ⟨rfl, Nat.zero_le _⟩
  | k + 1, hk => by
    obtain ⟨h1, h2⟩ := sumTo_sz hb hl k (by omega)
    obtain ⟨h3, h4⟩ := hb _ (nth_mem _ _ hk)
    have e : szF (xs.take (k + 1)) = szF (xs.take k) + (nth xs k).size.toNat := by
      unfold szF
      rw [take_succ_nth _ _ hk, List.map_append, List.sum_append]
      simp
    unfold sumTo
    rw [h1, e]
    refine ⟨?_, by omega⟩
    unfold wrap64
    omega
theorem szF_ins (f : File) : ∀ l : List File, szF (insF f l) = f.size.toNat + szF l
  | [] => rfl
  | o :: l => by
    unfold insF
    split
    · rfl
    · have := szF_ins f l
      unfold szF at this ⊢
      simp only [List.map_cons, List.sum_cons] at this ⊢
      omega
theorem addsF_grow : ∀ {fs : List File} {V : Lv}, (addsF fs V).1 = 0 → ∀ n, (V n).length ≤ ((addsF fs V).2 n).length ∧ szF (V n) ≤ szF ((addsF fs V).2 n)
  | [], V, _, n => ⟨Nat.le_refl _, Nat.le_refl _⟩
  | a :: fs, V, h, n => by
    unfold addsF at h ⊢
    split at h
    · rename_i hc; exact absurd h hc
    · rename_i hc
      rw [if_neg hc]
      obtain ⟨h1, h2⟩ := addsF_grow h n
      by_cases e : n = a.level.toNat
      · subst e
        rw [upd_same] at h1 h2
        rw [insF_length] at h1
        rw [szF_ins] at h2
        exact ⟨by omega, by omega⟩
      · rw [upd_other _ _ e] at h1 h2
        exact ⟨h1, h2⟩
theorem applyF_grow {V : Lv} {x : Ed} (h : (applyF V x).1 = 0) (hd : x.dels.length = 0) (n : Nat) : (V n).length ≤ ((applyF V x).2 n).length ∧ szF (V n) ≤ szF ((applyF V x).2 n) := by
  unfold applyF at h ⊢
  split at h
  · exact absurd h (by decide)
  · rename_i h1
    rw [if_neg h1]
    split at h
    · rename_i h2; exact absurd h h2
    · rename_i h2
      rw [if_neg h2]
      have e : x.dels = [] := List.length_eq_zero_iff.1 hd
      rw [e] at h ⊢
      exact addsF_grow h n
def scV (U : Lv) (n : Nat) : Nat := if n = 0 then (U 0).length else szF (U n)
theorem scV_of {A : List File} {U : Lv} (h : StF A U) (hl : ∀ n, n < 4 → (U n).length ≤ 1100) {n : Nat} (hn : n < 4) : scN U n = ((scV U n : Nat) : Int) ∧ scV U n < 9007199254740992 := by
  unfold scN scV
  by_cases e : n = 0
  · rw [if_pos e, if_pos e]
    have := hl 0 (by omega)
    exact ⟨rfl, by omega⟩
  · rw [if_neg e, if_neg e]
    have hh := sumTo_sz (xs := U n) (fun f hf => by
      have h1 := h.ok f ((h.mem hn).1 hf).1
      unfold fileC at h1
      split at h1
      · rename_i h2; exact absurd h1 h2
      · split at h1
        · exact absurd h1 (by decide)
        · omega) (by have := hl n hn; omega) (U n).length (Nat.le_refl _)
    rw [List.take_length] at hh
    refine ⟨hh.1, ?_⟩
    have h1 := hh.2
    have h2 := hl n hn
    have h3 := Nat.mul_le_mul_right 2147483647 h2
    omega
theorem grows_ok {A B : List File} {U W : Lv} (hA : StF A U) (hB : StF B W) (hU : ∀ n, n < 4 → (U n).length ≤ 1100) (hW : ∀ n, n < 4 → (W n).length ≤ 1100)
    (hm : ∀ n, (U n).length ≤ (W n).length ∧ szF (U n) ≤ szF (W n)) {tr : Nat} {tg xa xb : List Nat} (ha : ScOk U tr tg xa 4) (hb : ScOk W tr tg xb 4) {k : Nat} (hk : k < 4) (hp : (ford (scT tr tg k) 0 == some .gt) = true) :
    ¬ fOrd (nth xb k) (nth xa k) < 0 := by
  obtain ⟨e1, b1⟩ := scV_of hA hU hk
  obtain ⟨e2, b2⟩ := scV_of hB hW hk
  have h1 := ha.2 k hk
  have h2 := hb.2 k hk
  rw [e1] at h1
  rw [e2] at h2
  refine quo_grows ?_ b2 (pos_of hp) h1 h2
  have h3 := hm 0
  have h4 := hm k
  unfold scV
  split
  · exact h3.1
  · exact h4.2
theorem scT_zero (tr : Nat) (tg : List Nat) : scT tr tg 0 = tr := rfl
theorem scT_one (tr : Nat) (tg : List Nat) {k : Nat} (h0 : 0 < k) (h : k ≤ tg.length) : scT tr tg k = nth tg (k - 1) := by
  unfold scT
  rw [if_neg (by omega), if_pos h]
theorem one_ok {A : List File} {U : Lv} (hA : StF A U) (hU : ∀ n, n < 4 → (U n).length ≤ 1100) {tr : Nat} {tg xa : List Nat} (ha : ScOk U tr tg xa 4) (hp : (ford tr fone == some .gt || ford tr fone == some .eq) = true) :
    decide (0 ≤ fOrd (nth xa 0) fone) = (ford (floatOfInt .f64 ((U 0).length : Int)) tr == some .gt || ford (floatOfInt .f64 ((U 0).length : Int)) tr == some .eq) := by
  have h1 := ha.2 0 (by omega)
  have h2 := hU 0 (by omega)
  exact quo_one (by omega) hp h1
end Go.Proofs.Ytoonhcmeklmnlaa
