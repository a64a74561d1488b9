/- A table's lists laid together, in order: the plain part. -/
import Derived.Test.YtoonhcmeklmnlaaMtA
set_option linter.unusedSimpArgs false
set_option linter.unusedVariables false
set_option linter.unnecessarySimpa false
namespace Go.Proofs.Ytoonhcmeklmnlaa
open Go.RowKit Go.Rg Go.St

/-- which list's next text is least, of the first i -/
def BestAt (R : Nat → List ByteArray) (i : Nat) (b : Int) : Prop :=
  (b = -1 ∧ ∀ j, j < i → R j = []) ∨ ∃ (j : Nat) (x : ByteArray) (xs : List ByteArray), b = (j : Int) ∧ j < i ∧ R j = x :: xs ∧ ∀ m, m < i → ∀ y ys, R m = y :: ys → kl y x = false
theorem BestAt.zero (R : Nat → List ByteArray) : BestAt R 0 (-1) := .inl ⟨rfl, fun j hj => absurd hj (Nat.not_lt_zero _)⟩
theorem BestAt.skip {R : Nat → List ByteArray} {i : Nat} {b : Int} (h : BestAt R i b) (hi : R i = []) : BestAt R (i + 1) b := by
  rcases h with ⟨rfl, h⟩ | ⟨j, x, xs, rfl, hj, hx, h⟩
  · refine .inl ⟨rfl, fun j hj => ?_⟩
    by_cases e : j = i
    · rw [e]; exact hi
    · exact h j (by omega)
  · refine .inr ⟨j, x, xs, rfl, by omega, hx, fun m hm y ys hy => ?_⟩
    by_cases e : m = i
    · rw [e, hi] at hy; cases hy
    · exact h m (by omega) y ys hy
theorem BestAt.first {R : Nat → List ByteArray} {i : Nat} (h : BestAt R i (-1)) {x : ByteArray} {xs : List ByteArray} (hi : R i = x :: xs) : BestAt R (i + 1) i := by
  rcases h with ⟨_, h⟩ | ⟨j, _, _, e, _⟩
  · refine .inr ⟨i, x, xs, rfl, by omega, hi, fun m hm y ys hy => ?_⟩
    by_cases e : m = i
    · rw [e, hi] at hy
      cases hy
      exact kl_irrefl _
    · rw [h m (by omega)] at hy; cases hy
  · omega
theorem BestAt.less {R : Nat → List ByteArray} {i j : Nat} {x y : ByteArray} {xs ys : List ByteArray} (h : BestAt R i (j : Int)) (hj : R j = x :: xs) (hi : R i = y :: ys) (hl : kl y x = true) : BestAt R (i + 1) i := by
  rcases h with ⟨e, _⟩ | ⟨j', x', xs', e, _, hx, h⟩
  · omega
  · have : j = j' := by omega
    subst this
    rw [hj] at hx
    cases hx
    refine .inr ⟨i, y, ys, rfl, by omega, hi, fun m hm z zs hz => ?_⟩
    by_cases e : m = i
    · rw [e, hi] at hz
      cases hz
      exact kl_irrefl _
    · have h1 := h m (by omega) z zs hz
      cases h2 : kl z y
      · rfl
      · rw [kl_trans h2 hl] at h1; cases h1
theorem BestAt.keep {R : Nat → List ByteArray} {i j : Nat} {x y : ByteArray} {xs ys : List ByteArray} (h : BestAt R i (j : Int)) (hj : R j = x :: xs) (hi : R i = y :: ys) (hl : kl y x = false) : BestAt R (i + 1) j := by
  rcases h with ⟨e, _⟩ | ⟨j', x', xs', e, hji, hx, h⟩
  · omega
  · have : j = j' := by omega
    subst this
    rw [hj] at hx
    cases hx
    refine .inr ⟨j, x, xs, rfl, by omega, hj, fun m hm z zs hz => ?_⟩
    by_cases e : m = i
    · rw [e, hi] at hz
      cases hz
      exact hl
    · exact h m (by omega) z zs hz
theorem BestAt.has {R : Nat → List ByteArray} {i : Nat} {b : Int} (h : BestAt R i b) (hb : b ≠ -1) : ∃ (j : Nat) (x : ByteArray) (xs : List ByteArray), b = (j : Int) ∧ j < i ∧ R j = x :: xs := by
  rcases h with ⟨e, _⟩ | ⟨j, x, xs, e, hj, hx, _⟩
  · exact absurd e hb
  · exact ⟨j, x, xs, e, hj, hx⟩

def totR (R : Nat → List ByteArray) : Nat → Nat
  | 0 => 0
  | n + 1 => totR R n + (R n).length
theorem totR_pos {R : Nat → List ByteArray} : ∀ {n : Nat}, 0 < totR R n → ∃ j, j < n ∧ R j ≠ []
  | 0, h => absurd h (Nat.lt_irrefl _)
  | n + 1, h => by
    by_cases e : R n = []
    · have h' : 0 < totR R n + (R n).length := h
      rw [e] at h'
      obtain ⟨j, hj, hr⟩ := totR_pos (n := n) (by simpa using h')
      exact ⟨j, by omega, hr⟩
    · exact ⟨n, by omega, e⟩
def popR (R : Nat → List ByteArray) (j : Nat) : Nat → List ByteArray := fun i => if i = j then (R i).tail else R i
theorem totR_cong {R R' : Nat → List ByteArray} : ∀ {n : Nat}, (∀ i, i < n → R i = R' i) → totR R n = totR R' n
  | 0, _ => rfl
  | n + 1, h => by
    show totR R n + (R n).length = totR R' n + (R' n).length
    rw [totR_cong (n := n) fun i hi => h i (by omega), h n (by omega)]
theorem totR_pop {R : Nat → List ByteArray} {j : Nat} {x : ByteArray} {xs : List ByteArray} (hx : R j = x :: xs) : ∀ {n : Nat}, j < n → totR (popR R j) n + 1 = totR R n
  | 0, h => absurd h (Nat.not_lt_zero _)
  | n + 1, h => by
    show totR (popR R j) n + (popR R j n).length + 1 = totR R n + (R n).length
    by_cases e : n = j
    · subst e
      have h1 : totR (popR R n) n = totR R n := totR_cong fun i hi => if_neg (by omega)
      have h2 : popR R n n = xs := by unfold popR; rw [if_pos rfl, hx]; rfl
      rw [h1, h2, hx, List.length_cons]; omega
    · have h1 := totR_pop hx (n := n) (by omega)
      have h2 : popR R j n = R n := if_neg e
      rw [h2]; omega

/-- how far the laying together is -/
structure Mrg (M : MT) (n : Nat) (R : Nat → List ByteArray) (out : List (IKey × ByteArray)) : Prop where
  mem : ∀ e, e ∈ out → e ∈ M.es
  all : ∀ e, e ∈ M.es → e ∈ out ∨ ∃ i, i < n ∧ keyT e.1 ∈ R i
  src : ∀ i, i < n → ∀ x, x ∈ R i → ∃ e, e ∈ M.es ∧ keyT e.1 = x
  ris : out.Pairwise (fun a b => kl (keyT a.1) (keyT b.1) = true)
  rr : ∀ i, i < n → (R i).Pairwise (fun a b => kl a b = true)
  lt : ∀ e, e ∈ out → ∀ i, i < n → ∀ y, y ∈ R i → kl (keyT e.1) y = true
  ap : ∀ i j, i < n → j < n → i ≠ j → ∀ x, x ∈ R i → x ∉ R j
theorem mem_pop {R : Nat → List ByteArray} {j i : Nat} {x : ByteArray} (h : x ∈ popR R j i) : x ∈ R i := by
  unfold popR at h
  split at h
  · exact List.mem_of_mem_tail h
  · exact h
theorem Mrg.step {M : MT} (hM : MInv M) {n : Nat} {R : Nat → List ByteArray} {out : List (IKey × ByteArray)} (h : Mrg M n R out) {j : Nat} {x : ByteArray} {xs : List ByteArray} (hb : BestAt R n (j : Int)) (hj : R j = x :: xs) {e : IKey × ByteArray} (he : e ∈ M.es) (hx : keyT e.1 = x) (hjn : j < n) : Mrg M n (popR R j) (out ++ [e]) := by
  have hmin : ∀ i, i < n → ∀ y ys, R i = y :: ys → kl y x = false := by
    rcases hb with ⟨e, _⟩ | ⟨j', x', xs', e, _, hx', h'⟩
    · omega
    · have : j = j' := by omega
      subst this
      rw [hj] at hx'
      cases hx'
      exact h'
  have hless : ∀ i, i < n → ∀ y, y ∈ popR R j i → kl x y = true := fun i hi y hy => by
    by_cases e : i = j
    · subst e
      unfold popR at hy
      rw [if_pos rfl, hj] at hy
      have := h.rr i hi
      rw [hj, List.pairwise_cons] at this
      exact this.1 y hy
    · have hy' : y ∈ R i := mem_pop hy
      have hne : x ≠ y := fun e' => h.ap i j hi hjn e y hy' (by rw [hj, ← e']; exact List.mem_cons_self ..)
      rcases kl_total x y with k | k | k
      · exact k
      · exact absurd k hne
      · exfalso
        cases hz : R i with
        | nil => rw [hz] at hy'; cases hy'
        | cons z zs =>
          have h1 := hmin i hi z zs hz
          rw [hz] at hy'
          rcases List.mem_cons.1 hy' with e' | hy2
          · rw [e'] at k; rw [k] at h1; cases h1
          · have h2 := h.rr i hi
            rw [hz, List.pairwise_cons] at h2
            rw [kl_trans (h2.1 y hy2) k] at h1; cases h1
  refine ⟨fun a ha => ?_, fun a ha => ?_, fun i hi a ha => h.src i hi a (mem_pop ha), ?_, fun i hi => ?_, fun a ha i hi y hy => ?_, fun i k hi hk hik a ha ha2 => h.ap i k hi hk hik a (mem_pop ha) (mem_pop ha2)⟩
  · rcases List.mem_append.1 ha with ha | ha
    · exact h.mem a ha
    · rw [List.mem_singleton.1 ha]; exact he
  · rcases h.all a ha with h1 | ⟨i, hi, h1⟩
    · exact .inl (List.mem_append_left _ h1)
    · by_cases e' : keyT a.1 = x
      · left
        rw [uniq_es hM he ha (keyT_inj (hM.good a ha) (hM.good e he) (e'.trans hx.symm))]
        exact List.mem_append_right _ (List.mem_singleton.2 rfl)
      · right
        refine ⟨i, hi, ?_⟩
        unfold popR
        split
        · rename_i e2
          rw [e2, hj] at h1
          rcases List.mem_cons.1 h1 with e3 | h3
          · exact absurd e3 e'
          · rw [e2, hj]; exact h3
        · exact h1
  · rw [List.pairwise_append]
    refine ⟨h.ris, List.pairwise_singleton _ _, fun a ha b hb => ?_⟩
    rw [List.mem_singleton.1 hb, hx]
    exact h.lt a ha j hjn x (by rw [hj]; exact List.mem_cons_self ..)
  · unfold popR
    split
    · exact (h.rr i hi).tail
    · exact h.rr i hi
  · rcases List.mem_append.1 ha with ha | ha
    · exact h.lt a ha i hi y (mem_pop hy)
    · rw [List.mem_singleton.1 ha, hx]
      exact hless i hi y hy

/-- a list's own order -/
structure Own (K : SK) (js : List Nat) : Prop where
  lvl : Lvl K 0 js
  mem : ∀ j, j ∈ js ↔ j < K.n
  le : js.length = K.n
theorem own_ex {K : SK} (hI : Inv K) (hd : ∀ j, j < K.n → K.lv j = K.ht j) : ∃ js, Own K js := by
  obtain ⟨js, hc, hr, hm⟩ := hI.ch 0 (by decide)
  have hm' : ∀ j, j ∈ js ↔ j < K.n := fun j => ⟨fun h => ((hm j).1 h).1, fun hj => (hm j).2 ⟨hj, by rw [hd j hj]; exact (hI.ht j hj).1⟩⟩
  have hnd : js.Nodup := List.Pairwise.imp (fun h e => by rw [e, kl_irrefl] at h; cases h) hr
  have h1 := nodup_len hnd (m := List.range K.n) fun x hx => List.mem_range.2 ((hm' x).1 hx)
  have h2 := nodup_len (List.nodup_range (n := K.n)) (m := js) fun x hx => (hm' x).2 (List.mem_range.1 hx)
  rw [List.length_range] at h1 h2
  exact ⟨js, ⟨hc, hr, hm⟩, hm', by omega⟩
theorem owns_ex {M : MT} (hM : MFull M) : ∃ J : Nat → List Nat, ∀ i, i < M.ls.length → Own (nthK M i) (J i) := by
  have h := fun i (hi : i < M.ls.length) => own_ex (hM.inv i hi) (hM.dn i hi)
  refine ⟨fun i => if hi : i < M.ls.length then (h i hi).choose else [], fun i hi => ?_⟩
  simp only [dif_pos hi]
  exact (h i hi).choose_spec
def rowsOf (M : MT) (J : Nat → List Nat) (i : Nat) : List ByteArray := keysOf (nthK M i) (J i)
theorem tot_rows {M : MT} (hM : MFull M) {J : Nat → List Nat} (hJ : ∀ i, i < M.ls.length → Own (nthK M i) (J i)) : ∀ n, n ≤ M.ls.length → totR (rowsOf M J) n = min (1000 * n) M.es.length
  | 0, _ => by simp [totR]
  | n + 1, h => by
    show totR (rowsOf M J) n + (rowsOf M J n).length = _
    rw [tot_rows hM hJ n (by omega)]
    have h1 : (rowsOf M J n).length = (nthK M n).n := by unfold rowsOf keysOf; rw [List.length_map]; exact (hJ n (by omega)).le
    rw [h1, hM.cnt n (by omega)]
    omega
theorem tot_all {M : MT} (hM : MFull M) {J : Nat → List Nat} (hJ : ∀ i, i < M.ls.length → Own (nthK M i) (J i)) : totR (rowsOf M J) M.ls.length = M.es.length := by
  rw [tot_rows hM hJ _ (Nat.le_refl _)]
  have := hM.le
  omega
theorem mrg0 {M : MT} (hM : MFull M) {J : Nat → List Nat} (hJ : ∀ i, i < M.ls.length → Own (nthK M i) (J i)) : Mrg M M.ls.length (rowsOf M J) [] := by
  have hmem : ∀ i, i < M.ls.length → ∀ x, x ∈ rowsOf M J i ↔ ∃ j, j < (nthK M i).n ∧ (nthK M i).key j = x := fun i hi x => by
    unfold rowsOf keysOf
    rw [List.mem_map]
    constructor
    · rintro ⟨j, hj, e⟩; exact ⟨j, ((hJ i hi).mem j).1 hj, e⟩
    · rintro ⟨j, hj, e⟩; exact ⟨j, ((hJ i hi).mem j).2 hj, e⟩
  refine ⟨fun e h => (by cases h), fun e he => ?_, fun i hi x hx => ?_, List.Pairwise.nil, fun i hi => ?_, fun e h => (by cases h), fun i j hi hj hij x hx hx2 => ?_⟩
  · obtain ⟨i, hi, j, hj, hk⟩ := (hM.keys _).2 ⟨e, he, rfl⟩
    exact .inr ⟨i, hi, (hmem i hi _).2 ⟨j, hj, hk⟩⟩
  · obtain ⟨j, hj, hk⟩ := (hmem i hi x).1 hx
    exact (hM.keys x).1 ⟨i, hi, j, hj, hk⟩
  · have := (hJ i hi).lvl.up
    unfold rowsOf keysOf
    rw [List.pairwise_map]
    exact this
  · obtain ⟨a, ha, e1⟩ := (hmem i hi x).1 hx
    obtain ⟨b, hb, e2⟩ := (hmem j hj x).1 hx2
    exact hM.apk i j hi hj hij a b ha hb (e1.trans e2.symm)

/-- all of a table, in order -/
structure AllOf (M : MT) (out : List (IKey × ByteArray)) : Prop where
  mem : ∀ e, e ∈ out ↔ e ∈ M.es
  ris : out.Pairwise (fun a b => kl (keyT a.1) (keyT b.1) = true)
theorem Mrg.done {M : MT} {n : Nat} {R : Nat → List ByteArray} {out : List (IKey × ByteArray)} (h : Mrg M n R out) (h0 : totR R n = 0) : AllOf M out := by
  refine ⟨fun e => ⟨h.mem e, fun he => ?_⟩, h.ris⟩
  rcases h.all e he with h1 | ⟨i, hi, h1⟩
  · exact h1
  · exfalso
    have : ∀ n, totR R n = 0 → ∀ i, i < n → R i = [] := by
      intro n
      induction n with
      | zero => intro _ i hi; omega
      | succ n ih =>
        intro ht i hi
        have ht' : totR R n + (R n).length = 0 := ht
        by_cases e : i = n
        · rw [e]; exact List.length_eq_zero_iff.1 (by omega)
        · exact ih (by omega) i (by omega)
    rw [this n h0 i hi] at h1
    cases h1
end Go.Proofs.Ytoonhcmeklmnlaa
