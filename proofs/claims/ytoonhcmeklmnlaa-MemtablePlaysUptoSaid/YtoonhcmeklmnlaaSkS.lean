/- What is sought in a list that is done: the plain part. -/
import Derived.Test.YtoonhcmeklmnlaaLawSk
set_option linter.unusedSimpArgs false
set_option linter.unusedVariables false
set_option linter.unnecessarySimpa false
namespace Go.Proofs.Ytoonhcmeklmnlaa
open Go.RowKit Go.Rg Go.St

/-- a rising list is cut where a bound stands -/
theorem split_ex {key : Nat → ByteArray} {p : ByteArray → Bool} (hp : ∀ a b, kl a b = true → p b = true → p a = true) : ∀ {js : List Nat}, Rises key js → ∃ us vs, js = us ++ vs ∧ (∀ j, j ∈ us → p (key j) = true) ∧ ∀ j, j ∈ vs → p (key j) = false
  | [], _ => ⟨[], [], rfl, (fun j h => by cases h), fun j h => by cases h⟩
  | a :: js, h => by
    have h' := List.pairwise_cons.1 h
    cases hpa : p (key a) with
    | true =>
      obtain ⟨us, vs, rfl, h1, h2⟩ := split_ex hp (js := js) h'.2
      refine ⟨a :: us, vs, rfl, fun j hj => ?_, h2⟩
      rcases List.mem_cons.1 hj with rfl | hj
      · exact hpa
      · exact h1 j hj
    | false =>
      refine ⟨[], a :: js, rfl, (fun j h => by cases h), fun j hj => ?_⟩
      rcases List.mem_cons.1 hj with rfl | hj
      · exact hpa
      · cases hq : p (key j) with
        | false => rfl
        | true => rw [hp _ _ (h'.1 j hj) hq] at hpa; cases hpa
theorem split_one {q : Nat → Bool} : ∀ {us vs us' vs' : List Nat}, us ++ vs = us' ++ vs' → (∀ j, j ∈ us → q j = true) → (∀ j, j ∈ vs → q j = false) → (∀ j, j ∈ us' → q j = true) → (∀ j, j ∈ vs' → q j = false) → us = us' ∧ vs = vs'
  | [], vs, [], vs', h, _, _, _, _ => ⟨rfl, h⟩
  | [], vs, b :: us', vs', h, _, h2, h3, _ => by
    have := h2 b (by simp only [List.nil_append] at h; rw [h]; simp)
    rw [h3 b (by simp)] at this; cases this
  | a :: us, vs, [], vs', h, h1, _, _, h4 => by
    have := h4 a (by simp only [List.nil_append] at h; rw [← h]; simp)
    rw [h1 a (by simp)] at this; cases this
  | a :: us, vs, b :: us', vs', h, h1, h2, h3, h4 => by
    simp only [List.cons_append, List.cons.injEq] at h
    obtain ⟨rfl, h⟩ := h
    obtain ⟨rfl, rfl⟩ := split_one h (fun j hj => h1 j (List.mem_cons_of_mem _ hj)) h2 (fun j hj => h3 j (List.mem_cons_of_mem _ hj)) h4
    exact ⟨rfl, rfl⟩

/-- what is sought, where level 0 is cut in two -/
theorem seek_cut {K : SK} (hI : Inv K) {key : ByteArray} {us vs : List Nat} (hl : Lvl K 0 (us ++ vs)) (h1 : ∀ j, j ∈ us → kl (K.key j) key = true) (h2 : ∀ j, j ∈ vs → kl (K.key j) key = false) {r : Option Nat} (hs : Stop K (fun k => kl k key) r) : r = us.getLast? ∧ K.nxt r 0 = vs.head? := by
  obtain ⟨us', vs', he, h3, h4, h5, h6⟩ := sought hI (kl_down key) hs hl
  obtain ⟨rfl, rfl⟩ := split_one (q := fun j => kl (K.key j) key) he h1 h2 h3 h4
  exact ⟨h5, h6⟩
theorem last_cut {K : SK} (hI : Inv K) {js : List Nat} (hl : Lvl K 0 js) {r : Option Nat} (hs : Stop K (fun _ => true) r) : r = js.getLast? := by
  obtain ⟨us', vs', rfl, h3, h4, h5, h6⟩ := sought hI (fun _ _ _ _ => rfl) hs hl
  cases vs' with
  | nil => rw [List.append_nil]; exact h5
  | cons v vs' => have := h4 v (by simp); cases this

theorem lvl_cells {w : World} {base : Nat} {v : Value} {K : SK} {js : List Nat} {n : Nat} (h : w.ownsRow base 9 1 v n ((keysOf K js).map .string)) (hn : n = js.length) : Sl1 w v js.length (fun i => .string (K.key (nth js i))) := by
  subst hn
  have := owns_str (xs := keysOf K js) h (by simp [keysOf])
  unfold SlStr at this
  rw [show (keysOf K js).length = js.length by simp [keysOf]] at this
  exact Sl1.cong this fun i hi => by
    rw [nth_eq _ _ (by simpa [keysOf] using hi), nth_eq js i hi]; simp [keysOf]

theorem tellO_get {K : SK} {js : List Nat} (i : Nat) : tellO K js[i]? = if i < js.length then (K.key (nth js i), true) else (ByteArray.empty, false) := by
  by_cases h : i < js.length
  · rw [if_pos h, List.getElem?_eq_getElem h, nth_eq js i h]; rfl
  · rw [if_neg h, List.getElem?_eq_none (by omega)]; rfl

theorem lvl_facts {K : SK} (hI : Inv K) {js : List Nat} (hl : Lvl K 0 js) (key : ByteArray) : ∃ n : Nat, n ≤ js.length ∧ (∀ i, i < n → kl (K.key (nth js i)) key = true) ∧ (n < js.length → kl (K.key (nth js n)) key = false) ∧
    (∀ r, Stop K (fun k => kl k key) r → tellO K (K.nxt r 0) = if n < js.length then (K.key (nth js n), true) else (ByteArray.empty, false)) ∧
    (∀ r, Stop K (fun k => kl k key) r → tellO K r = if 0 < n then (K.key (nth js (n - 1)), true) else (ByteArray.empty, false)) ∧
    (∀ r, Stop K (fun _ => true) r → tellO K r = if 0 < js.length then (K.key (nth js (js.length - 1)), true) else (ByteArray.empty, false)) := by
  obtain ⟨us, vs, rfl, h1, h2⟩ := split_ex (kl_down key) hl.up
  have hlen : (us ++ vs).length = us.length + vs.length := List.length_append
  have e1 : ∀ i, i < us.length → nth (us ++ vs) i = nth us i := fun i hi => by
    rw [nth_eq _ _ (by omega), nth_eq _ _ hi, List.getElem_append_left hi]
  refine ⟨us.length, by omega, fun i hi => ?_, fun hn => ?_, fun r hs => ?_, fun r hs => ?_, fun r hs => ?_⟩
  · rw [e1 i hi]; exact h1 _ (nth_mem us i hi)
  · refine h2 _ ?_
    rw [nth_eq _ _ hn, List.getElem_append_right (by omega)]
    exact List.getElem_mem _
  · rw [(seek_cut hI hl h1 h2 hs).2, ← tellO_get]
    congr 1
    rw [List.getElem?_append_right (by omega), Nat.sub_self, List.head?_eq_getElem?]
  · rw [(seek_cut hI hl h1 h2 hs).1, List.getLast?_eq_getElem?, tellO_get]
    by_cases h : 0 < us.length
    · rw [if_pos h, if_pos (by omega), e1 _ (by omega)]
    · rw [if_neg h, if_neg (by omega)]
  · rw [last_cut hI hl hs, List.getLast?_eq_getElem?, tellO_get]
    by_cases h : 0 < (us ++ vs).length
    · rw [if_pos h, if_pos (by omega)]
    · rw [if_neg h, if_neg (by omega)]


/-- the first of some keys that is not less -/
def FirstOf (ks : ByteArray → Prop) (from_ s : ByteArray) (ok : Bool) : Prop :=
  (ok = true ∧ ks s ∧ kl s from_ = false ∧ ∀ k, ks k → kl k from_ = false → kl k s = false) ∨ (ok = false ∧ s = ByteArray.empty ∧ ∀ k, ks k → kl k from_ = true)
theorem first_list {K : SK} (hI : Inv K) (hd : ∀ j, j < K.n → K.lv j = K.ht j) {from_ : ByteArray} {r : Option Nat} (hs : Stop K (fun k => kl k from_) r) :
    FirstOf (fun k => ∃ j, j < K.n ∧ K.key j = k) from_ (tellO K (K.nxt r 0)).1 (tellO K (K.nxt r 0)).2 := by
  obtain ⟨js, hc, hr, hm⟩ := hI.ch 0 (by decide)
  have hl : Lvl K 0 js := ⟨hc, hr, hm⟩
  obtain ⟨n, hn, h1, h2, h3, _⟩ := lvl_facts hI hl from_
  have hall : ∀ j, j < K.n → j ∈ js := fun j hj => (hm j).2 ⟨hj, by rw [hd j hj]; exact (hI.ht j hj).1⟩
  rw [h3 r hs]
  by_cases h : n < js.length
  · rw [if_pos h]
    have hmem := (hm _).1 (nth_mem js n h)
    refine .inl ⟨rfl, ⟨_, hmem.1, rfl⟩, h2 h, ?_⟩
    rintro k ⟨j, hj, rfl⟩ hk
    obtain ⟨i, hi, e⟩ := mem_nth (hall j hj)
    by_cases hin : i < n
    · have := h1 i hin
      rw [e] at this
      rw [this] at hk; cases hk
    · by_cases hie : i = n
      · subst hie; rw [e]; exact kl_irrefl _
      · have hp := List.pairwise_iff_getElem.1 hr n i h hi (by omega)
        rw [← nth_eq js n h, ← nth_eq js i hi, e] at hp
        exact kl_asymm hp
  · rw [if_neg h]
    refine .inr ⟨rfl, rfl, ?_⟩
    rintro k ⟨j, hj, rfl⟩
    obtain ⟨i, hi, e⟩ := mem_nth (hall j hj)
    have := h1 i (by omega)
    rwa [e] at this
/-- of two lots of keys -/
theorem first_both {ks ks' : ByteArray → Prop} {from_ s s' : ByteArray} {ok ok' : Bool} (h : FirstOf ks from_ s ok) (h' : FirstOf ks' from_ s' ok') :
    if ok' = true ∧ (ok = false ∨ kl s' s = true) then FirstOf (fun k => ks k ∨ ks' k) from_ s' true else FirstOf (fun k => ks k ∨ ks' k) from_ s ok := by
  rcases h' with ⟨rfl, a1, a2, a3⟩ | ⟨rfl, rfl, a1⟩
  · rcases h with ⟨rfl, b1, b2, b3⟩ | ⟨rfl, rfl, b1⟩
    · by_cases hlt : kl s' s = true
      · rw [if_pos ⟨rfl, .inr hlt⟩]
        refine .inl ⟨rfl, .inr a1, a2, ?_⟩
        rintro k (hk | hk) hf
        · cases hks : kl k s' with
          | false => rfl
          | true => have := kl_trans hks hlt; rw [b3 k hk hf] at this; cases this
        · exact a3 k hk hf
      · rw [if_neg (by rintro ⟨_, h | h⟩; cases h; exact hlt h)]
        refine .inl ⟨rfl, .inl b1, b2, ?_⟩
        rintro k (hk | hk) hf
        · exact b3 k hk hf
        · cases hks : kl k s with
          | false => rfl
          | true =>
            have h9 := a3 k hk hf
            rcases kl_total s' s with e | e | e
            · exact absurd e hlt
            · subst e; rw [h9] at hks; cases hks
            · have := kl_trans hks e; rw [h9] at this; cases this
    · rw [if_pos ⟨rfl, .inl rfl⟩]
      refine .inl ⟨rfl, .inr a1, a2, ?_⟩
      rintro k (hk | hk) hf
      · rw [b1 k hk] at hf; cases hf
      · exact a3 k hk hf
  · rw [if_neg (fun h => by cases h.1)]
    rcases h with ⟨rfl, b1, b2, b3⟩ | ⟨rfl, rfl, b1⟩
    · refine .inl ⟨rfl, .inl b1, b2, ?_⟩
      rintro k (hk | hk) hf
      · exact b3 k hk hf
      · rw [a1 k hk] at hf; cases hf
    · refine .inr ⟨rfl, rfl, ?_⟩
      rintro k (hk | hk)
      · exact b1 k hk
      · exact a1 k hk
end Go.Proofs.Ytoonhcmeklmnlaa
