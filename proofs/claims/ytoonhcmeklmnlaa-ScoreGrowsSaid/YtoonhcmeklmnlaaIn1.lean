/- The files that lie over one another, told plainly. -/
import Derived.Test.YtoonhcmeklmnlaaSkQ
import Derived.Test.YtoonhcmeklmnlaaTy
set_option linter.unusedSimpArgs false
set_option linter.unusedVariables false
set_option linter.unnecessarySimpa false
namespace Go.St

def kle (a b : ByteArray) : Bool := !kl b a
theorem kle_refl (a : ByteArray) : kle a a = true := by simp [kle, kl_irrefl]
theorem kle_total (a b : ByteArray) : kle a b = true ∨ kle b a = true := by
  unfold kle
  cases h : kl b a with
  | false => exact .inl rfl
  | true => rw [kl_asymm h]; exact .inr rfl
theorem kle_antisymm {a b : ByteArray} (h1 : kle a b = true) (h2 : kle b a = true) : a = b := by
  unfold kle at h1 h2
  rcases kl_total a b with h | h | h
  · rw [h] at h2; cases h2
  · exact h
  · rw [h] at h1; cases h1
theorem kle_trans {a b c : ByteArray} (h1 : kle a b = true) (h2 : kle b c = true) : kle a c = true := by
  unfold kle at *
  cases h : kl c a with
  | false => rfl
  | true =>
    rcases kl_total a b with e | e | e
    · rw [kl_trans h e] at h2; cases h2
    · subst e; rw [h] at h2; cases h2
    · rw [e] at h1; cases h1
theorem kle_eq (a b : ByteArray) : (Op.bytesLess a.toList b.toList || a.toList == b.toList) = kle a b := by
  unfold kle
  show (kl a b || _) = _
  rcases kl_total a b with h | h | h
  · rw [h, kl_asymm h]; rfl
  · subst h; rw [kl_irrefl]; simp
  · rw [h, kl_asymm h]
    have : (a.toList == b.toList) = false := by
      cases e : (a.toList == b.toList) with
      | false => rfl
      | true =>
        have := ba_ext (eq_of_beq e)
        subst this; rw [kl_irrefl] at h; cases h
    rw [this]; rfl

def mnB (a b : ByteArray) : ByteArray := if kle a b = true then a else b
def mxB (a b : ByteArray) : ByteArray := if kle b a = true then a else b
theorem le_mnB {a b c : ByteArray} : kle c (mnB a b) = true ↔ kle c a = true ∧ kle c b = true := by
  unfold mnB
  by_cases h : kle a b = true
  · rw [if_pos h]; exact ⟨fun x => ⟨x, kle_trans x h⟩, fun x => x.1⟩
  · rw [if_neg h]
    have := (kle_total a b).resolve_left h
    exact ⟨fun x => ⟨kle_trans x this, x⟩, fun x => x.2⟩
theorem mxB_le {a b c : ByteArray} : kle (mxB a b) c = true ↔ kle a c = true ∧ kle b c = true := by
  unfold mxB
  by_cases h : kle b a = true
  · rw [if_pos h]; exact ⟨fun x => ⟨x, kle_trans h x⟩, fun x => x.1⟩
  · rw [if_neg h]
    have := (kle_total b a).resolve_left h
    exact ⟨fun x => ⟨kle_trans this x, x⟩, fun x => x.2⟩
theorem mnB_or (a b : ByteArray) : mnB a b = a ∨ mnB a b = b := by unfold mnB; split; exact .inl rfl; exact .inr rfl
theorem mxB_or (a b : ByteArray) : mxB a b = a ∨ mxB a b = b := by unfold mxB; split; exact .inl rfl; exact .inr rfl
theorem mnB_kl (a b : ByteArray) : mnB a b = if kl b a = true then b else a := by
  unfold mnB kle; cases kl b a <;> simp
theorem mxB_kl (a b : ByteArray) : mxB a b = if kl a b = true then b else a := by
  unfold mxB kle; cases kl a b <;> simp

/-- has a file a user from one to another? -/
def ov (a b : ByteArray) (f : File) : Bool := kle (mxB a f.small.user) (mnB b f.large.user)
theorem ov_eq (a b : ByteArray) (f : File) : ov a b f = (kle a b && kle f.small.user f.large.user && kle f.small.user b && kle a f.large.user) := by
  rw [Bool.eq_iff_iff]
  unfold ov
  rw [mxB_le, le_mnB, le_mnB]
  simp only [Bool.and_eq_true]
  exact ⟨fun h => ⟨⟨⟨h.1.1, h.2.2⟩, h.2.1⟩, h.1.2⟩, fun h => ⟨⟨h.1.1.1, h.2⟩, ⟨h.1.2, h.1.1.2⟩⟩⟩
theorem ov_mono {a b a' b' : ByteArray} {f : File} (h : ov a b f = true) (h1 : kle a' a = true) (h2 : kle b b' = true) : ov a' b' f = true := by
  rw [ov_eq] at h ⊢
  simp only [Bool.and_eq_true] at h ⊢
  exact ⟨⟨⟨kle_trans h1 (kle_trans h.1.1.1 h2), h.1.1.2⟩, kle_trans h.1.2 h2⟩, kle_trans h1 h.2⟩

/-- the files at the places that are chosen -/
def selTo (l : List File) (p : Nat → Bool) (n : Nat) : List File := ((List.range n).filter p).map (nth l)
def sel (l : List File) (p : Nat → Bool) : List File := selTo l p l.length
theorem selTo_succ (l : List File) (p : Nat → Bool) (n : Nat) : selTo l p (n + 1) = selTo l p n ++ (if p n = true then [nth l n] else []) := by
  unfold selTo
  rw [List.range_succ, List.filter_append, List.map_append]
  congr 1
  by_cases h : p n = true
  · simp [h]
  · simp [h]
theorem sel_congr {l : List File} {p q : Nat → Bool} (h : ∀ i, i < l.length → p i = q i) : sel l p = sel l q := by
  unfold sel selTo
  congr 1
  exact List.filter_congr fun i hi => h i (List.mem_range.1 hi)
theorem selTo_le (l : List File) (p : Nat → Bool) (n : Nat) : (selTo l p n).length ≤ n := by
  unfold selTo
  rw [List.length_map]
  have := List.length_filter_le p (List.range n)
  simpa using this

def spanTo (s : ByteArray × ByteArray) (l : List File) : ByteArray × ByteArray := l.foldl (fun s f => (mnB s.1 f.small.user, mxB s.2 f.large.user)) s
theorem spanTo_snoc (s : ByteArray × ByteArray) (l : List File) (f : File) : spanTo s (l ++ [f]) = (mnB (spanTo s l).1 f.small.user, mxB (spanTo s l).2 f.large.user) := by
  simp [spanTo]
def span (l : List File) : ByteArray × ByteArray := spanTo ((nth l 0).small.user, (nth l 0).large.user) l

/-- from the least to the greatest user of those that are chosen -/
structure IsSpan (l : List File) (p : Nat → Bool) (s : ByteArray × ByteArray) : Prop where
  lo : ∀ i, i < l.length → p i = true → kle s.1 (nth l i).small.user = true ∧ kle (nth l i).large.user s.2 = true
  a : ∃ i, i < l.length ∧ p i = true ∧ s.1 = (nth l i).small.user
  b : ∃ i, i < l.length ∧ p i = true ∧ s.2 = (nth l i).large.user
theorem IsSpan.mono {l : List File} {p q : Nat → Bool} {s t : ByteArray × ByteArray} (h : IsSpan l p s) (k : IsSpan l q t) (hpq : ∀ i, i < l.length → p i = true → q i = true) : kle t.1 s.1 = true ∧ kle s.2 t.2 = true := by
  obtain ⟨i, hi, hp, e⟩ := h.a
  obtain ⟨j, hj, hp', e'⟩ := h.b
  exact ⟨by rw [e]; exact (k.lo i hi (hpq i hi hp)).1, by rw [e']; exact (k.lo j hj (hpq j hj hp')).2⟩
theorem IsSpan.uniq {l : List File} {p q : Nat → Bool} {s t : ByteArray × ByteArray} (h : IsSpan l p s) (k : IsSpan l q t) (hpq : ∀ i, i < l.length → p i = q i) : s = t := by
  have h1 := h.mono k (fun i hi hp => by rw [← hpq i hi]; exact hp)
  have h2 := k.mono h (fun i hi hp => by rw [hpq i hi]; exact hp)
  exact Prod.ext (kle_antisymm h2.1 h1.1) (kle_antisymm h1.2 h2.2)

theorem spanTo_lo (s : ByteArray × ByteArray) : ∀ (m : List File), (∀ f, f ∈ m → kle (spanTo s m).1 f.small.user = true ∧ kle f.large.user (spanTo s m).2 = true) ∧ kle (spanTo s m).1 s.1 = true ∧ kle s.2 (spanTo s m).2 = true ∧
    ((spanTo s m).1 = s.1 ∨ ∃ f, f ∈ m ∧ (spanTo s m).1 = f.small.user) ∧ ((spanTo s m).2 = s.2 ∨ ∃ f, f ∈ m ∧ (spanTo s m).2 = f.large.user) := by
  intro m
  induction m generalizing s with
  | nil => exact ⟨(fun f h => by cases h), kle_refl _, kle_refl _, .inl rfl, .inl rfl⟩
  | cons g m ih =>
    obtain ⟨h1, h2, h3, h4, h5⟩ := ih (mnB s.1 g.small.user, mxB s.2 g.large.user)
    have e : spanTo s (g :: m) = spanTo (mnB s.1 g.small.user, mxB s.2 g.large.user) m := rfl
    rw [e]
    have a1 := le_mnB.1 h2
    have a2 := mxB_le.1 h3
    refine ⟨fun f hf => ?_, a1.1, a2.1, ?_, ?_⟩
    · rcases List.mem_cons.1 hf with rfl | hf
      · exact ⟨a1.2, a2.2⟩
      · exact h1 f hf
    · rcases h4 with h | ⟨f, hf, h⟩
      · rcases mnB_or s.1 g.small.user with k | k
        · exact .inl (h.trans k)
        · exact .inr ⟨g, List.mem_cons_self .., h.trans k⟩
      · exact .inr ⟨f, List.mem_cons_of_mem _ hf, h⟩
    · rcases h5 with h | ⟨f, hf, h⟩
      · rcases mxB_or s.2 g.large.user with k | k
        · exact .inl (h.trans k)
        · exact .inr ⟨g, List.mem_cons_self .., h.trans k⟩
      · exact .inr ⟨f, List.mem_cons_of_mem _ hf, h⟩

theorem mem_sel {l : List File} {p : Nat → Bool} {f : File} : f ∈ sel l p ↔ ∃ i, i < l.length ∧ p i = true ∧ f = nth l i := by
  unfold sel selTo
  constructor
  · intro h
    obtain ⟨i, hi, rfl⟩ := List.mem_map.1 h
    obtain ⟨h1, h2⟩ := List.mem_filter.1 hi
    exact ⟨i, List.mem_range.1 h1, h2, rfl⟩
  · rintro ⟨i, hi, hp, rfl⟩
    exact List.mem_map.2 ⟨i, List.mem_filter.2 ⟨List.mem_range.2 hi, hp⟩, rfl⟩
theorem span_is {l : List File} {p : Nat → Bool} (h : ∃ i, i < l.length ∧ p i = true) : IsSpan l p (span (sel l p)) := by
  obtain ⟨i, hi, hp⟩ := h
  have hm : nth l i ∈ sel l p := mem_sel.2 ⟨i, hi, hp, rfl⟩
  have hpos : 0 < (sel l p).length := List.length_pos_of_mem hm
  have h0 : nth (sel l p) 0 ∈ sel l p := nth_mem _ _ hpos
  obtain ⟨h1, h2, h3, h4, h5⟩ := spanTo_lo ((nth (sel l p) 0).small.user, (nth (sel l p) 0).large.user) (sel l p)
  obtain ⟨z, hz, hpz, ez⟩ := mem_sel.1 h0
  refine ⟨fun j hj hpj => h1 _ (mem_sel.2 ⟨j, hj, hpj, rfl⟩), ?_, ?_⟩
  · rcases h4 with h | ⟨f, hf, h⟩
    · exact ⟨z, hz, hpz, by rw [← ez]; exact h⟩
    · obtain ⟨j, hj, hpj, e⟩ := mem_sel.1 hf
      exact ⟨j, hj, hpj, by rw [← e]; exact h⟩
  · rcases h5 with h | ⟨f, hf, h⟩
    · exact ⟨z, hz, hpz, by rw [← ez]; exact h⟩
    · obtain ⟨j, hj, hpj, e⟩ := mem_sel.1 hf
      exact ⟨j, hj, hpj, by rw [← e]; exact h⟩

/-- the last one, and what lies over a span -/
def low (l : List File) (s : ByteArray × ByteArray) (i : Nat) : Bool := i == l.length - 1 || ov s.1 s.2 (nth l i)
theorem low_last (l : List File) (s : ByteArray × ByteArray) : low l s (l.length - 1) = true := by simp [low]
theorem low_ex {l : List File} (h : 0 < l.length) (s : ByteArray × ByteArray) : ∃ i, i < l.length ∧ low l s i = true := ⟨l.length - 1, by omega, low_last l s⟩
theorem low_mono {l : List File} {s t : ByteArray × ByteArray} (h1 : kle t.1 s.1 = true) (h2 : kle s.2 t.2 = true) (i : Nat) (h : low l s i = true) : low l t i = true := by
  unfold low at *
  rw [Bool.or_eq_true] at h ⊢
  exact h.imp (fun x => x) (fun x => ov_mono x h1 h2)

/-- nothing beside those that are chosen lies over them -/
def Closed (l : List File) (q : Nat → Bool) : Prop := q (l.length - 1) = true ∧ ∀ i, i < l.length → low l (span (sel l q)) i = true → q i = true
/-- chosen by every closed choice -/
def Least (l : List File) (p : Nat → Bool) : Prop := ∀ q, Closed l q → ∀ i, i < l.length → p i = true → q i = true
theorem least_one {l : List File} {p q : Nat → Bool} (h1 : Closed l p) (h2 : Closed l q) (h3 : Least l p) (h4 : Least l q) : sel l p = sel l q :=
  sel_congr fun i hi => Bool.eq_iff_iff.2 ⟨h3 q h2 i hi, h4 p h1 i hi⟩
theorem least_low {l : List File} (hl : 0 < l.length) {p : Nat → Bool} (h : Least l p) (hp : ∃ i, i < l.length ∧ p i = true) {s : ByteArray × ByteArray} (hs : IsSpan l p s) : Least l (low l s) := by
  intro q hq i hi hlow
  have hsq := span_is (l := l) (p := q) ⟨l.length - 1, by omega, hq.1⟩
  have hw := hs.mono hsq (h q hq)
  exact hq.2 i hi (low_mono hw.1 hw.2 i hlow)

/-- how many are chosen -/
def cntP (n : Nat) (p : Nat → Bool) : Nat := ((List.range n).filter p).length
theorem cntP_le (n : Nat) (p : Nat → Bool) : cntP n p ≤ n := by
  have := List.length_filter_le p (List.range n)
  simpa [cntP] using this
theorem cntP_mono {n : Nat} {p q : Nat → Bool} (h : ∀ i, i < n → p i = true → q i = true) : cntP n p ≤ cntP n q ∧ (cntP n p = cntP n q → ∀ i, i < n → p i = q i) := by
  by_cases hx : ∃ i, i < n ∧ q i = true ∧ p i = false
  · obtain ⟨i, hi, h1, h2⟩ := hx
    have := filter_lt (p := p) (q := q) (l := List.range n) (fun x hx => h x (List.mem_range.1 hx)) ⟨i, List.mem_range.2 hi, h1, h2⟩
    unfold cntP
    exact ⟨Nat.le_of_lt this, fun e => by omega⟩
  · have he : ∀ i, i < n → p i = q i := fun i hi => by
      cases hp : p i with
      | true => exact (h i hi hp).symm
      | false =>
        cases hq : q i with
        | false => rfl
        | true => exact absurd ⟨i, hi, hq, hp⟩ hx
    have : cntP n p = cntP n q := by
      unfold cntP
      rw [List.filter_congr fun i hi => he i (List.mem_range.1 hi)]
    exact ⟨Nat.le_of_eq this, fun _ => he⟩

/-! ### the program's rounds -/
structure Grow (l : List File) (s : ByteArray × ByteArray) : Prop where
  ex : ∃ p, IsSpan l p s ∧ (∀ i, i < l.length → p i = true → low l s i = true) ∧ Least l p ∧ ∃ i, i < l.length ∧ p i = true
theorem grow_start {l : List File} (h : 0 < l.length) : Grow l ((nth l (l.length - 1)).small.user, (nth l (l.length - 1)).large.user) := by
  refine ⟨fun i => i == l.length - 1, ⟨fun i hi hp => ?_, ⟨l.length - 1, by omega, by simp, rfl⟩, ⟨l.length - 1, by omega, by simp, rfl⟩⟩, fun i hi hp => by simp [low, hp], fun q hq i hi hp => ?_, l.length - 1, by omega, by simp⟩
  · have : i = l.length - 1 := by simpa using hp
    subst this
    exact ⟨kle_refl _, kle_refl _⟩
  · have : i = l.length - 1 := by simpa using hp
    subst this
    exact hq.1
theorem Grow.next {l : List File} (hl : 0 < l.length) {s : ByteArray × ByteArray} (h : Grow l s) : Grow l (span (sel l (low l s))) ∧ ∀ i, i < l.length → low l s i = true → low l (span (sel l (low l s))) i = true := by
  obtain ⟨p, h1, h2, h3, h4⟩ := h.ex
  have hs := span_is (low_ex hl s)
  have hw := h1.mono hs h2
  have hm : ∀ i, i < l.length → low l s i = true → low l (span (sel l (low l s))) i = true := fun i _ => low_mono hw.1 hw.2 i
  exact ⟨⟨low l s, hs, hm, least_low hl h3 h4 h1, low_ex hl s⟩, hm⟩
theorem Grow.done {l : List File} (hl : 0 < l.length) {s : ByteArray × ByteArray} (h : Grow l s) (he : span (sel l (low l s)) = s) : Closed l (low l s) ∧ Least l (low l s) := by
  obtain ⟨p, h1, h2, h3, h4⟩ := h.ex
  exact ⟨⟨low_last l s, fun i hi hlow => by rw [he] at hlow; exact hlow⟩, least_low hl h3 h4 h1⟩
open Classical in
noncomputable def growLeft (l : List File) (s : ByteArray × ByteArray) : Nat := 2 * (l.length - cntP l.length (low l s)) + if span (sel l (low l s)) = s then 0 else 1
theorem growLeft_lt {l : List File} (hl : 0 < l.length) {s : ByteArray × ByteArray} (h : Grow l s) (hne : span (sel l (low l s)) ≠ s) : growLeft l (span (sel l (low l s))) < growLeft l s := by
  have hn := h.next hl
  obtain ⟨h1, h2⟩ := cntP_mono hn.2
  have hb := cntP_le l.length (low l (span (sel l (low l s))))
  unfold growLeft
  rw [if_neg hne]
  by_cases e : cntP l.length (low l s) = cntP l.length (low l (span (sel l (low l s))))
  · have hq := h2 e
    have : span (sel l (low l (span (sel l (low l s))))) = span (sel l (low l s)) := (congrArg span (sel_congr hq)).symm
    rw [if_pos this]
    omega
  · have : cntP l.length (low l s) < cntP l.length (low l (span (sel l (low l s)))) := by omega
    split <;> omega

/-! ### the reference's rounds -/
structure Takes (l : List File) (t : Nat → Bool) (r : Nat) : Prop where
  last : t (l.length - 1) = true
  least : Least l t
  cl : Closed l t ∨ r + 1 ≤ cntP l.length t
def take1 (l : List File) (t : Nat → Bool) (i : Nat) : Bool := t i || ov (span (sel l t)).1 (span (sel l t)).2 (nth l i)
theorem takes_start {l : List File} (h : 0 < l.length) : Takes l (fun i => i == l.length - 1) 0 := by
  refine ⟨by simp, fun q hq i hi hp => ?_, .inr ?_⟩
  · have : i = l.length - 1 := by simpa using hp
    subst this
    exact hq.1
  · unfold cntP
    exact List.length_pos_of_mem (List.mem_filter.2 ⟨List.mem_range.2 (show l.length - 1 < l.length by omega), by simp⟩)
theorem Takes.next {l : List File} (hl : 0 < l.length) {t : Nat → Bool} {r : Nat} (h : Takes l t r) : Takes l (take1 l t) (r + 1) := by
  have hex : ∃ i, i < l.length ∧ t i = true := ⟨l.length - 1, by omega, h.last⟩
  have hs := span_is hex
  have hsub : ∀ i, i < l.length → t i = true → take1 l t i = true := fun i _ hi => by simp [take1, hi]
  have hle : Least l (take1 l t) := by
    intro q hq i hi ht
    have hsq := span_is (l := l) (p := q) ⟨l.length - 1, by omega, hq.1⟩
    have hw := hs.mono hsq (h.least q hq)
    unfold take1 at ht
    rw [Bool.or_eq_true] at ht
    rcases ht with ht | ht
    · exact h.least q hq i hi ht
    · refine hq.2 i hi ?_
      unfold low
      rw [ov_mono ht hw.1 hw.2, Bool.or_true]
  refine ⟨by simp [take1, h.last], hle, ?_⟩
  by_cases hc : ∀ i, i < l.length → t i = take1 l t i
  · refine .inl ⟨by simp [take1, h.last], fun i hi hlow => ?_⟩
    rw [← sel_congr hc] at hlow
    unfold low at hlow
    rw [Bool.or_eq_true] at hlow
    unfold take1
    rcases hlow with e | e
    · have : i = l.length - 1 := by simpa using e
      subst this
      simp [h.last]
    · simp [e]
  · obtain ⟨h1, h2⟩ := cntP_mono hsub
    rcases h.cl with hcl | hcnt
    · exfalso
      refine hc fun i hi => Bool.eq_iff_iff.2 ⟨hsub i hi, fun ht => ?_⟩
      unfold take1 at ht
      rw [Bool.or_eq_true] at ht
      rcases ht with e | e
      · exact e
      · exact hcl.2 i hi (by unfold low; rw [e, Bool.or_true])
    · refine .inr ?_
      have : cntP l.length t ≠ cntP l.length (take1 l t) := fun e => hc (h2 e)
      omega
theorem Takes.done {l : List File} {t : Nat → Bool} (h : Takes l t (l.length + 1)) : Closed l t ∧ Least l t := by
  refine ⟨?_, h.least⟩
  rcases h.cl with hc | hc
  · exact hc
  · have := cntP_le l.length t
    omega
end Go.St
