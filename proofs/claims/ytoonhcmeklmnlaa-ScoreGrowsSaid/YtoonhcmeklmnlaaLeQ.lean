/- The program's Inputs of any files, levels and users; a Version and a key in a block. -/
import Derived.Test.YtoonhcmeklmnlaaVrA
import Derived.Test.YtoonhcmeklmnlaaVrO
import Derived.Test.YtoonhcmeklmnlaaIn7
import Derived.Test.YtoonhcmeklmnlaaRgJ
import Derived.Test.YtoonhcmeklmnlaaSc3
import Derived.Deep.RegionLaw
import Derived.OwnWalk
set_option linter.unusedSimpArgs false
set_option linter.unusedVariables false
set_option linter.unnecessarySimpa false

/-! ## (LeP) What is merged can be taken away: plain. -/
namespace Go.Proofs.Ytoonhcmeklmnlaa
open Go.RowKit Go.Rg Go.St

/-! ### files that are taken away -/
theorem StF.sub {A B : List File} {V U : Lv} (h : StF A V) (hB : B.Sublist A) (hU : ∀ n, n < 4 → (U n).Pairwise (RF n) ∧ (U n).Perm (onL B n)) : StF B U :=
  ⟨fun f hf => h.ok f (hB.subset hf), h.pw.sublist hB, hU⟩
theorem StF.uniq {A : List File} {V : Lv} (h : StF A V) : UniqS V := uniq_of_ok h.ver
theorem StF.del {A : List File} {V : Lv} (h : StF A V) (num : Int) {k : Nat} (hk : k < 4) : ∃ B, StF B (upd V k (remF num (V k))) := by
  refine ⟨A.filter fun f => !(decide (f.num = num) && decide (f.level = (k : Int))), h.sub List.filter_sublist fun n hn => ?_⟩
  by_cases e : n = k
  · subst e
    rw [upd_same]
    refine ⟨(h.lv n hn).1.sublist List.filter_sublist, ?_⟩
    have := (h.lv n hn).2.filter (fun f => decide (f.num ≠ num))
    unfold remF
    refine this.trans ?_
    unfold onL
    rw [List.filter_filter, List.filter_filter]
    refine List.Perm.of_eq (List.filter_congr fun f _ => ?_)
    by_cases h1 : f.num = num <;> by_cases h2 : f.level = (n : Int) <;> simp [h1, h2]
  · rw [upd_other _ _ e]
    refine ⟨(h.lv n hn).1, (h.lv n hn).2.trans ?_⟩
    unfold onL
    rw [List.filter_filter]
    refine List.Perm.of_eq (List.filter_congr fun f _ => ?_)
    by_cases h2 : f.level = (n : Int)
    · have : ¬ f.level = (k : Int) := by omega
      simp [h2]
      exact .inr (by omega)
    · simp [h2]
theorem dels_st : ∀ {ds : List Gone} {A : List File} {V S : Lv}, StF A V → (∀ d, d ∈ ds → goneC d = 0) → delsF ds V = some S → ∃ B, StF B S
  | [], A, V, S, h, _, e => by cases e; exact ⟨A, h⟩
  | d :: ds, A, V, S, h, hd, e => by
    unfold delsF at e
    split at e
    · obtain ⟨k, hk, hk4⟩ := placeC_ok (hd d List.mem_cons_self)
      obtain ⟨B, hB⟩ := h.del d.num (k := d.level.toNat) (by omega)
      exact dels_st hB (fun x hx => hd x (List.mem_cons_of_mem _ hx)) e
    · cases e
theorem adds_st : ∀ {fs : List File} {A : List File} {V : Lv}, StF A V → (∀ f, f ∈ fs → fileC f = 0) → (addsF fs V).1 = 0 → ∃ B, StF B (addsF fs V).2
  | [], A, V, h, _, _ => ⟨A, h⟩
  | f :: fs, A, V, h, hf, e => by
    unfold addsF at e ⊢
    by_cases h0 : addE V f ≠ 0
    · rw [if_pos h0] at e; exact absurd e h0
    · rw [if_neg h0] at e ⊢
      have h1 := hf f List.mem_cons_self
      exact adds_st (h.add h1 ((addE_iff h h1).1 (by simpa using h0))) (fun x hx => hf x (List.mem_cons_of_mem _ hx)) e
/-- files that may be together stay so -/
theorem apply_st {A : List File} {V : Lv} (h : StF A V) {x : Ed} (hz : (applyF V x).1 = 0) : ∃ B, StF B (applyF V x).2 := by
  unfold applyF at hz ⊢
  rw [h.ver] at hz ⊢
  rw [if_neg (by decide)] at hz ⊢
  by_cases hx : edC x ≠ 0
  · rw [if_pos hx] at hz; exact absurd hz hx
  · rw [if_neg hx] at hz ⊢
    obtain ⟨_, h1, h2⟩ := edC_parts (x := x) (by simpa using hx)
    cases hd : delsF x.dels V with
    | none => rw [hd] at hz; cases hz
    | some S =>
      rw [hd] at hz
      obtain ⟨B, hB⟩ := dels_st h h1 hd
      exact adds_st hB h2 hz
/-- files that are there are taken away -/
theorem dels_all : ∀ {ds : List Gone} {A : List File} {V : Lv}, StF A V → (∀ d, d ∈ ds → ∃ k : Nat, k < 4 ∧ d.level = k ∧ hasNum d.num (V k) = true) → ds.Nodup →
    ∃ S B, delsF ds V = some S ∧ StF B S ∧ ∀ n, n < 4 → ∀ f, f ∈ S n ↔ f ∈ V n ∧ ∀ d, d ∈ ds → ¬ (d.level = (n : Int) ∧ d.num = f.num)
  | [], A, V, h, _, _ => ⟨V, A, rfl, h, fun n hn f => ⟨fun hf => ⟨hf, fun d hd => (by cases hd)⟩, fun hf => hf.1⟩⟩
  | d :: ds, A, V, h, hd, hnd => by
    obtain ⟨n1, n2⟩ := List.nodup_cons.1 hnd
    obtain ⟨k, hk, hlv, hh⟩ := hd d List.mem_cons_self
    have hkt : d.level.toNat = k := by omega
    obtain ⟨B, hB⟩ := h.del d.num hk
    obtain ⟨S, C, e1, e2, e3⟩ := dels_all hB (fun x hx => by
      obtain ⟨j, hj, hjl, hjh⟩ := hd x (List.mem_cons_of_mem _ hx)
      refine ⟨j, hj, hjl, ?_⟩
      by_cases e : j = k
      · subst e
        rw [upd_same]
        have hne : x.num ≠ d.num := fun e => n1 (by
          have : x = d := by obtain ⟨a, b⟩ := x; obtain ⟨c, g⟩ := d; simp only at *; subst e; rw [hjl, hlv]
          rw [← this]; exact hx)
        unfold hasNum at hjh ⊢
        rw [List.any_eq_true] at hjh ⊢
        obtain ⟨f, hf, hfn⟩ := hjh
        have hfn' : f.num = x.num := by simpa using hfn
        exact ⟨f, List.mem_filter.2 ⟨hf, by rw [hfn']; simpa using hne⟩, hfn⟩
      · rw [upd_other _ _ e]; exact hjh) n2
    refine ⟨S, C, ?_, e2, fun n hn f => ?_⟩
    · unfold delsF
      rw [hkt, if_pos hh]
      exact e1
    · rw [e3 n hn f]
      by_cases e : n = k
      · subst e
        rw [upd_same]
        unfold remF
        rw [List.mem_filter]
        constructor
        · rintro ⟨⟨g1, g2⟩, g3⟩
          refine ⟨g1, fun y hy => ?_⟩
          rcases List.mem_cons.1 hy with rfl | hy
          · rintro ⟨_, q⟩; simp at g2; exact g2 q.symm
          · exact g3 y hy
        · rintro ⟨g1, g2⟩
          refine ⟨⟨g1, ?_⟩, fun y hy => g2 y (List.mem_cons_of_mem _ hy)⟩
          have := g2 d List.mem_cons_self
          simp
          intro q
          exact this ⟨hlv, q.symm⟩
      · rw [upd_other _ _ e]
        constructor
        · rintro ⟨g1, g2⟩
          refine ⟨g1, fun y hy => ?_⟩
          rcases List.mem_cons.1 hy with rfl | hy
          · rintro ⟨q, _⟩; omega
          · exact g2 y hy
        · rintro ⟨g1, g2⟩
          exact ⟨g1, fun y hy => g2 y (List.mem_cons_of_mem _ hy)⟩

/-! ### the least and the greatest user -/
def loK (a : IKey) (f : File) : IKey := if kl f.small.user a.user = true then f.small else a
def hiK (b : IKey) (f : File) : IKey := if kl b.user f.large.user = true then f.large else b
theorem lo_of (l : List File) : ∀ a : IKey, kle (l.foldl loK a).user a.user = true ∧ (∀ f, f ∈ l → kle (l.foldl loK a).user f.small.user = true) ∧ (l.foldl loK a = a ∨ ∃ f, f ∈ l ∧ l.foldl loK a = f.small) := by
  induction l with
  | nil => exact fun a => ⟨kle_refl _, fun f hf => (by cases hf), .inl rfl⟩
  | cons g l ih =>
    intro a
    obtain ⟨h1, h2, h3⟩ := ih (loK a g)
    rw [List.foldl_cons]
    have hb : kle (loK a g).user a.user = true ∧ kle (loK a g).user g.small.user = true := by
      unfold loK
      by_cases e : kl g.small.user a.user = true
      · rw [if_pos e]
        exact ⟨by unfold kle; rw [kl_asymm e]; rfl, kle_refl _⟩
      · rw [if_neg e]
        exact ⟨kle_refl _, by unfold kle; simp at e; rw [e]; rfl⟩
    refine ⟨kle_trans h1 hb.1, fun f hf => ?_, ?_⟩
    · rcases List.mem_cons.1 hf with rfl | hf
      · exact kle_trans h1 hb.2
      · exact h2 f hf
    · rcases h3 with h3 | ⟨f, hf, h3⟩
      · rw [h3]
        unfold loK
        by_cases e : kl g.small.user a.user = true
        · rw [if_pos e]; exact .inr ⟨g, List.mem_cons_self, rfl⟩
        · rw [if_neg e]; exact .inl rfl
      · exact .inr ⟨f, List.mem_cons_of_mem _ hf, h3⟩
theorem hi_of (l : List File) : ∀ a : IKey, kle a.user (l.foldl hiK a).user = true ∧ (∀ f, f ∈ l → kle f.large.user (l.foldl hiK a).user = true) ∧ (l.foldl hiK a = a ∨ ∃ f, f ∈ l ∧ l.foldl hiK a = f.large) := by
  induction l with
  | nil => exact fun a => ⟨kle_refl _, fun f hf => (by cases hf), .inl rfl⟩
  | cons g l ih =>
    intro a
    obtain ⟨h1, h2, h3⟩ := ih (hiK a g)
    rw [List.foldl_cons]
    have hb : kle a.user (hiK a g).user = true ∧ kle g.large.user (hiK a g).user = true := by
      unfold hiK
      by_cases e : kl a.user g.large.user = true
      · rw [if_pos e]
        exact ⟨by unfold kle; rw [kl_asymm e]; rfl, kle_refl _⟩
      · rw [if_neg e]
        exact ⟨kle_refl _, by unfold kle; simp at e; rw [e]; rfl⟩
    refine ⟨kle_trans hb.1 h1, fun f hf => ?_, ?_⟩
    · rcases List.mem_cons.1 hf with rfl | hf
      · exact kle_trans hb.2 h1
      · exact h2 f hf
    · rcases h3 with h3 | ⟨f, hf, h3⟩
      · rw [h3]
        unfold hiK
        by_cases e : kl a.user g.large.user = true
        · rw [if_pos e]; exact .inr ⟨g, List.mem_cons_self, rfl⟩
        · rw [if_neg e]; exact .inl rfl
      · exact .inr ⟨f, List.mem_cons_of_mem _ hf, h3⟩
theorem lo_mem {l : List File} (h : 0 < l.length) {m : List File} : ∃ f, f ∈ l ++ m ∧ (l ++ m).foldl loK (nth l 0).small = f.small := by
  rcases (lo_of (l ++ m) (nth l 0).small).2.2 with e | ⟨f, hf, e⟩
  · exact ⟨nth l 0, List.mem_append_left _ (nth_mem _ _ h), e⟩
  · exact ⟨f, hf, e⟩
theorem hi_mem {l : List File} (h : 0 < l.length) {m : List File} : ∃ f, f ∈ l ++ m ∧ (l ++ m).foldl hiK (nth l 0).large = f.large := by
  rcases (hi_of (l ++ m) (nth l 0).large).2.2 with e | ⟨f, hf, e⟩
  · exact ⟨nth l 0, List.mem_append_left _ (nth_mem _ _ h), e⟩
  · exact ⟨f, hf, e⟩
theorem span_lo {l : List File} (h : 0 < l.length) : (∀ f, f ∈ l → kle (span l).1 f.small.user = true ∧ kle f.large.user (span l).2 = true) :=
  (spanTo_lo _ l).1
theorem kl_of_kle {a b : ByteArray} (h : kle a b = false) : kl b a = true := by
  unfold kle at h; simpa using h
theorem kle_kl {a b c : ByteArray} (h1 : kle a b = true) (h2 : kl b c = true) : kl a c = true := by
  rcases kl_total a b with h | h | h
  · exact kl_trans h h2
  · rw [h]; exact h2
  · unfold kle at h1; rw [h] at h1; cases h1
theorem kl_no {a b : ByteArray} (h1 : kl a b = true) (h2 : kle b a = true) : False := by
  unfold kle at h2; rw [h1] at h2; cases h2

/-- the edit that merges -/
def mrgE (k : Nat) (xs ys : List File) (a b : IKey) : Ed := ⟨0, 0, 0, xs.map (fun f => ⟨k, f.num⟩) ++ ys.map (fun f => ⟨(k : Int) + 1, f.num⟩), [⟨(k : Int) + 1, 549755813888, 1, a, b⟩]⟩
/-- files that are merged: of a level, and those of the next one that they lie over -/
structure MrgOf (V : Lv) (k : Nat) (xs ys : List File) : Prop where
  pos : 0 < xs.length
  sub : xs.Sublist (V k)
  up : ys = ovs (span xs).1 (span xs).2 (V (k + 1))
  cl : ∀ f, f ∈ V k → f ∉ xs → ov (span xs).1 (span xs).2 f = false
theorem sel_sub (l : List File) (p : Nat → Bool) : (sel l p).Sublist l := by
  have e : l = (List.range l.length).map (nth l) := by
    apply List.ext_getElem
    · simp
    · intro i h1 h2
      simp [nth_eq l i h1]
  conv => rhs; rw [e]
  unfold sel selTo
  exact List.Sublist.map _ List.filter_sublist
theorem mrg_low {A : List File} {V : Lv} (h : StF A V) {xs : List File} (hx : Low0 (V 0) xs) (hp : 0 < (V 0).length) : MrgOf V 0 xs (ovs (span xs).1 (span xs).2 (V (0 + 1))) := by
  obtain ⟨q, h1, h2, rfl⟩ := hx
  refine ⟨List.length_pos_of_mem (mem_sel.2 ⟨(V 0).length - 1, by omega, h1.1, rfl⟩), sel_sub _ _, rfl, fun f hf hn => ?_⟩
  obtain ⟨i, hi, e⟩ := List.mem_iff_getElem.1 hf
  have e' : nth (V 0) i = f := by rw [nth_eq _ _ hi]; exact e
  have hq : q i = false := by
    cases hqi : q i with
    | false => rfl
    | true => exact absurd (mem_sel.2 ⟨i, hi, hqi, e'.symm⟩) hn
  cases ho : ov (span (sel (V 0) q)).1 (span (sel (V 0) q)).2 f with
  | false => rfl
  | true =>
    have := h1.2 i hi (by unfold low; rw [e', ho, Bool.or_true])
    rw [hq] at this; cases this
theorem span_lone (F : File) : span [F] = (F.small.user, F.large.user) := by
  have e : nth [F] 0 = F := rfl
  unfold span spanTo
  rw [e]
  simp [mnB, mxB, kle_refl]
theorem pw_two {α : Type} {R : α → α → Prop} (hs : ∀ x y, R x y → R y x) : ∀ {l : List α}, l.Pairwise R → ∀ {x y : α}, x ∈ l → y ∈ l → x ≠ y → R x y
  | [], _, x, y, h, _, _ => by cases h
  | a :: l, hp, x, y, hx, hy, hne => by
    obtain ⟨p1, p2⟩ := List.pairwise_cons.1 hp
    rcases List.mem_cons.1 hx with h1 | h1
    · subst h1
      rcases List.mem_cons.1 hy with h2 | h2
      · exact absurd h2.symm hne
      · exact p1 y h2
    · rcases List.mem_cons.1 hy with h2 | h2
      · subst h2; exact hs _ _ (p1 x h1)
      · exact pw_two hs p2 h1 h2 hne
theorem StF.apart {A : List File} {V : Lv} (h : StF A V) {n : Nat} (hn : n < 4) (h0 : 0 < n) {f g : File} (hf : f ∈ V n) (hg : g ∈ V n) (hne : f ≠ g) : kl f.large.user g.small.user = true ∨ kl g.large.user f.small.user = true := by
  obtain ⟨f1, f2⟩ := (h.mem hn).1 hf
  obtain ⟨g1, g2⟩ := (h.mem hn).1 hg
  exact (pw_two (fun _ _ hc => hc.symm) h.pw f1 g1 hne).2 (by rw [f2, g2]) (by omega)
theorem mrg_up {A : List File} {V : Lv} (h : StF A V) {k i : Nat} (hk : k < 4) (h0 : 0 < k) (hi : i < (V k).length) : MrgOf V k [nth (V k) i] (ovs (span [nth (V k) i]).1 (span [nth (V k) i]).2 (V (k + 1))) := by
  have hm := nth_mem (V k) i hi
  refine ⟨by simp, List.singleton_sublist.2 hm, rfl, fun f hf hn => ?_⟩
  have hne : nth (V k) i ≠ f := fun e => hn (by simp [e])
  rw [span_lone]
  exact (ov_apart (h.ok _ ((h.mem hk).1 hm).1) (h.ok _ ((h.mem hk).1 hf).1)).2 (h.apart hk h0 hm hf hne)
theorem MrgOf.upm {V : Lv} {k : Nat} {xs ys : List File} (h : MrgOf V k xs ys) {f : File} : f ∈ ys ↔ f ∈ V (k + 1) ∧ ov (span xs).1 (span xs).2 f = true := by
  rw [h.up]; unfold ovs; exact List.mem_filter
theorem fileC_parts {f : File} (h : fileC f = 0) : (0 ≤ f.level ∧ f.level ≤ 3 ∧ 1 ≤ f.num ∧ f.num ≤ 1099511627776) ∧ keyC f.small = 0 ∧ keyC f.large = 0 := by
  unfold fileC at h
  by_cases h1 : placeC f.level f.num ≠ 0
  · rw [if_pos h1] at h; exact absurd h h1
  · rw [if_neg h1] at h
    have hp : placeC f.level f.num = 0 := by simpa using h1
    unfold placeC at hp
    split at hp
    · cases hp
    · split at hp
      · cases hp
      · split at h
        · cases h
        · split at h
          · rename_i hh; exact absurd h hh
          · split at h
            · rename_i hh; exact absurd h hh
            · rename_i h2 h3
              exact ⟨by omega, by simpa using h2, by simpa using h3⟩
/-- the users of what is merged -/
theorem mrg_users {A : List File} {V : Lv} (h : StF A V) {k : Nat} (hk : k < 3) {xs ys : List File} (hm : MrgOf V k xs ys) {a b : IKey} (ha : a = (xs ++ ys).foldl loK (nth xs 0).small) (hb : b = (xs ++ ys).foldl hiK (nth xs 0).large) :
    kle a.user (nth xs 0).small.user = true ∧ kle (nth xs 0).large.user b.user = true ∧ kle a.user b.user = true ∧ keyC a = 0 ∧ keyC b = 0 ∧
      ∀ g, g ∈ V (k + 1) → g ∉ ys → ov a.user b.user g = false := by
  have hall : ∀ f, f ∈ xs ++ ys → fileC f = 0 := fun f hf => by
    rcases List.mem_append.1 hf with hf | hf
    · exact h.ok f ((h.mem (by omega)).1 (hm.sub.subset hf)).1
    · exact h.ok f ((h.mem (by omega)).1 (hm.upm.1 hf).1).1
  have h0 := nth_mem xs 0 hm.pos
  have h0m : nth xs 0 ∈ xs ++ ys := List.mem_append_left _ h0
  have hlo := (lo_of (xs ++ ys) (nth xs 0).small).1
  have hhi := (hi_of (xs ++ ys) (nth xs 0).large).1
  obtain ⟨f, hf, ea⟩ := lo_mem hm.pos (m := ys)
  obtain ⟨g, hg, eb⟩ := hi_mem hm.pos (m := ys)
  rw [← ha] at hlo ea
  rw [← hb] at hhi eb
  have hsp := span_lo hm.pos
  have hok0 := (fileC_ok (hall _ h0m)).2.2
  have hs12 : kle (span xs).1 (span xs).2 = true := kle_trans (hsp _ h0).1 (kle_trans hok0 (hsp _ h0).2)
  refine ⟨hlo, hhi, kle_trans hlo (kle_trans hok0 hhi), by rw [ea]; exact (fileC_parts (hall f hf)).2.1, by rw [eb]; exact (fileC_parts (hall g hg)).2.2, fun z hz hzn => ?_⟩
  have hzok := (fileC_ok (h.ok z ((h.mem (by omega)).1 hz).1)).2.2
  have hzs : ov (span xs).1 (span xs).2 z = false := by
    cases ho : ov (span xs).1 (span xs).2 z with
    | false => rfl
    | true => exact absurd (hm.upm.2 ⟨hz, ho⟩) hzn
  rw [ov_eq, hs12, hzok] at hzs
  simp only [Bool.true_and, Bool.and_eq_false_iff] at hzs
  have hyo : ∀ y, y ∈ ys → kle y.small.user (span xs).2 = true ∧ kle (span xs).1 y.large.user = true := fun y hy => by
    have := (hm.upm.1 hy).2
    rw [ov_eq] at this
    simp only [Bool.and_eq_true] at this
    exact ⟨this.1.2, this.2⟩
  have hyz : ∀ y, y ∈ ys → kl y.large.user z.small.user = true ∨ kl z.large.user y.small.user = true := fun y hy =>
    h.apart (by omega) (by omega) (hm.upm.1 hy).1 hz (fun e => hzn (by rw [← e]; exact hy))
  have fin : kl b.user z.small.user = true ∨ kl z.large.user a.user = true := by
    rcases hzs with hz1 | hz1
    · left
      have hz1 := kl_of_kle hz1
      rw [eb]
      rcases List.mem_append.1 hg with hg | hg
      · exact kle_kl (hsp _ hg).2 hz1
      · rcases hyz g hg with e | e
        · exact e
        · exact (kl_no (kl_trans (kl_kle hz1 hzok) e) (hyo g hg).1).elim
    · right
      have hz1 := kl_of_kle hz1
      rw [ea]
      rcases List.mem_append.1 hf with hf | hf
      · exact kl_kle hz1 (hsp _ hf).1
      · rcases hyz f hf with e | e
        · exact (kl_no (kl_trans (kl_kle e hzok) hz1) (hyo f hf).2).elim
        · exact e
  rw [ov_eq]
  simp only [Bool.and_eq_false_iff]
  rcases fin with e | e
  · exact .inl (.inr (by unfold kle; rw [e]; rfl))
  · exact .inr (by unfold kle; rw [e]; rfl)
theorem hasNum_mem {l : List File} {f : File} (h : f ∈ l) : hasNum f.num l = true := by
  unfold hasNum; rw [List.any_eq_true]; exact ⟨f, h, by simp⟩
theorem leaves_ok {A : List File} {V : Lv} (h : StF A V) {k : Nat} (hk : k < 3) {xs ys : List File} (hm : MrgOf V k xs ys) {a b : IKey} (ha : a = (xs ++ ys).foldl loK (nth xs 0).small) (hb : b = (xs ++ ys).foldl hiK (nth xs 0).large)
    (hne : a.user ≠ b.user) (hlen : xs.length + ys.length ≤ 100) :
    (applyF V (mrgE k xs ys a b)).1 = 142 ∨ ((applyF V (mrgE k xs ys a b)).1 = 0 ∧ ovs (nth xs 0).small.user (nth xs 0).large.user ((applyF V (mrgE k xs ys a b)).2 k) = []) := by
  obtain ⟨u1, u2, u3, u4, u5, u6⟩ := mrg_users h hk hm ha hb
  have hu : UniqS V := h.uniq
  have hys : ys.Sublist (V (k + 1)) := by rw [hm.up]; exact List.filter_sublist
  have kab : kl a.user b.user = true := by
    rcases kl_total a.user b.user with e | e | e
    · exact e
    · exact absurd e hne
    · exact (kl_no e u3).elim
  have hfc : fileC ⟨(k : Int) + 1, 549755813888, 1, a, b⟩ = 0 := by
    unfold fileC
    have hp : placeC ((k : Int) + 1) 549755813888 = 0 := by unfold placeC; rw [if_neg (by omega), if_neg (by omega)]
    simp only [hp, u4, u5]
    have hc : cmpV b a = 1 := by unfold cmpV; rw [if_neg (by rw [kl_asymm kab]; decide), if_pos kab]
    rw [hc]
    decide
  have hgood : ∀ f, f ∈ xs ++ ys → 1 ≤ f.num ∧ f.num ≤ 1099511627776 := fun f hf => by
    have : fileC f = 0 := by
      rcases List.mem_append.1 hf with hf | hf
      · exact h.ok f ((h.mem (by omega)).1 (hm.sub.subset hf)).1
      · exact h.ok f ((h.mem (by omega)).1 (hys.subset hf)).1
    exact (fileC_parts this).1.2.2
  have hed : edC (mrgE k xs ys a b) = 0 := by
    unfold edC mrgE
    rw [if_neg (by simp; omega), if_neg (by simp), if_neg (by simp)]
    have hd : firstE ((xs.map (fun f : File => (⟨(k : Int), f.num⟩ : Gone)) ++ ys.map (fun f : File => (⟨(k : Int) + 1, f.num⟩ : Gone))).map goneC) = 0 := by
      refine firstE_none goneC _ fun j hj => ?_
      have hmem := nth_mem _ j hj
      generalize nth (xs.map (fun f : File => (⟨(k : Int), f.num⟩ : Gone)) ++ ys.map (fun f : File => (⟨(k : Int) + 1, f.num⟩ : Gone))) j = d at hmem
      rcases List.mem_append.1 hmem with hmem | hmem
      · obtain ⟨f, hf, rfl⟩ := List.mem_map.1 hmem
        have := hgood f (List.mem_append_left _ hf)
        show placeC (k : Int) f.num = 0
        unfold placeC
        rw [if_neg (by omega), if_neg (by omega)]
      · obtain ⟨f, hf, rfl⟩ := List.mem_map.1 hmem
        have := hgood f (List.mem_append_right _ hf)
        show placeC ((k : Int) + 1) f.num = 0
        unfold placeC
        rw [if_neg (by omega), if_neg (by omega)]
    rw [if_neg (by rw [hd]; decide)]
    simp only [List.map_cons, List.map_nil]
    unfold firstE
    rw [hfc]
    rfl
  have hnum : ∀ (l : List File) (j : Int), (l.map (·.num)).Nodup → (l.map (fun f : File => (⟨j, f.num⟩ : Gone))).Nodup := fun l j hl => by
    refine List.pairwise_map.2 ((List.pairwise_map.1 hl).imp fun {x y} hxy e => hxy ?_)
    simpa using e
  obtain ⟨S, B, e1, e2, e3⟩ := dels_all (ds := (mrgE k xs ys a b).dels) h (fun d hd => by
      rcases List.mem_append.1 hd with hd | hd
      · obtain ⟨f, hf, rfl⟩ := List.mem_map.1 hd
        exact ⟨k, by omega, rfl, hasNum_mem (hm.sub.subset hf)⟩
      · obtain ⟨f, hf, rfl⟩ := List.mem_map.1 hd
        exact ⟨k + 1, by omega, rfl, hasNum_mem (hys.subset hf)⟩) (by
      refine List.nodup_append.2 ⟨hnum xs _ ((List.Sublist.map (·.num) hm.sub).nodup (hu k (by omega))), hnum ys _ ((List.Sublist.map (·.num) hys).nodup (hu (k + 1) (by omega))), fun p hp q hq e => ?_⟩
      obtain ⟨f, hf, rfl⟩ := List.mem_map.1 hp
      obtain ⟨g, hg, rfl⟩ := List.mem_map.1 hq
      simp at e
      omega)
  have hS1 : ovs a.user b.user (S (k + 1)) = [] := by
    unfold ovs
    rw [List.filter_eq_nil_iff]
    intro g hg
    obtain ⟨g1, g2⟩ := (e3 (k + 1) (by omega) g).1 hg
    have hgn : g ∉ ys := fun hy => g2 ⟨(k : Int) + 1, g.num⟩ (List.mem_append_right _ (List.mem_map.2 ⟨g, hy, rfl⟩)) ⟨rfl, rfl⟩
    rw [u6 g g1 hgn]; exact Bool.false_ne_true
  have hS0 : ovs (nth xs 0).small.user (nth xs 0).large.user (S k) = [] := by
    unfold ovs
    rw [List.filter_eq_nil_iff]
    intro g hg
    obtain ⟨g1, g2⟩ := (e3 k (by omega) g).1 hg
    have hgn : g ∉ xs := fun hy => g2 ⟨k, g.num⟩ (List.mem_append_left _ (List.mem_map.2 ⟨g, hy, rfl⟩)) ⟨rfl, rfl⟩
    have := hm.cl g g1 hgn
    have hsp := span_lo hm.pos _ (nth_mem xs 0 hm.pos)
    intro ho
    rw [ov_mono ho hsp.1 hsp.2] at this
    cases this
  have hlv : ((k : Int) + 1).toNat = k + 1 := by omega
  have hadd : addE S ⟨(k : Int) + 1, 549755813888, 1, a, b⟩ = 142 ∨ addE S ⟨(k : Int) + 1, 549755813888, 1, a, b⟩ = 0 := by
    unfold addE
    split
    · exact .inl rfl
    · rw [if_neg (by simp only [hlv, hS1]; simp)]
      exact .inr rfl
  have hap : applyF V (mrgE k xs ys a b) = addsF [⟨(k : Int) + 1, 549755813888, 1, a, b⟩] S := by
    unfold applyF
    rw [h.ver, hed, e1]
    rfl
  rw [hap]
  unfold addsF
  rcases hadd with e | e
  · rw [e]; exact .inl rfl
  · rw [e]
    refine .inr ⟨rfl, ?_⟩
    rw [if_neg (by decide)]
    unfold addsF
    simp only [hlv]
    rw [upd_other _ _ (by omega)]
    exact hS0
end Go.Proofs.Ytoonhcmeklmnlaa

/-! ## (LeQ) The program's Inputs of any files, levels and users; a Version and a key in a block. -/
namespace Go.Proofs.Ytoonhcmeklmnlaa
open Go.RowKit Go.Rg Go.St

def InP (V : Lv) (lev : Int) (w : World) (e : Ending) (w' : World) : Prop := ∃ xs ys, TwoFiles xs ys w e w' ∧
  (((lev < 0 ∨ 2 < lev ∨ ∃ n : Nat, lev = n ∧ n < 3 ∧ (V n).length = 0) ∧ xs = [] ∧ ys = []) ∨ ∃ k : Nat, lev = k ∧ k < 3 ∧ MrgOf V k xs ys)
theorem inputs_any {A : List File} {V : Lv} (h : StF A V) (v0 v1 v2 v3 : Value) (lev : Int) (from_ : ByteArray) (w : World) (hV : Ver w v0 v1 v2 v3 V) (hn : ∀ i, i < 4 → (V i).length ≤ 1000000) :
    Calls Try.prog 56 #[.agg #[v0, v1, v2, v3], .int .i64 lev, .string from_] w (InP V lev w) := by
  have hnil : ∀ e w', NilTwo w e w' → TwoFiles [] [] w e w' := fun e w' h => ⟨_, _, h.1, SlS.nil _ _ _, SlS.nil _ _ _, h.2⟩
  by_cases hk : lev < 0 ∨ 2 < lev
  · exact (inputs_out v0 v1 v2 v3 _ lev hk w).mono fun e w' h => ⟨[], [], hnil e w' h, .inl ⟨by omega, rfl, rfl⟩⟩
  · obtain ⟨n, rfl⟩ : ∃ n : Nat, lev = n := ⟨lev.toNat, by omega⟩
    have hn3 : n < 3 := by omega
    by_cases hl : (V n).length = 0
    · exact (inputs_none v0 v1 v2 v3 V from_ n _ rfl hn3 w hV hl).mono fun e w' h => ⟨[], [], hnil e w' h, .inl ⟨.inr (.inr ⟨n, rfl, hn3, hl⟩), rfl, rfl⟩⟩
    · by_cases h0 : n = 0
      · subst h0
        exact (inputs_0 v0 v1 v2 v3 V from_ w hV hn (by omega)).mono fun e w' hh => by
          obtain ⟨xs, h1, h2⟩ := hh
          exact ⟨xs, _, h2, .inr ⟨0, rfl, by omega, mrg_low h h1 (by omega)⟩⟩
      · exact (inputs_up v0 v1 v2 v3 V from_ n _ rfl ⟨by omega, hn3⟩ w hV hn (by omega)).mono fun e w' hh =>
          ⟨_, _, hh, .inr ⟨n, rfl, hn3, mrg_up h (by omega) (by omega) (atDn_lt (by omega) from_ _)⟩⟩

/-- a Version in a block -/
def VAt (g : Nat) (U : Lv) (w : World) : Prop := ∃ x0 y0 z0 x1 y1 z1 x2 y2 z2 x3 y3 z3, w.heap[g]? = some (.cells #[.slice x0 y0 z0, .slice x1 y1 z1, .slice x2 y2 z2, .slice x3 y3 z3] 67 (0, 0)) ∧ Ver w (.slice x0 y0 z0) (.slice x1 y1 z1) (.slice x2 y2 z2) (.slice x3 y3 z3) U
theorem VAt.go {g : Nat} {U : Lv} {w w' : World} (h : VAt g U w) (he : Ext w w') : VAt g U w' := by
  obtain ⟨x0, y0, z0, x1, y1, z1, x2, y2, z2, x3, y3, z3, h1, h2⟩ := h
  exact ⟨x0, y0, z0, x1, y1, z1, x2, y2, z2, x3, y3, z3, (he.block _ (vblk_lt h1)).trans h1, h2.go he⟩
theorem VAt.set {b : Nat} {U U' : Lv} {w : World} (hb : VAt b U' w) {a0 b0 c0 a1 b1 c1 a2 b2 c2 a3 b3 c3} (hv : Ver w (.slice a0 b0 c0) (.slice a1 b1 c1) (.slice a2 b2 c2) (.slice a3 b3 c3) U) : VAt b U (set4 w b (.slice a0 b0 c0) (.slice a1 b1 c1) (.slice a2 b2 c2) (.slice a3 b3 c3)) := by
  obtain ⟨xa0, xb0, xc0, xa1, xb1, xc1, xa2, xb2, xc2, xa3, xb3, xc3, x1, x2⟩ := hb
  exact ⟨_, _, _, _, _, _, _, _, _, _, _, _, set4_heap x1 _ _ _ _, ver_set4 hv ⟨_, _, _, rfl⟩ ⟨_, _, _, rfl⟩ ⟨_, _, _, rfl⟩ ⟨_, _, _, rfl⟩ x1 ⟨_, _, _, rfl⟩ ⟨_, _, _, rfl⟩ ⟨_, _, _, rfl⟩ ⟨_, _, _, rfl⟩ rfl⟩
theorem ver_none (w : World) : Ver w nilV nilV nilV nilV noneV := ⟨SlS.nil _ _ _, SlS.nil _ _ _, SlS.nil _ _ _, SlS.nil _ _ _⟩
theorem slS_takeE {w : World} {a : Option Addr} {m cap : Nat} {xs : List EdS} (h : SlS w (.slice a m cap) 5 eEdS xs) (n : Nat) (hn : n ≤ xs.length) : SlS w (.slice a n cap) 5 eEdS (xs.take n) := by
  obtain ⟨a', c', e, h0, h1, h2⟩ := h.ex
  simp only [Value.slice.injEq] at e
  obtain ⟨rfl, rfl, rfl⟩ := e
  have hl : (xs.take n).length = n := by rw [List.length_take]; omega
  refine ⟨⟨a, cap, by rw [hl], by omega, h1, fun hp => ?_⟩⟩
  obtain ⟨b, off, e2, hc⟩ := h2 (by omega)
  refine ⟨b, off, e2, fun i hi j hj => ?_⟩
  rw [hc i (by omega) j hj]
  congr 2
  rw [nth_eq _ _ hi, nth_eq _ _ (by omega), List.getElem_take]
/-- a key in a block -/
def KAt (g : Nat) (k : IKey) (w : World) : Prop := w.heap[g]? = some (.cells #[.string k.user, .int .u64 k.seq, .int .i64 k.kind] 42 (0, 0))
theorem KAt.go {g : Nat} {k : IKey} {w w' : World} (h : KAt g k w) (he : Ext w w') : KAt g k w' := (he.block _ (vblk_lt h)).trans h
abbrev set3 (w : World) (g : Nat) (k : IKey) : World := ((w.setCell ⟨g, 0, none⟩ (.string k.user)).setCell ⟨g, 1, none⟩ (.int .u64 k.seq)).setCell ⟨g, 2, none⟩ (.int .i64 k.kind)
theorem KAt.set {g : Nat} {k j : IKey} {w : World} (h : KAt g k w) : KAt g j (set3 w g j) := by
  unfold KAt set3
  rw [heap_setCell_same _ _ _ _ _ _ (heap_setCell_same _ _ _ _ _ _ (heap_setCell_same _ _ _ _ _ _ h))]
  rfl
theorem KAt.far {g b : Nat} {k j : IKey} {w : World} (h : KAt g k w) (hne : g ≠ b) : KAt g k (set3 w b j) := by
  unfold KAt set3
  rw [heap_setCell_other _ _ _ _ hne, heap_setCell_other _ _ _ _ hne, heap_setCell_other _ _ _ _ hne]
  exact h
theorem set3_below {w0 w : World} {B g : Nat} (h : Below B w0 w) (hb : B ≤ g) (k : IKey) : Below B w0 (set3 w g k) :=
  Below.setCell (p := ⟨g, 2, none⟩) (Below.setCell (p := ⟨g, 1, none⟩) (Below.setCell (p := ⟨g, 0, none⟩) h hb _) hb _) hb _
theorem KAt.cells {g : Nat} {k : IKey} {w : World} (h : KAt g k w) : w.cell? ⟨g, 0, none⟩ = some (.string k.user) ∧ w.cell? ⟨g, 1, none⟩ = some (.int .u64 k.seq) ∧ w.cell? ⟨g, 2, none⟩ = some (.int .i64 k.kind) ∧ ∀ i, w.frozen? ⟨g, i, none⟩ = false := by
  refine ⟨?_, ?_, ?_, fun i => frozen_of_row _ _ _ _ _ h⟩
  all_goals
    rw [cell_of_row _ _ _ _ _ _ h]
    rfl
theorem step_appL {P : Program} {ops : Array Oper} {o : Oper} {a : Act} {w : World} {K : Act → World → Prop} {Q : Exit → Act → World → Prop} {C : Prop}
    (hg : o.guard = none) (s x : Operand) (T : TypeId) (hop : o.op = Op.call { callee := Callee.builtin Builtin.append, args := #[s, x], argTypes := #[T, T] })
    {E : TypeId} {sz bt : Nat} (hT : ElT P T E sz bt) {base : Nat} {v : Value} {n : Nat} {xs : List Value} (hs : a.eval s = v) (hown : w.ownsRow base E sz v n xs)
    {ad : Addr} {m c : Nat} {news : List Value} (hx : a.eval x = .slice (some ad) m c) (hl : news.length = m * sz) (hnews : ∀ j u, news[j]? = some u → w.cell? (ad.add j) = some u) (h1 : ∀ u ∈ news, u.oneCell' = true)
    (hbytes : (n + m) * bt ≤ 140737488355328) (hbase : base ≤ w.heap.size)
    (hK : ∀ v' w', w'.ownsRow base E sz v' (n + m) (xs ++ news) → Below base w w' → K (a.put o.dst v') w') :
    if Region.wanted o (yielded ops a.tmps) = true then Oper.wp P o a w K Q else C := by
  have hw : Region.wanted o (yielded ops a.tmps) = true := by simp [Region.wanted, hg]
  rw [if_pos hw]
  obtain ⟨i, z, hi, hz, h2, h3, h4⟩ := hT.parts
  have hm : n + m ≤ maxLen := by
    have := Nat.le_trans (Nat.le_mul_of_pos_right (n + m) hT.bpos) hbytes
    simp only [maxLen]; omega
  obtain ⟨v', w', hrun, r1, r2, _⟩ := run_append_own (P := P) w base T o.type E i z sz bt hT.und hi hz h2 h3 h4 hT.pos v n xs hown ad m c news hl hnews h1 hm hbytes hbase
  unfold Oper.wp
  simp [execOp, hop, resolve, invoke, builtin, hs, hx, hrun, Result.andThen]
  exact hK _ _ r1 (below_grown hown hbase r2)

theorem owns_setL {base : Nat} {w : World} {e : TypeId} {sz : Nat} {v : Value} {n : Nat} {xs : List Value} (hown : w.ownsRow base e sz v n xs) (rb i : Nat) (u : Value) (h : rb < base) : (w.setCell ⟨rb, i, none⟩ u).ownsRow base e sz v n xs := by
  refine ⟨hown.1, ?_⟩
  rcases hown.2 with h0 | ⟨g, cap, cur, rfl, hb, hg, rest⟩
  · exact .inl h0
  · exact .inr ⟨g, cap, cur, rfl, hb, (heap_setCell_other _ _ _ _ (show g ≠ rb by omega)).trans hg, rest⟩
theorem news_atL (w : World) (cs : Array Value) (T : TypeId) : ∀ j u, cs.toList[j]? = some u → (w.alloc (.cells cs T)).cell? ((⟨w.heap.size, 0, none⟩ : Addr).add j) = some u := by
  intro j u h
  have hr := heap_alloc_new w (.cells cs T)
  simp only [Addr.add]
  split
  · rename_i h0; subst h0; rw [cell_of_row _ _ _ _ _ _ hr]; simpa using h
  · rw [Nat.zero_add, cell_of_row _ _ _ _ _ _ hr]; simpa using h
theorem slice_ofL {w : World} {base : Nat} {e : TypeId} {sz : Nat} {v : Value} {n : Nat} {xs : List Value} (h : w.ownsRow base e sz v n xs) : ∃ a cap, v = .slice a n cap ∧ n ≤ maxLen := by
  rcases h.2 with ⟨rfl, rfl⟩ | ⟨g, cap, cur, rfl, _, hg, hnc, hcm, hcs, htk⟩
  · exact ⟨_, _, rfl, Nat.zero_le _⟩
  · exact ⟨_, _, rfl, Nat.le_trans hnc hcm⟩
theorem goneE : ElT Try.prog 73 97 2 16 := ⟨by kernel_rfl, by kernel_rfl, by decide, by decide⟩
theorem one_gone (a b : Int) : ∀ u ∈ ([.int .i64 a, .int .u64 b] : List Value), u.oneCell' = true := by
  intro u hu
  simp at hu
  rcases hu with rfl | rfl <;> rfl
/-- an Edit in a block, with its own files to be taken away -/
def EAt (g : Nat) (ds : List Gone) (w : World) : Prop := ∃ v, w.heap[g]? = some (.cells #[.int .u64 0, .int .u64 0, .int .u64 0, v, nilV] 75 (0, 0)) ∧ w.ownsRow (g + 1) 97 2 v ds.length (ds.flatMap eGone)
theorem EAt.go {g : Nat} {ds : List Gone} {w w' : World} (h : EAt g ds w) (he : Ext w w') : EAt g ds w' := by
  obtain ⟨v, h1, h2⟩ := h
  exact ⟨v, (he.block _ (vblk_lt h1)).trans h1, owns_ext h2 he⟩
theorem EAt.sl {g : Nat} {ds : List Gone} {w : World} {v : Value} (h : w.ownsRow (g + 1) 97 2 v ds.length (ds.flatMap eGone)) : SlS w v 2 eGone ds := owns_slS h rfl eGone_length (by decide)
theorem wrap_two (a b : Nat) (ha : a ≤ 1000) (hb : b ≤ 1000) : wrap64 ((a : Int) + (b : Int)) = (a : Int) + (b : Int) := by unfold wrap64; omega
theorem wrap_one (k : Nat) (hk : k < 3) : wrap64 ((k : Int) + 1) = (k : Int) + 1 := by unfold wrap64; omega
theorem wrap_oneI (k : Nat) (hk : k < 3) : IntKind.i64.wrap ((k : Int) + 1) = (k : Int) + 1 := by first | (simp [IntKind.wrap_i64]; done) | (simp [IntKind.wrap_i64]; omega)
theorem setCell_heap_size (w : World) (a : Addr) (v : Value) : (w.setCell a v).heap.size = w.heap.size := by simp [World.setCell]
theorem sl_atL (f : File) {w : World} {b : Nat} (h : w.heap[b]? = some (.cells (fileCells f) 80 (0, 0))) : SlFile w (.slice (some ⟨b, 0, none⟩) 1 1) [f] :=
  ⟨_, 1, rfl, Nat.le_refl _, by decide, fun _ => ⟨_, 0, rfl, fun i hi j hj => by
    obtain rfl : i = 0 := by simpa using hi
    rw [cell_of_row _ _ _ _ _ _ h, Nat.zero_mul, Nat.zero_add, ← Array.getElem?_toList]
    rfl⟩⟩
def SlRl (xs : List File) : SV := .rel (fun v w => SlFile w v xs) (fun _ _ _ he h => h.file he)
theorem cf_over (args : Array Value) (w : World) : (callFunc 45 args).run Try.prog w = .ok (.enter 45 args) w := by kernel_rfl
theorem mrg_fit {V : Lv} {k : Nat} (hk : k < 3) {xs ys : List File} (hm : MrgOf V k xs ys) (hf : ∀ n, n < 4 → ∀ f, f ∈ V n → FitF f) {a b : IKey} (ha : a = (xs ++ ys).foldl loK (nth xs 0).small) (hb : b = (xs ++ ys).foldl hiK (nth xs 0).large) :
    FitF ⟨(k : Int) + 1, 549755813888, 1, a, b⟩ := by
  have hall : ∀ f, f ∈ xs ++ ys → FitF f := fun f h => by
    rcases List.mem_append.1 h with h | h
    · exact hf k (by omega) f (hm.sub.subset h)
    · exact hf (k + 1) (by omega) f (hm.upm.1 h).1
  obtain ⟨f, h1, e1⟩ := lo_mem hm.pos (m := ys)
  obtain ⟨g, h2, e2⟩ := hi_mem hm.pos (m := ys)
  rw [← ha] at e1
  rw [← hb] at e2
  exact ⟨by show a.user.size ≤ _; rw [e1]; exact (hall f h1).1, by show b.user.size ≤ _; rw [e2]; exact (hall g h2).2⟩
end Go.Proofs.Ytoonhcmeklmnlaa
