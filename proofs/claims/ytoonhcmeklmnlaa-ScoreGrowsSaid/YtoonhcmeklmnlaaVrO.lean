/- Files that are laid, in whatever order: plain. -/
import Derived.Test.YtoonhcmeklmnlaaVrP
set_option linter.unusedSimpArgs false
set_option linter.unusedVariables false
set_option linter.unnecessarySimpa false
namespace Go.Proofs.Ytoonhcmeklmnlaa
open Go.RowKit Go.Rg Go.St

theorem kl_kle {a b c : ByteArray} (h1 : kl a b = true) (h2 : kle b c = true) : kl a c = true := by
  unfold kle at h2
  rcases kl_total b c with h | h | h
  · exact kl_trans h1 h
  · rw [← h]; exact h1
  · rw [h] at h2; cases h2
theorem fileC_ok {f : File} (h : fileC f = 0) : 0 ≤ f.level ∧ f.level ≤ 3 ∧ kle f.small.user f.large.user = true := by
  unfold fileC at h
  by_cases h1 : placeC f.level f.num ≠ 0
  · rw [if_pos h1] at h; exact absurd h h1
  · rw [if_neg h1] at h
    have h2 : ¬ (f.level < 0 ∨ 3 < f.level) := fun hh => by unfold placeC at h1; rw [if_pos hh] at h1; exact h1 (by decide)
    refine ⟨by omega, by omega, ?_⟩
    split at h
    · cases h
    · split at h
      · rename_i hk; exact absurd h hk
      · split at h
        · rename_i hk; exact absurd h hk
        · split at h
          · cases h
          · rename_i hc
            unfold kle
            cases hk : kl f.large.user f.small.user with
            | false => rfl
            | true => exact absurd (by unfold cmpV; rw [if_pos hk]; decide) hc
/-- stands one ahead of another one? -/
def RF (n : Nat) (f g : File) : Prop := if n = 0 then g.num < f.num else kl f.large.user g.small.user = true
theorem ahead_RF {n : Nat} {f o : File} (hf : f.level = n) : aheadF f o = true ↔ RF n f o := by
  unfold aheadF RF
  by_cases h : n = 0
  · rw [if_pos (by omega), if_pos h, decide_eq_true_eq]
  · rw [if_neg (by omega), if_neg h]
theorem RF.trans {n : Nat} {f g h : File} (h1 : RF n f g) (h2 : RF n g h) (hg : fileC g = 0) : RF n f h := by
  unfold RF at *
  by_cases e : n = 0
  · rw [if_pos e] at *; omega
  · rw [if_neg e] at *
    exact kl_trans (kl_kle h1 (fileC_ok hg).2.2) h2
theorem RF.asymm {n : Nat} {f g : File} (h1 : RF n f g) (h2 : RF n g f) (hf : fileC f = 0) (hg : fileC g = 0) : False := by
  have h3 := h1.trans h2 hg
  unfold RF at h3
  by_cases e : n = 0
  · rw [if_pos e] at h3; omega
  · rw [if_neg e] at h3
    have := kl_kle h3 (fileC_ok hf).2.2
    rw [kl_irrefl] at this; cases this
theorem ins_perm (f : File) : ∀ l : List File, (insF f l).Perm (f :: l)
  | [] => List.Perm.refl _
  | o :: l => by
    unfold insF
    split
    · exact List.Perm.refl _
    · exact (List.Perm.cons o (ins_perm f l)).trans (List.Perm.swap _ _ _)
theorem ins_ok {n : Nat} {f : File} (hf : f.level = n) (hv : fileC f = 0) : ∀ {l : List File}, l.Pairwise (RF n) → (∀ g, g ∈ l → fileC g = 0) → (∀ g, g ∈ l → RF n f g ∨ RF n g f) → (insF f l).Pairwise (RF n)
  | [], _, _, _ => List.pairwise_singleton _ _
  | o :: l, hp, hok, hc => by
    obtain ⟨p1, p2⟩ := List.pairwise_cons.1 hp
    unfold insF
    by_cases ha : aheadF f o = true
    · rw [if_pos ha]
      have hfo := (ahead_RF hf).1 ha
      refine List.pairwise_cons.2 ⟨fun x hx => ?_, hp⟩
      rcases List.mem_cons.1 hx with rfl | hx
      · exact hfo
      · exact hfo.trans (p1 x hx) (hok o List.mem_cons_self)
    · rw [if_neg ha]
      have hof : RF n o f := (hc o List.mem_cons_self).resolve_left (fun h => ha ((ahead_RF hf).2 h))
      refine List.pairwise_cons.2 ⟨fun x hx => ?_, ins_ok hf hv p2 (fun g hg => hok g (List.mem_cons_of_mem _ hg)) (fun g hg => hc g (List.mem_cons_of_mem _ hg))⟩
      rcases List.mem_cons.1 ((ins_perm f l).mem_iff.1 hx) with rfl | hx
      · exact hof
      · exact p1 x hx
theorem rel_perm {α : Type} {R : α → α → Prop} : ∀ {a b : List α}, a.Pairwise R → b.Pairwise R → a.Perm b → (∀ x, x ∈ a → ∀ y, y ∈ a → R x y → ¬ R y x) → a = b
  | [], b, _, _, h, _ => by rw [List.nil_perm] at h; exact h.symm
  | x :: a, [], _, _, h, _ => by rw [List.perm_nil] at h; exact h
  | x :: a, y :: b, ha, hb, h, hR => by
    obtain ⟨a1, a2⟩ := List.pairwise_cons.1 ha
    obtain ⟨b1, b2⟩ := List.pairwise_cons.1 hb
    have e : x = y := by
      have h1 : x ∈ y :: b := h.mem_iff.1 List.mem_cons_self
      have h2 : y ∈ x :: a := h.mem_iff.2 List.mem_cons_self
      rcases List.mem_cons.1 h1 with h1 | h1
      · exact h1
      · rcases List.mem_cons.1 h2 with h3 | h3
        · exact h3.symm
        · exact absurd (b1 x h1) (hR x List.mem_cons_self y h2 (a1 y h3))
    subst e
    rw [rel_perm a2 b2 (List.Perm.cons_inv h) fun p hp q hq => hR p (List.mem_cons_of_mem _ hp) q (List.mem_cons_of_mem _ hq)]

/-- may two files be together? -/
def Compat (f g : File) : Prop := f.num ≠ g.num ∧ (f.level = g.level → 0 < f.level → kl f.large.user g.small.user = true ∨ kl g.large.user f.small.user = true)
theorem Compat.symm {f g : File} (h : Compat f g) : Compat g f := ⟨Ne.symm h.1, fun e h0 => (h.2 e.symm (by omega)).symm⟩
theorem Compat.rf {n : Nat} {f g : File} (h : Compat f g) (hf : f.level = n) (hg : g.level = n) : RF n f g ∨ RF n g f := by
  unfold RF
  by_cases e : n = 0
  · rw [if_pos e, if_pos e]
    have := h.1
    omega
  · rw [if_neg e, if_neg e]
    exact h.2 (by rw [hf, hg]) (by omega)
def onL (A : List File) (n : Nat) : List File := A.filter (fun f => decide (f.level = (n : Int)))
/-- files behind being laid -/
structure StF (A : List File) (V : Lv) : Prop where
  ok : ∀ f, f ∈ A → fileC f = 0
  pw : A.Pairwise Compat
  lv : ∀ n, n < 4 → (V n).Pairwise (RF n) ∧ (V n).Perm (onL A n)
theorem StF.nil : StF [] noneV := ⟨fun f h => (by cases h), List.Pairwise.nil, fun n _ => ⟨List.Pairwise.nil, List.Perm.refl _⟩⟩
theorem StF.mem {A : List File} {V : Lv} (h : StF A V) {n : Nat} (hn : n < 4) {f : File} : f ∈ V n ↔ f ∈ A ∧ f.level = n := by
  rw [(h.lv n hn).2.mem_iff]
  unfold onL
  rw [List.mem_filter, decide_eq_true_eq]
theorem lvl_nat {f : File} (h : fileC f = 0) : f.level.toNat < 4 ∧ (f.level.toNat : Int) = f.level := by
  have := fileC_ok h
  omega
theorem StF.add {A : List File} {V : Lv} (h : StF A V) {f : File} (hf : fileC f = 0) (hc : ∀ g, g ∈ A → Compat f g) : StF (f :: A) (upd V f.level.toNat (insF f (V f.level.toNat))) := by
  obtain ⟨hl, he⟩ := lvl_nat hf
  refine ⟨fun g hg => ?_, List.pairwise_cons.2 ⟨hc, h.pw⟩, fun n hn => ?_⟩
  · rcases List.mem_cons.1 hg with rfl | hg
    · exact hf
    · exact h.ok g hg
  · by_cases e : n = f.level.toNat
    · subst e
      rw [upd_same]
      have hm := fun g (hg : g ∈ V f.level.toNat) => (h.mem hl).1 hg
      refine ⟨ins_ok he.symm hf (h.lv _ hl).1 (fun g hg => h.ok g (hm g hg).1) (fun g hg => (hc g (hm g hg).1).rf he.symm (hm g hg).2), ?_⟩
      refine (ins_perm f _).trans ?_
      unfold onL
      rw [List.filter_cons_of_pos (by simp [he])]
      exact List.Perm.cons f (h.lv _ hl).2
    · rw [upd_other _ _ e]
      refine ⟨(h.lv n hn).1, ?_⟩
      unfold onL
      rw [List.filter_cons_of_neg (by simp; omega)]
      exact (h.lv n hn).2
theorem there_iff {A : List File} {V : Lv} (h : StF A V) (num : Int) : thereB num V = true ↔ ∃ g, g ∈ A ∧ g.num = num := by
  have hh : ∀ n, hasNum num (V n) = true ↔ ∃ g, g ∈ V n ∧ g.num = num := fun n => by
    unfold hasNum; rw [List.any_eq_true]; simp
  unfold thereB
  simp only [Bool.or_eq_true, hh]
  constructor
  · rintro (((⟨g, h1, h2⟩ | ⟨g, h1, h2⟩) | ⟨g, h1, h2⟩) | ⟨g, h1, h2⟩)
    · exact ⟨g, ((h.mem (by omega)).1 h1).1, h2⟩
    · exact ⟨g, ((h.mem (by omega)).1 h1).1, h2⟩
    · exact ⟨g, ((h.mem (by omega)).1 h1).1, h2⟩
    · exact ⟨g, ((h.mem (by omega)).1 h1).1, h2⟩
  · rintro ⟨g, h1, h2⟩
    obtain ⟨hl, he⟩ := lvl_nat (h.ok g h1)
    have hm := (h.mem hl).2 ⟨h1, he.symm⟩
    generalize g.level.toNat = k at *
    obtain rfl | rfl | rfl | rfl : k = 0 ∨ k = 1 ∨ k = 2 ∨ k = 3 := by omega
    · exact .inl (.inl (.inl ⟨g, hm, h2⟩))
    · exact .inl (.inl (.inr ⟨g, hm, h2⟩))
    · exact .inl (.inr ⟨g, hm, h2⟩)
    · exact .inr ⟨g, hm, h2⟩
theorem ov_apart {f g : File} (hf : fileC f = 0) (hg : fileC g = 0) : ov f.small.user f.large.user g = false ↔ (kl f.large.user g.small.user = true ∨ kl g.large.user f.small.user = true) := by
  rw [ov_eq, (fileC_ok hf).2.2, (fileC_ok hg).2.2]
  unfold kle
  cases kl f.large.user g.small.user <;> cases kl g.large.user f.small.user <;> simp
theorem addE_iff {A : List File} {V : Lv} (h : StF A V) {f : File} (hf : fileC f = 0) : addE V f = 0 ↔ ∀ g, g ∈ A → Compat f g := by
  obtain ⟨hl, he⟩ := lvl_nat hf
  have hov : ovs f.small.user f.large.user (V f.level.toNat) = [] ↔ ∀ g, g ∈ A → g.level = f.level → (kl f.large.user g.small.user = true ∨ kl g.large.user f.small.user = true) := by
    unfold ovs
    rw [List.filter_eq_nil_iff]
    constructor
    · intro hh g hg e
      have := hh g ((h.mem hl).2 ⟨hg, by rw [e, he]⟩)
      exact (ov_apart hf (h.ok g hg)).1 (by simpa using this)
    · intro hh g hg
      obtain ⟨h1, h2⟩ := (h.mem hl).1 hg
      have := (ov_apart hf (h.ok g h1)).2 (hh g h1 (by rw [h2, he]))
      rw [this]; exact Bool.false_ne_true
  unfold addE
  by_cases ht : thereB f.num V = true
  · rw [if_pos ht]
    refine ⟨fun hh => absurd hh (by decide), fun hh => ?_⟩
    obtain ⟨g, hg, e⟩ := (there_iff h f.num).1 ht
    exact absurd e.symm (hh g hg).1
  · rw [if_neg ht]
    have hne : ∀ g, g ∈ A → f.num ≠ g.num := fun g hg e => ht ((there_iff h f.num).2 ⟨g, hg, e.symm⟩)
    by_cases ho : 0 < f.level ∧ ovs f.small.user f.large.user (V f.level.toNat) ≠ []
    · rw [if_pos ho]
      refine ⟨fun hh => absurd hh (by decide), fun hh => ?_⟩
      exact absurd (hov.2 fun g hg e => (hh g hg).2 e.symm ho.1) ho.2
    · rw [if_neg ho]
      refine ⟨fun _ g hg => ⟨hne g hg, fun e h0 => ?_⟩, fun _ => rfl⟩
      have : ovs f.small.user f.large.user (V f.level.toNat) = [] := by
        apply Classical.byContradiction; intro hh; exact ho ⟨h0, hh⟩
      exact hov.1 this g hg e.symm
theorem lv_split : ∀ {A : List File}, (∀ f, f ∈ A → fileC f = 0) → (onL A 0 ++ onL A 1 ++ onL A 2 ++ onL A 3).Perm A
  | [], _ => List.Perm.refl _
  | f :: A, h => by
    have ih := lv_split (A := A) fun g hg => h g (List.mem_cons_of_mem _ hg)
    obtain ⟨h1, h2, _⟩ := fileC_ok (h f List.mem_cons_self)
    have e : ∀ n : Nat, onL (f :: A) n = if f.level = (n : Int) then f :: onL A n else onL A n := fun n => by
      unfold onL
      by_cases c : f.level = (n : Int)
      · rw [if_pos c, List.filter_cons_of_pos (by simp [c])]
      · rw [if_neg c, List.filter_cons_of_neg (by simp [c])]
    rw [e 0, e 1, e 2, e 3]
    obtain hl | hl | hl | hl : f.level = 0 ∨ f.level = 1 ∨ f.level = 2 ∨ f.level = 3 := by omega
    all_goals
      simp only [hl]
      simp
      simp only [List.append_assoc] at ih
    · exact ih
    · exact List.perm_middle.trans (List.Perm.cons f ih)
    · refine List.Perm.trans ?_ (List.Perm.cons f ih)
      refine (List.Perm.append_left _ List.perm_middle).trans List.perm_middle
    · refine List.Perm.trans ?_ (List.Perm.cons f ih)
      exact (List.Perm.append_left _ ((List.Perm.append_left _ List.perm_middle).trans List.perm_middle)).trans List.perm_middle
theorem seen4 (V : Lv) : seenL V 4 0 = (V 0 ++ V 1 ++ V 2 ++ V 3).map (·.num) := by
  unfold seenL
  simp [List.range_succ]
theorem StF.nums {A : List File} {V : Lv} (h : StF A V) : (seenL V 4 0).Perm (A.map (·.num)) := by
  rw [seen4]
  refine List.Perm.map _ ?_
  exact (((h.lv 0 (by omega)).2.append (h.lv 1 (by omega)).2).append (h.lv 2 (by omega)).2 |>.append (h.lv 3 (by omega)).2).trans (lv_split h.ok)
theorem seen_split (V : Lv) {n i : Nat} (hn : n < 4) (hi : i < (V n).length) : ∃ rest, seenL V 4 0 = seenL V n i ++ (nth (V n) i).num :: rest := by
  have e : (V n).map (·.num) = ((V n).take i).map (·.num) ++ (nth (V n) i).num :: ((V n).drop (i + 1)).map (·.num) := by
    conv => lhs; rw [← List.take_append_drop i (V n), drop_cons_nth _ _ hi]
    simp
  obtain rfl | rfl | rfl | rfl : n = 0 ∨ n = 1 ∨ n = 2 ∨ n = 3 := by omega
  all_goals
    unfold seenL
    simp only [show List.range 4 = [0, 1, 2, 3] from rfl, show List.range 3 = [0, 1, 2] from rfl, show List.range 2 = [0, 1] from rfl, show List.range 1 = [0] from rfl, List.range_zero, List.flatMap_cons, List.flatMap_nil, List.append_nil, List.nil_append, List.take_zero, List.map_nil]
    rw [e]
    simp only [List.append_assoc, List.cons_append]
    exact ⟨_, rfl⟩
theorem StF.ver {A : List File} {V : Lv} (h : StF A V) : verC V = 0 := by
  refine verC_ok fun n hn i hi => ?_
  have hm := (h.mem hn).1 (nth_mem _ _ hi)
  have hnd : (seenL V 4 0).Nodup := h.nums.nodup_iff.2 (List.Pairwise.map _ (fun a b hab => hab.1) h.pw)
  refine ⟨hm.2, ?_, h.ok _ hm.1, fun h0 => ?_⟩
  · obtain ⟨rest, e⟩ := seen_split V hn hi
    rw [e, List.nodup_append] at hnd
    intro hmem
    exact hnd.2.2 _ hmem _ List.mem_cons_self rfl
  · have hp := List.pairwise_iff_getElem.1 (h.lv n hn).1 (i - 1) i (by omega) hi (by omega)
    rw [nth_eq _ _ hi, nth_eq _ _ (by omega : i - 1 < (V n).length)]
    unfold ordF
    unfold RF at hp
    by_cases e : n = 0
    · rw [if_pos e] at *; exact decide_eq_true hp
    · rw [if_neg e] at *; exact hp
theorem StF.same {A B : List File} {V U : Lv} (h1 : StF A V) (h2 : StF B U) (hp : A.Perm B) {n : Nat} (hn : n < 4) : V n = U n :=
  rel_perm (h1.lv n hn).1 (h2.lv n hn).1 ((h1.lv n hn).2.trans ((hp.filter _).trans (h2.lv n hn).2.symm)) fun x hx y hy hr hr2 =>
    hr.asymm hr2 (h1.ok x ((h1.mem hn).1 hx).1) (h1.ok y ((h1.mem hn).1 hy).1)
theorem StF.len {A : List File} {V : Lv} (h : StF A V) : (seenL V 4 0).length = A.length := by rw [h.nums.length_eq, List.length_map]
/-- an edit that lays files -/
def laysF (fs : List File) : Ed := ⟨0, 0, 0, [], fs⟩
theorem apply_one {A : List File} {V : Lv} (h : StF A V) (f : File) :
    applyF V (laysF [f]) = if fileC f ≠ 0 then (fileC f, noneV) else if addE V f ≠ 0 then (addE V f, noneV) else (0, upd V f.level.toNat (insF f (V f.level.toNat))) := by
  have hed : edC (laysF [f]) = fileC f := by
    unfold edC laysF
    simp [firstE]
    intro h; exact h.symm
  unfold applyF
  rw [h.ver, hed]
  by_cases hf : fileC f ≠ 0
  · simp [hf]
  · simp [hf]
    simp [laysF, delsF, addsF]
theorem adds_all : ∀ (fs : List File) {A : List File} {V : Lv}, StF A V → (∀ f, f ∈ fs → fileC f = 0) → fs.Pairwise Compat → (∀ f, f ∈ fs → ∀ g, g ∈ A → Compat f g) → (addsF fs V).1 = 0 ∧ StF (fs.reverse ++ A) (addsF fs V).2
  | [], A, V, h, _, _, _ => ⟨rfl, h⟩
  | f :: fs, A, V, h, hok, hp, hc => by
    obtain ⟨p1, p2⟩ := List.pairwise_cons.1 hp
    have h0 : addE V f = 0 := (addE_iff h (hok f List.mem_cons_self)).2 (hc f List.mem_cons_self)
    have h1 := h.add (hok f List.mem_cons_self) (hc f List.mem_cons_self)
    have ih := adds_all fs h1 (fun g hg => hok g (List.mem_cons_of_mem _ hg)) p2 (fun g hg x hx => by
      rcases List.mem_cons.1 hx with rfl | hx
      · exact (p1 g hg).symm
      · exact hc g (List.mem_cons_of_mem _ hg) x hx)
    unfold addsF
    rw [if_neg (by rw [h0]; decide), List.reverse_cons, List.append_assoc]
    exact ih
theorem apply_all {fs : List File} (hl : fs.length ≤ 100) (hok : ∀ f, f ∈ fs → fileC f = 0) (hp : fs.Pairwise Compat) : (applyF noneV (laysF fs)).1 = 0 ∧ StF fs.reverse (applyF noneV (laysF fs)).2 := by
  have hed : edC (laysF fs) = 0 := by
    unfold edC laysF
    rw [if_neg (by simp; omega), if_neg (by simp), if_neg (by simp), if_neg (by simp [firstE])]
    exact firstE_none fileC fs fun j hj => hok _ (nth_mem _ _ hj)
  have := adds_all fs StF.nil hok hp (fun f _ g hg => by cases hg)
  rw [List.append_nil] at this
  unfold applyF
  rw [StF.nil.ver, hed]
  simpa [laysF, delsF] using this
end Go.Proofs.Ytoonhcmeklmnlaa
