/- Keys that come into a list level by level, step by step: the plain part. -/
import Derived.Test.YtjekfifnhdoamaaLib
set_option linter.unusedSimpArgs false
set_option linter.unusedVariables false
set_option linter.unnecessarySimpa false
namespace Go.St

/-! ### texts byte by byte -/
theorem bl_irrefl : ∀ l : List UInt8, Op.bytesLess l l = false
  | [] => rfl
  | a :: l => by simp [Op.bytesLess, bl_irrefl l]
theorem bl_trans : ∀ a b c : List UInt8, Op.bytesLess a b = true → Op.bytesLess b c = true → Op.bytesLess a c = true
  | _, [], _, h, _ => by simp [Op.bytesLess] at h
  | _, _ :: _, [], _, h => by simp [Op.bytesLess] at h
  | [], _ :: _, _ :: _, _, _ => by simp [Op.bytesLess]
  | x :: a, y :: b, z :: c, h1, h2 => by
    simp only [Op.bytesLess, Bool.or_eq_true, Bool.and_eq_true, decide_eq_true_eq, beq_iff_eq] at *
    rcases h1 with h1 | ⟨rfl, h1⟩
    · rcases h2 with h2 | ⟨rfl, h2⟩
      · exact .inl (UInt8.lt_trans h1 h2)
      · exact .inl h1
    · rcases h2 with h2 | ⟨rfl, h2⟩
      · exact .inl h2
      · exact .inr ⟨rfl, bl_trans _ _ _ h1 h2⟩
theorem bl_total : ∀ a b : List UInt8, Op.bytesLess a b = true ∨ a = b ∨ Op.bytesLess b a = true
  | [], [] => .inr (.inl rfl)
  | [], _ :: _ => .inl (by simp [Op.bytesLess])
  | _ :: _, [] => .inr (.inr (by simp [Op.bytesLess]))
  | x :: a, y :: b => by
    simp only [Op.bytesLess, Bool.or_eq_true, Bool.and_eq_true, decide_eq_true_eq, beq_iff_eq]
    rcases Nat.lt_trichotomy x.toNat y.toNat with h | h | h
    · exact .inl (.inl (UInt8.lt_iff_toNat_lt.2 h))
    · have : x = y := UInt8.toNat_inj.1 h
      subst this
      rcases bl_total a b with h | h | h
      · exact .inl (.inr ⟨rfl, h⟩)
      · exact .inr (.inl (by rw [h]))
      · exact .inr (.inr (.inr ⟨rfl, h⟩))
    · exact .inr (.inr (.inl (UInt8.lt_iff_toNat_lt.2 h)))

/-- one text ahead of another one -/
def kl (a b : ByteArray) : Bool := Op.bytesLess a.toList b.toList
theorem ba_ext {a b : ByteArray} (h : a.toList = b.toList) : a = b := by
  cases a; cases b
  simp [ByteArray.toList_eq] at h
  rw [h]
theorem kl_irrefl (a : ByteArray) : kl a a = false := bl_irrefl _
theorem kl_trans {a b c : ByteArray} (h1 : kl a b = true) (h2 : kl b c = true) : kl a c = true := bl_trans _ _ _ h1 h2
theorem kl_total (a b : ByteArray) : kl a b = true ∨ a = b ∨ kl b a = true := by
  rcases bl_total a.toList b.toList with h | h | h
  · exact .inl h
  · exact .inr (.inl (ba_ext h))
  · exact .inr (.inr h)
theorem kl_asymm {a b : ByteArray} (h : kl a b = true) : kl b a = false := by
  cases hb : kl b a with
  | false => rfl
  | true => have := kl_trans h hb; rw [kl_irrefl] at this; cases this

/-! ### the list, told plainly -/
/-- 'none' is the head, where a place is told; nothing, where a link is -/
structure SK where
  n : Nat
  room : Int
  key : Nat → ByteArray
  ht : Nat → Nat
  lv : Nat → Nat
  at_ : Nat → Option Nat
  dn : Nat → Nat
  nx : Nat → Option Nat
  ph : Nat → Nat
  nxt : Option Nat → Nat → Option Nat

def upd {α β : Type} [DecidableEq α] (f : α → β) (a : α) (b : β) : α → β := fun x => if x = a then b else f x
theorem upd_same {α β : Type} [DecidableEq α] (f : α → β) (a : α) (b : β) : upd f a b a = b := by simp [upd]
theorem upd_other {α β : Type} [DecidableEq α] (f : α → β) (a : α) (b : β) {x : α} (h : x ≠ a) : upd f a b x = f x := by simp [upd, h]

def SK.sees (K : SK) (i : Nat) : Bool :=
  match K.nxt (K.at_ i) (K.dn i) with
  | some j => kl (K.key j) (K.key i)
  | none => false
def stepK (K : SK) (i : Nat) : SK :=
  if K.lv i = K.ht i then K
  else if K.ph i = 0 then
    let x := K.nxt (K.at_ i) (K.dn i)
    if K.sees i = true then { K with nx := upd K.nx i x, at_ := upd K.at_ i x }
    else if K.lv i < K.dn i then { K with nx := upd K.nx i x, dn := upd K.dn i (K.dn i - 1) }
    else { K with nx := upd K.nx i x, ph := upd K.ph i 1 }
  else if K.ph i = 1 then { K with nxt := upd K.nxt (some i) (upd (K.nxt (some i)) (K.lv i) (K.nx i)), ph := upd K.ph i 2 }
  else if K.nxt (K.at_ i) (K.lv i) = K.nx i then
    { K with nxt := upd K.nxt (K.at_ i) (upd (K.nxt (K.at_ i)) (K.lv i) (some i)), lv := upd K.lv i (K.lv i + 1), at_ := upd K.at_ i none, dn := upd K.dn i 7, ph := upd K.ph i 0 }
  else { K with at_ := upd K.at_ i none, dn := upd K.dn i 7, ph := upd K.ph i 0 }

def Chain (nxt : Option Nat → Nat → Option Nat) (l : Nat) : Option Nat → List Nat → Prop
  | r, [] => nxt r l = none
  | r, j :: js => nxt r l = some j ∧ Chain nxt l (some j) js

def Rises (key : Nat → ByteArray) : List Nat → Prop := List.Pairwise (fun a b => kl (key a) (key b) = true)

structure Inv (K : SK) : Prop where
  inj : ∀ i j, i < K.n → j < K.n → K.key i = K.key j → i = j
  ht : ∀ i, i < K.n → 1 ≤ K.ht i ∧ K.ht i ≤ 8
  lv : ∀ i, i < K.n → K.lv i ≤ K.ht i
  ch : ∀ l, l < 8 → ∃ js, Chain K.nxt l none js ∧ Rises K.key js ∧ ∀ j, j ∈ js ↔ j < K.n ∧ l < K.lv j
  at_ : ∀ i, i < K.n → ∀ j, K.at_ i = some j → j < K.n ∧ kl (K.key j) (K.key i) = true ∧ K.dn i < K.lv j
  dn : ∀ i, i < K.n → K.lv i < K.ht i → K.lv i ≤ K.dn i ∧ K.dn i ≤ 7
  ph : ∀ i, i < K.n → K.ph i ≤ 2
  st : ∀ i, i < K.n → K.lv i < K.ht i → 1 ≤ K.ph i → K.dn i = K.lv i ∧ ∀ j, K.nx i = some j → j < K.n ∧ kl (K.key i) (K.key j) = true ∧ K.lv i < K.lv j
  sw : ∀ i, i < K.n → K.lv i < K.ht i → K.ph i = 2 → K.nxt (some i) (K.lv i) = K.nx i
  nxv : ∀ i, i < K.n → ∀ j, K.nx i = some j → j < K.n
  own : ∀ i, i < K.n → ∀ l j, K.nxt (some i) l = some j → j < K.n
  far : ∀ i l, K.n ≤ i → K.nxt (some i) l = none

theorem Chain.congr {f g : Option Nat → Nat → Option Nat} {l : Nat} : ∀ {r : Option Nat} {js : List Nat}, (∀ q, q = r ∨ (∃ j, j ∈ js ∧ q = some j) → g q l = f q l) → Chain f l r js → Chain g l r js
  | r, [], h, hc => by
    show g r l = none
    rw [h r (.inl rfl)]; exact hc
  | r, j :: js, h, hc => by
    obtain ⟨h1, h2⟩ := hc
    refine ⟨by rw [h r (.inl rfl)]; exact h1, Chain.congr (fun q hq => h q (.inr ?_)) h2⟩
    rcases hq with rfl | ⟨j', hj', rfl⟩
    · exact ⟨j, List.mem_cons_self .., rfl⟩
    · exact ⟨j', List.mem_cons_of_mem _ hj', rfl⟩

/-- where a chain is cut behind one that stands in it -/
theorem Chain.cut {f : Option Nat → Nat → Option Nat} {l : Nat} : ∀ {r : Option Nat} {as bs : List Nat}, Chain f l r (as ++ bs) → Chain f l (match as.getLast? with | some j => some j | none => r) bs
  | r, [], bs, h => h
  | r, [a], bs, h => h.2
  | r, a :: b :: as, bs, h => by
    have := Chain.cut (as := b :: as) h.2
    rw [List.getLast?_cons_cons]
    cases hgl : (b :: as).getLast? with
    | none => simp at hgl
    | some z => rw [hgl] at this; exact this

theorem Chain.put {f : Option Nat → Nat → Option Nat} {l i : Nat} : ∀ {r : Option Nat} {as bs : List Nat}, Chain f l r (as ++ bs) → i ∉ as → i ∉ bs → (as ++ bs).Nodup → (∀ j, r = some j → j ∉ as ++ bs) → r ≠ some i →
    f (some i) l = (match bs with | [] => none | b :: _ => some b) →
    Chain (upd f (match as.getLast? with | some j => some j | none => r) (upd (f (match as.getLast? with | some j => some j | none => r)) l (some i))) l r (as ++ i :: bs)
  | r, [], bs, h, _, hib, hnd, hr, hri, hi => by
    simp only [List.nil_append, List.getLast?_nil]
    simp only [List.nil_append] at h hr
    refine ⟨by rw [upd_same, upd_same], ?_⟩
    cases bs with
    | nil =>
      show upd f r _ (some i) l = none
      rw [upd_other _ _ _ (Ne.symm hri)]; exact hi
    | cons b bs =>
      refine ⟨by rw [upd_other _ _ _ (Ne.symm hri)]; exact hi, ?_⟩
      refine Chain.congr (fun q hq => ?_) h.2
      rw [upd_other]
      intro e
      rcases hq with rfl | ⟨j, hj, rfl⟩
      · exact hr b e.symm (List.mem_cons_self ..)
      · exact hr j e.symm (List.mem_cons_of_mem _ hj)
  | r, [a], bs, h, hia, hib, hnd, hr, hri, hi => by
    have h2 : Chain f l (some a) ([] ++ bs) := h.2
    have hnd' : ([] ++ bs).Nodup := (List.nodup_cons.1 hnd).2
    have hb : ∀ j, some a = some j → j ∉ [] ++ bs := fun j e => by cases e; exact (List.nodup_cons.1 hnd).1
    have := Chain.put (as := []) (i := i) h2 (by simp) hib hnd' hb (fun e => hia (by cases e; simp)) hi
    simp only [List.getLast?_nil, List.getLast?_singleton] at this ⊢
    refine ⟨?_, this⟩
    rw [upd_other _ _ _ (fun e => hr a e (by simp))]
    exact h.1
  | r, a :: b :: as, bs, h, hia, hib, hnd, hr, hri, hi => by
    have hnd' := (List.nodup_cons.1 hnd)
    have := Chain.put (as := b :: as) (i := i) h.2 (fun hm => hia (List.mem_cons_of_mem _ hm)) hib hnd'.2 (fun j e => by cases e; exact hnd'.1) (fun e => hia (by cases e; simp)) hi
    have e1 : (a :: b :: as).getLast? = (b :: as).getLast? := by simp [List.getLast?_cons_cons]
    rw [e1]
    cases hgl : (b :: as).getLast? with
    | none => simp at hgl
    | some z =>
      rw [hgl] at this
      refine ⟨?_, this⟩
      have hz : z ∈ a :: b :: as ++ bs := by
        have := List.mem_of_getLast? hgl
        simp at this ⊢
        rcases this with h | h
        · exact .inr (.inl h)
        · exact .inr (.inr (.inl h))
      rw [upd_other _ _ _ (fun e => hr z e hz)]
      exact h.1

theorem Chain.head {f : Option Nat → Nat → Option Nat} {l : Nat} {r : Option Nat} {js : List Nat} (h : Chain f l r js) : f r l = js.head? := by
  cases js with
  | nil => exact h
  | cons j js => exact h.1

theorem Rises.nodup {key : Nat → ByteArray} {js : List Nat} (h : Rises key js) : js.Nodup :=
  List.Pairwise.imp (fun {a b} hab e => by subst e; rw [kl_irrefl] at hab; cases hab) h

/-- a place in a rising chain: what stands up to it, what behind it -/
theorem chain_split {js : List Nat} (r : Option Nat) (hr : ∀ j, r = some j → j ∈ js) :
    ∃ as bs, js = as ++ bs ∧ (match as.getLast? with | some j => some j | none => none) = r := by
  cases r with
  | none => exact ⟨[], js, rfl, rfl⟩
  | some j =>
    obtain ⟨as, bs, rfl⟩ := List.append_of_mem (hr j rfl)
    exact ⟨as ++ [j], bs, by simp, by simp⟩

/-- the list is empty, whatever its room -/
def SK.new (room : Int) : SK := { n := 0, room := room, key := fun _ => ByteArray.empty, ht := fun _ => 0, lv := fun _ => 0, at_ := fun _ => none, dn := fun _ => 0, nx := fun _ => none, ph := fun _ => 0, nxt := fun _ _ => none }
theorem Inv.new (room : Int) : Inv (SK.new room) where
  inj := fun i j h => absurd h (Nat.not_lt_zero _)
  ht := fun i h => absurd h (Nat.not_lt_zero _)
  lv := fun i h => absurd h (Nat.not_lt_zero _)
  ch := fun l _ => ⟨[], rfl, List.Pairwise.nil, fun j => ⟨(fun h => by cases h), fun h => absurd h.1 (Nat.not_lt_zero _)⟩⟩
  at_ := fun i h => absurd h (Nat.not_lt_zero _)
  dn := fun i h => absurd h (Nat.not_lt_zero _)
  ph := fun i h => absurd h (Nat.not_lt_zero _)
  st := fun i h => absurd h (Nat.not_lt_zero _)
  sw := fun i h => absurd h (Nat.not_lt_zero _)
  nxv := fun i h => absurd h (Nat.not_lt_zero _)
  own := fun i h => absurd h (Nat.not_lt_zero _)
  far := fun _ _ _ => rfl

/-- one key more is begun -/
def beginK (K : SK) (k : ByteArray) (h : Nat) : SK :=
  { K with n := K.n + 1, key := upd K.key K.n k, ht := upd K.ht K.n h, lv := upd K.lv K.n 0, at_ := upd K.at_ K.n none, dn := upd K.dn K.n 7, nx := upd K.nx K.n none, ph := upd K.ph K.n 0 }

theorem Inv.begin {K : SK} (h : Inv K) {k : ByteArray} {ht : Nat} (hk : ∀ i, i < K.n → K.key i ≠ k) (h1 : 1 ≤ ht) (h8 : ht ≤ 8) : Inv (beginK K k ht) := by
  have old : ∀ {α : Type} (f : Nat → α) (v : α) (i : Nat), i < K.n → upd f K.n v i = f i := fun f v i hi => upd_other _ _ _ (by omega)
  have hlt : ∀ i, i < K.n + 1 → i < K.n ∨ i = K.n := fun i hi => by omega
  refine ⟨?_, ?_, ?_, ?_, ?_, ?_, ?_, ?_, ?_, ?_, ?_, ?_⟩
  · intro i j hi hj he
    simp only [beginK] at he
    rcases hlt i hi with hi | rfl <;> rcases hlt j hj with hj | rfl
    · rw [old _ _ _ hi, old _ _ _ hj] at he; exact h.inj i j hi hj he
    · rw [old _ _ _ hi, upd_same] at he; exact absurd he (hk i hi)
    · rw [upd_same, old _ _ _ hj] at he; exact absurd he.symm (hk j hj)
    · rfl
  · intro i hi
    simp only [beginK]
    rcases hlt i hi with hi | rfl
    · rw [old _ _ _ hi]; exact h.ht i hi
    · rw [upd_same]; exact ⟨h1, h8⟩
  · intro i hi
    simp only [beginK]
    rcases hlt i hi with hi | rfl
    · rw [old _ _ _ hi, old _ _ _ hi]; exact h.lv i hi
    · rw [upd_same, upd_same]; omega
  · intro l hl
    obtain ⟨js, hc, hr, hm⟩ := h.ch l hl
    refine ⟨js, hc, ?_, fun j => ?_⟩
    · refine List.Pairwise.imp_of_mem (fun {a b} ha hb hab => ?_) hr
      simp only [beginK]
      rw [old _ _ _ ((hm a).1 ha).1, old _ _ _ ((hm b).1 hb).1]; exact hab
    · rw [hm j]
      simp only [beginK]
      constructor
      · rintro ⟨hj, hlv⟩; exact ⟨by omega, by rw [old _ _ _ hj]; exact hlv⟩
      · rintro ⟨hj, hlv⟩
        rcases hlt j hj with hj | rfl
        · rw [old _ _ _ hj] at hlv; exact ⟨hj, hlv⟩
        · rw [upd_same] at hlv; omega
  · intro i hi j hj
    simp only [beginK] at hj ⊢
    rcases hlt i hi with hi | rfl
    · rw [old _ _ _ hi] at hj
      have := h.at_ i hi j hj
      rw [old _ _ _ this.1, old _ _ _ hi, old _ _ _ hi, old _ _ _ this.1]
      exact ⟨by omega, this.2⟩
    · rw [upd_same] at hj; cases hj
  · intro i hi hlv
    simp only [beginK] at hlv ⊢
    rcases hlt i hi with hi | rfl
    · rw [old _ _ _ hi, old _ _ _ hi] at hlv ⊢
      exact h.dn i hi hlv
    · rw [upd_same, upd_same]; omega
  · intro i hi
    simp only [beginK]
    rcases hlt i hi with hi | rfl
    · rw [old _ _ _ hi]; exact h.ph i hi
    · rw [upd_same]; omega
  · intro i hi hlv hph
    simp only [beginK] at hlv hph ⊢
    rcases hlt i hi with hi | rfl
    · rw [old _ _ _ hi] at hph hlv
      rw [old _ _ _ hi] at hlv
      have := h.st i hi hlv hph
      rw [old _ _ _ hi, old _ _ _ hi, old _ _ _ hi, old _ _ _ hi]
      refine ⟨this.1, fun j hj => ?_⟩
      have h2 := this.2 j hj
      rw [old _ _ _ h2.1, old _ _ _ h2.1]
      exact ⟨by omega, h2.2⟩
    · rw [upd_same] at hph; omega
  · intro i hi hlv hph
    simp only [beginK] at hlv hph ⊢
    rcases hlt i hi with hi | rfl
    · rw [old _ _ _ hi] at hph hlv
      rw [old _ _ _ hi] at hlv
      rw [old _ _ _ hi, old _ _ _ hi]
      exact h.sw i hi hlv hph
    · rw [upd_same] at hph; omega
  · intro i hi j hj
    simp only [beginK] at hj ⊢
    rcases hlt i hi with hi | rfl
    · rw [old _ _ _ hi] at hj
      have := h.nxv i hi j hj; omega
    · rw [upd_same] at hj; cases hj
  · intro i hi l j hj
    simp only [beginK] at hj ⊢
    rcases hlt i hi with hi | rfl
    · have := h.own i hi l j hj; omega
    · rw [h.far _ _ (Nat.le_refl _)] at hj; cases hj
  · intro i l hi
    simp only [beginK] at hi ⊢
    exact h.far i l (by omega)

theorem stepK_n (K : SK) (i : Nat) : (stepK K i).n = K.n ∧ (stepK K i).key = K.key ∧ (stepK K i).ht = K.ht ∧ (stepK K i).room = K.room := by
  unfold stepK
  split
  · exact ⟨rfl, rfl, rfl, rfl⟩
  · split
    · dsimp only
      split
      · exact ⟨rfl, rfl, rfl, rfl⟩
      · split <;> exact ⟨rfl, rfl, rfl, rfl⟩
    · split
      · exact ⟨rfl, rfl, rfl, rfl⟩
      · split <;> exact ⟨rfl, rfl, rfl, rfl⟩

theorem upd_at {α β : Type} [DecidableEq α] (f : α → β) (a : α) (b : β) (x : α) : upd f a b x = if x = a then b else f x := rfl

/-- what a link of a place tells: it stands in the level -/
theorem Inv.link {K : SK} (h : Inv K) {r : Option Nat} {l j : Nat} (hl : l < 8) (hr : ∀ i, r = some i → i < K.n ∧ l < K.lv i) (hj : K.nxt r l = some j) : j < K.n ∧ l < K.lv j := by
  obtain ⟨js, hc, _, hm⟩ := h.ch l hl
  obtain ⟨as, bs, rfl, hlast⟩ := chain_split r (fun i hi => (hm i).2 (hr i hi))
  have hc2 := Chain.cut hc
  rw [hlast] at hc2
  have := hc2.head
  rw [hj] at this
  cases bs with
  | nil => cases this
  | cons b bs =>
    simp at this
    subst this
    exact (hm j).1 (by simp)

theorem Inv.place {K : SK} (h : Inv K) {i : Nat} (hi : i < K.n) : ∀ j, K.at_ i = some j → j < K.n ∧ K.dn i < K.lv j := fun j hj => ⟨(h.at_ i hi j hj).1, (h.at_ i hi j hj).2.2⟩

theorem Inv.step {K : SK} (h : Inv K) {i : Nat} (hi : i < K.n) : Inv (stepK K i) := by
  unfold stepK
  split
  · exact h
  rename_i hne
  have hlt : K.lv i < K.ht i := by have := h.lv i hi; omega
  have hdn := h.dn i hi hlt
  split
  · rename_i hph
    have hx : ∀ j, K.nxt (K.at_ i) (K.dn i) = some j → j < K.n ∧ K.dn i < K.lv j := fun j hj => h.link (by omega) (h.place hi) hj
    dsimp only
    split
    · -- on by one link
      rename_i hs
      refine { h with at_ := ?_, st := ?_, sw := ?_, nxv := ?_ }
      · intro i' hi' j hj
        simp only [upd_at] at hj ⊢
        split at hj
        · rename_i he; subst he
          have hxj := hx j hj
          unfold SK.sees at hs
          rw [hj] at hs
          exact ⟨hxj.1, hs, hxj.2⟩
        · exact h.at_ i' hi' j hj
      · intro i' hi' hlv hp
        have hii : i' ≠ i := fun e => by subst e; simp only at hp; omega
        simp only [upd_at, if_neg hii]
        exact h.st i' hi' hlv hp
      · intro i' hi' hlv hp
        have hii : i' ≠ i := fun e => by subst e; simp only at hp; omega
        simp only [upd_at, if_neg hii]
        exact h.sw i' hi' hlv hp
      · intro i' hi' j hj
        simp only [upd_at] at hj
        split at hj
        · exact (hx j hj).1
        · exact h.nxv i' hi' j hj
    · rename_i hs
      split
      · -- one level down
        rename_i hd
        refine { h with at_ := ?_, dn := ?_, st := ?_, sw := ?_, nxv := ?_ }
        · intro i' hi' j hj
          have := h.at_ i' hi' j hj
          simp only [upd_at]
          split
          · rename_i he; subst he; exact ⟨this.1, this.2.1, by omega⟩
          · exact this
        · intro i' hi' hlv
          simp only [upd_at]
          split
          · rename_i he; subst he; simp only at hlv; omega
          · exact h.dn i' hi' hlv
        · intro i' hi' hlv hp
          have hii : i' ≠ i := fun e => by subst e; simp only at hp; omega
          simp only [upd_at, if_neg hii]
          exact h.st i' hi' hlv hp
        · intro i' hi' hlv hp
          have hii : i' ≠ i := fun e => by subst e; simp only at hp; omega
          simp only [upd_at, if_neg hii]
          exact h.sw i' hi' hlv hp
        · intro i' hi' j hj
          simp only [upd_at] at hj
          split at hj
          · exact (hx j hj).1
          · exact h.nxv i' hi' j hj
      · -- it has looked
        rename_i hd
        have hdl : K.dn i = K.lv i := by omega
        refine { h with ph := ?_, st := ?_, sw := ?_, nxv := ?_ }
        · intro i' hi'
          simp only [upd_at]
          split
          · omega
          · exact h.ph i' hi'
        · intro i' hi' hlv hp
          simp only [upd_at] at hp ⊢
          by_cases hii : i' = i
          · subst hii
            simp only [if_true]
            refine ⟨hdl, fun j hj => ?_⟩
            have hxj := hx j hj
            refine ⟨hxj.1, ?_, by omega⟩
            have hjlv : ¬ j = i' := fun e => by subst e; omega
            rcases kl_total (K.key i') (K.key j) with h1 | h1 | h1
            · exact h1
            · exact absurd (h.inj i' j hi' hxj.1 h1) (Ne.symm hjlv)
            · exfalso
              apply hs
              unfold SK.sees
              rw [hj]
              exact h1
          · simp only [if_neg hii] at hp ⊢
            exact h.st i' hi' hlv hp
        · intro i' hi' hlv hp
          simp only [upd_at] at hp ⊢
          by_cases hii : i' = i
          · subst hii; simp only [if_true] at hp; omega
          · simp only [if_neg hii] at hp ⊢
            exact h.sw i' hi' hlv hp
        · intro i' hi' j hj
          simp only [upd_at] at hj
          split at hj
          · exact (hx j hj).1
          · exact h.nxv i' hi' j hj
  · rename_i hp0
    split
    · -- it says what is behind it
      rename_i hp1
      have hst := h.st i hi hlt (by omega)
      have hnot : ∀ l js, l < 8 → Chain K.nxt l none js → (∀ j, j ∈ js ↔ j < K.n ∧ l < K.lv j) → l = K.lv i → i ∉ js := fun l js _ _ hm hl hmem => by have := ((hm i).1 hmem).2; omega
      refine { h with ch := ?_, ph := ?_, st := ?_, sw := ?_, own := ?_, far := ?_ }
      · intro l hl
        obtain ⟨js, hc, hr, hm⟩ := h.ch l hl
        refine ⟨js, Chain.congr (fun q hq => ?_) hc, hr, hm⟩
        simp only [upd_at]
        split
        · rename_i hq'
          subst hq'
          by_cases hll : l = K.lv i
          · exfalso
            rcases hq with h0 | ⟨j, hj, he⟩
            · cases h0
            · cases he; exact hnot l js hl hc hm hll hj
          · rw [upd_other _ _ _ hll]
        · rfl
      · intro i' hi'
        simp only [upd_at]
        split
        · omega
        · exact h.ph i' hi'
      · intro i' hi' hlv hp
        simp only [upd_at] at hp
        by_cases hii : i' = i
        · subst hii; exact hst
        · simp only [if_neg hii] at hp; exact h.st i' hi' hlv hp
      · intro i' hi' hlv hp
        simp only [upd_at] at hp ⊢
        by_cases hii : i' = i
        · subst hii; simp [upd_same]
        · simp only [if_neg hii] at hp
          rw [if_neg (fun e => hii (by cases e; rfl))]
          exact h.sw i' hi' hlv hp
      · intro i' hi' l j hj
        simp only [upd_at] at hj
        split at hj
        · simp only [upd_at] at hj
          split at hj
          · exact h.nxv i hi j hj
          · exact h.own i hi l j hj
        · exact h.own i' hi' l j hj
      · intro i' l hi'
        have hi2 : K.n ≤ i' := hi'
        simp only [upd_at]
        rw [if_neg (fun e => by cases e; omega)]
        exact h.far i' l hi2
    · rename_i hp1
      have hp2 : K.ph i = 2 := by have := h.ph i hi; omega
      obtain ⟨hdl, hnx⟩ := h.st i hi hlt (by omega)
      have hsw := h.sw i hi hlt hp2
      split
      · -- it comes into a level
        rename_i heq
        have hl8 : K.lv i < 8 := by have := (h.ht i hi).2; omega
        have hplace : ∀ j, K.at_ i = some j → j < K.n ∧ K.lv i < K.lv j := fun j hj => by have := h.place hi j hj; omega
        have hati : K.at_ i ≠ some i := fun e => by have := (hplace i e).2; omega
        refine { h with lv := ?_, ch := ?_, at_ := ?_, dn := ?_, ph := ?_, st := ?_, sw := ?_, own := ?_, far := ?_ }
        · intro i' hi'
          simp only [upd_at]
          split
          · rename_i he; subst he; omega
          · exact h.lv i' hi'
        · intro l hl
          obtain ⟨js, hc, hr, hm⟩ := h.ch l hl
          by_cases hll : l = K.lv i
          · subst hll
            obtain ⟨as, bs, rfl, hlast⟩ := chain_split (K.at_ i) (fun j hj => (hm j).2 (hplace j hj))
            have hnd := hr.nodup
            have hni : i ∉ as ++ bs := fun hmem => by have := ((hm i).1 hmem).2; omega
            have hhead := (Chain.cut hc).head
            rw [hlast, heq] at hhead
            have hput := Chain.put (i := i) hc (fun hm' => hni (List.mem_append.2 (.inl hm'))) (fun hm' => hni (List.mem_append.2 (.inr hm'))) hnd (fun j e => by cases e) (fun e => by cases e)
              (by rw [hsw, hhead]; cases bs <;> rfl)
            rw [hlast] at hput
            refine ⟨as ++ i :: bs, hput, ?_, fun j => ?_⟩
            · have hr' := List.pairwise_append.1 hr
              refine List.pairwise_append.2 ⟨hr'.1, List.pairwise_cons.2 ⟨fun b hb => ?_, hr'.2.1⟩, fun a ha b hb => ?_⟩
              · cases bs with
                | nil => cases hb
                | cons b0 bs =>
                  have h0 : kl (K.key i) (K.key b0) = true := (hnx b0 (by rw [hhead]; rfl)).2.1
                  rcases List.mem_cons.1 hb with rfl | hb
                  · exact h0
                  · exact kl_trans h0 ((List.pairwise_cons.1 hr'.2.1).1 b hb)
              · have hai : kl (K.key a) (K.key i) = true := by
                  cases hgl : as.getLast? with
                  | none => rw [List.getLast?_eq_none_iff] at hgl; subst hgl; cases ha
                  | some z =>
                    rw [hgl] at hlast
                    have hz : kl (K.key z) (K.key i) = true := (h.at_ i hi z hlast.symm).2.1
                    obtain ⟨as', rfl⟩ : ∃ as', as = as' ++ [z] := by
                      have := List.getLast?_eq_some_iff.1 hgl
                      exact this
                    rcases List.mem_append.1 ha with h1 | h1
                    · exact kl_trans ((List.pairwise_append.1 hr'.1).2.2 a h1 z (by simp)) hz
                    · simp at h1; subst h1; exact hz
                rcases List.mem_cons.1 hb with rfl | hb
                · exact hai
                · exact hr'.2.2 a ha b hb
            · have := hm j
              simp only [List.mem_append, List.mem_cons, upd_at] at this ⊢
              by_cases hji : j = i
              · subst hji
                simp only [if_true]
                exact ⟨fun _ => ⟨hi, by omega⟩, fun _ => .inr (.inl trivial)⟩
              · rw [if_neg hji, ← this]
                constructor
                · rintro (h1 | h1 | h1)
                  · exact .inl h1
                  · exact absurd h1 hji
                  · exact .inr h1
                · rintro (h1 | h1)
                  · exact .inl h1
                  · exact .inr (.inr h1)
          · refine ⟨js, Chain.congr (fun q hq => ?_) hc, hr, fun j => ?_⟩
            · simp only [upd_at]
              split
              · rename_i hq'; rw [hq', upd_other _ _ _ hll]
              · rfl
            · rw [hm j]
              simp only [upd_at]
              split
              · rename_i he; subst he
                constructor
                · rintro ⟨h1, h2⟩; exact ⟨h1, by omega⟩
                · rintro ⟨h1, h2⟩; exact ⟨h1, by omega⟩
              · exact Iff.rfl
        · intro i' hi' j hj
          simp only [upd_at] at hj ⊢
          by_cases hii : i' = i
          · rw [if_pos hii] at hj; cases hj
          · rw [if_neg hii] at hj ⊢
            have := h.at_ i' hi' j hj
            refine ⟨this.1, this.2.1, ?_⟩
            split
            · rename_i he; subst he; omega
            · exact this.2.2
        · intro i' hi' hlv
          simp only [upd_at] at hlv ⊢
          by_cases hii : i' = i
          · rw [if_pos hii] at hlv ⊢
            rw [if_pos hii]
            have := (h.ht i hi).2
            subst hii
            omega
          · rw [if_neg hii] at hlv ⊢
            rw [if_neg hii]
            exact h.dn i' hi' hlv
        · intro i' hi'
          simp only [upd_at]
          split
          · omega
          · exact h.ph i' hi'
        · intro i' hi' hlv hp
          simp only [upd_at] at hlv hp ⊢
          by_cases hii : i' = i
          · rw [if_pos hii] at hp; omega
          · rw [if_neg hii] at hlv hp
            rw [if_neg hii, if_neg hii]
            have := h.st i' hi' hlv hp
            refine ⟨this.1, fun j hj => ?_⟩
            have h2 := this.2 j hj
            refine ⟨h2.1, h2.2.1, ?_⟩
            split
            · rename_i he; subst he; omega
            · exact h2.2.2
        · intro i' hi' hlv hp
          simp only [upd_at] at hlv hp ⊢
          by_cases hii : i' = i
          · rw [if_pos hii] at hp; omega
          · rw [if_neg hii] at hlv hp
            rw [if_neg hii]
            have h1 := h.sw i' hi' hlv hp
            split
            · rename_i he
              by_cases hl : K.lv i' = K.lv i
              · exfalso
                have := (hplace i' he.symm).2
                omega
              · rw [upd_other _ _ _ hl, ← he]; exact h1
            · exact h1
        · intro i' hi' l j hj
          simp only [upd_at] at hj
          split at hj
          · rename_i he
            simp only [upd_at] at hj
            split at hj
            · cases hj; exact hi
            · rw [← he] at hj; exact h.own i' hi' l j hj
          · exact h.own i' hi' l j hj
        · intro i' l hi'
          simp only [upd_at]
          rw [if_neg (fun e => by have := (hplace i' e.symm).1; simp only at hi'; omega)]
          exact h.far i' l hi'
      · -- it begins anew
        refine { h with at_ := ?_, dn := ?_, ph := ?_, st := ?_, sw := ?_ }
        · intro i' hi' j hj
          simp only [upd_at] at hj ⊢
          by_cases hii : i' = i
          · rw [if_pos hii] at hj; cases hj
          · rw [if_neg hii] at hj ⊢; exact h.at_ i' hi' j hj
        · intro i' hi' hlv
          simp only [upd_at]
          by_cases hii : i' = i
          · rw [if_pos hii]; subst hii; simp only at hlv; have := (h.ht i' hi).2; omega
          · rw [if_neg hii]; exact h.dn i' hi' hlv
        · intro i' hi'
          simp only [upd_at]
          split
          · omega
          · exact h.ph i' hi'
        · intro i' hi' hlv hp
          simp only [upd_at] at hp ⊢
          by_cases hii : i' = i
          · rw [if_pos hii] at hp; omega
          · rw [if_neg hii] at hp ⊢; exact h.st i' hi' hlv hp
        · intro i' hi' hlv hp
          simp only [upd_at] at hp
          by_cases hii : i' = i
          · rw [if_pos hii] at hp; omega
          · rw [if_neg hii] at hp; exact h.sw i' hi' hlv hp
end Go.St
