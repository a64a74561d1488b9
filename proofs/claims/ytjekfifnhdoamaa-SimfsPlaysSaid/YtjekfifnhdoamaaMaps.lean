/- Maps whose keys are whole numbers or texts, told as lists of pairs in the order in which they came. -/
import Derived.Test.YtjekfifnhdoamaaLib
set_option linter.unusedSimpArgs false
set_option linter.unusedVariables false
set_option linter.unnecessarySimpa false
set_option linter.unusedSectionVars false
namespace Go.St
open Go.RowKit Go.Rg

theorem ba_beq (a b : ByteArray) : (a == b) = (a.data == b.data) := by cases a; cases b; rfl
instance : LawfulBEq ByteArray where
  eq_of_beq {a b} h := by rw [ba_beq] at h; cases a; cases b; simp at h; rw [h]
  rfl {a} := by rw [ba_beq]; simp

/-- how a kind of key stands as a value -/
structure KeyT (P : Program) (t : TypeId) {α : Type} [BEq α] (enc : α → Value) : Prop where
  und : ∃ d, P.underlying t = some d ∧ (d = .string ∨ ∃ k, d = .int k) ∧ ∀ a b, Instr.sameNow d (enc a) (enc b) = some (a == b)
  bits : ∀ n a b, (a == b) = true → Instr.sameBits n (enc a) (enc b) = true

theorem keyT_string {P : Program} {t : TypeId} (h : P.underlying t = some .string) : KeyT P t (fun s : ByteArray => Value.string s) :=
  ⟨⟨_, h, .inl rfl, fun a b => rfl⟩, fun n a b hab => by cases n <;> exact hab⟩
theorem keyT_int {P : Program} {t : TypeId} {k : IntKind} (h : P.underlying t = some (.int k)) : KeyT P t (fun s : Int => Value.int k s) :=
  ⟨⟨_, h, .inr ⟨k, rfl⟩, fun a b => by simp [Instr.sameNow]⟩, fun n a b hab => by cases n <;> simpa [Instr.sameBits] using hab⟩

/-- a map's entries, as pairs -/
def MapIs (w : World) (b : Nat) {α : Type} (enc : α → Value) (l : List (α × Value)) : Prop :=
  ∃ es clock, w.heap[b]? = some (.map es clock) ∧ es.toList.map (fun e => (e.key, e.val)) = l.map (fun p => (enc p.1, p.2))

theorem MapIs.go {w w' : World} {b : Nat} {α : Type} {enc : α → Value} {l : List (α × Value)} (h : MapIs w b enc l) (he : w'.heap[b]? = w.heap[b]?) : MapIs w' b enc l := by
  obtain ⟨es, c, h1, h2⟩ := h
  exact ⟨es, c, by rw [he]; exact h1, h2⟩

section
variable {P : Program} {w : World} {α : Type} [BEq α] [LawfulBEq α] {enc : α → Value}

theorem findNow_list {d : TypeDesc} (hs : ∀ a b, Instr.sameNow d (enc a) (enc b) = some (a == b)) (k : α) : ∀ (es : List MapEntry) (l : List (α × Value)) (j : Nat), es.map (fun e => (e.key, e.val)) = l.map (fun p => (enc p.1, p.2)) →
    Instr.findNow d (enc k) es j = some (match l.findIdx? (fun p => p.1 == k) with | some i => some (j + i, ((l[i]?).map (·.2)).getD default) | none => none)
  | [], [], j, _ => rfl
  | [], _ :: _, _, h => by simp at h
  | _ :: _, [], _, h => by simp at h
  | e :: es, p :: l, j, h => by
    simp only [List.map_cons, List.cons.injEq, Prod.mk.injEq] at h
    obtain ⟨⟨h1, h2⟩, h3⟩ := h
    unfold Instr.findNow
    rw [h1, hs]
    by_cases hk : p.1 = k
    · have e1 : (k == p.1) = true := by simp [hk]
      have e2 : (p.1 == k) = true := by simp [hk]
      rw [e1]
      simp only [List.findIdx?_cons, e2, if_true]
      simp [h2]
    · have e1 : (k == p.1) = false := by simpa using fun e => hk e.symm
      have e2 : (p.1 == k) = false := by simpa using hk
      rw [e1]
      simp only [List.findIdx?_cons, e2]
      rw [findNow_list hs k es l (j + 1) h3]
      cases hf : l.findIdx? (fun p => p.1 == k) with
      | none => simp
      | some i => simp; omega

/-- what a key has -/
def lkp (l : List (α × Value)) (k : α) : Option Value := (l.find? (fun p => p.1 == k)).map (·.2)

theorem lkp_idx (l : List (α × Value)) (k : α) : lkp l k = (match l.findIdx? (fun p => p.1 == k) with | some i => some (((l[i]?).map (·.2)).getD default) | none => none) := by
  induction l with
  | nil => rfl
  | cons p l ih =>
    unfold lkp at *
    rw [List.find?_cons, List.findIdx?_cons]
    cases hp : p.1 == k with
    | true => simp
    | false =>
      simp only
      rw [ih]
      cases l.findIdx? (fun p => p.1 == k) with
      | none => rfl
      | some i => simp

theorem run_findKey {kt : TypeId} (hk : KeyT P kt enc) (k : α) {es : Array MapEntry} {l : List (α × Value)} (he : es.toList.map (fun e => (e.key, e.val)) = l.map (fun p => (enc p.1, p.2))) :
    (Instr.findKey kt (enc k) es.toList).run P w = .ok (match l.findIdx? (fun p => p.1 == k) with | some i => some (i, ((l[i]?).map (·.2)).getD default) | none => none) w := by
  obtain ⟨d, hd, _, hs⟩ := hk.und
  unfold Instr.findKey
  rw [Sem.run_bind, run_underlying hd, Result.andThen_ok, findNow_list hs k _ _ 0 he]
  cases l.findIdx? (fun p => p.1 == k) with
  | none => rfl
  | some i => simp

theorem run_checkKey {kt : TypeId} (hk : KeyT P kt enc) (k : α) (b : Bool) : (Instr.checkKey b 10000 kt (enc k)).run P w = .ok () w := by
  obtain ⟨d, hd, hor, _⟩ := hk.und
  have h : ∀ n, (Instr.checkKey b (n + 1) kt (enc k)).run P w = .ok () w := fun n => by
    rcases hor with rfl | ⟨ik, rfl⟩
    · unfold Instr.checkKey; simp [run_underlying hd]
    · unfold Instr.checkKey; simp [run_underlying hd]
  exact h 9999

theorem run_lookup {mt kt et : TypeId} (hm : P.underlying mt = some (.map kt et)) (hk : KeyT P kt enc) {b : Nat} {l : List (α × Value)} (h : MapIs w b enc l) (k : α) {i : TypeInfo} {z : Value} (hi : P.info? et = some i) (hz : i.zero = some z) (ok : Bool) :
    (Instr.lookup mt (.map (some b)) (enc k) ok).run P w = .ok (if ok then .tuple #[(lkp l k).getD z, .bool (lkp l k).isSome] else (lkp l k).getD z) w := by
  obtain ⟨es, c, h1, h2⟩ := h
  unfold Instr.lookup
  simp only [Sem.run_bind, run_underlying hm, Result.andThen_ok, getObj, Sem.run, h1, Sem.run_pure]
  rw [run_checkKey hk, Result.andThen_ok, run_findKey hk k h2, Result.andThen_ok, lkp_idx]
  cases l.findIdx? (fun p => p.1 == k) with
  | none => cases ok <;> simp [zeroValue, typeInfo, hi, hz]
  | some i => cases ok <;> simp

/-- what a key has, once it has a value -/
def ins (l : List (α × Value)) (k : α) (v : Value) : List (α × Value) := if (l.findIdx? (fun p => p.1 == k)).isSome then l.map (fun p => if p.1 == k then (k, v) else p) else l ++ [(k, v)]

theorem run_insert_new {mt kt et : TypeId} (hm : P.underlying mt = some (.map kt et)) (hk : KeyT P kt enc) {b : Nat} {l : List (α × Value)} (h : MapIs w b enc l) (k : α) (v : Value) (hno : ∀ p ∈ l, p.1 ≠ k) :
    ∃ o, (Instr.mapUpdate mt (.map (some b)) (enc k) v).run P w = .ok () { w with heap := w.heap.setIfInBounds b o } ∧ MapIs { w with heap := w.heap.setIfInBounds b o } b enc (l ++ [(k, v)]) := by
  obtain ⟨es, c, h1, h2⟩ := h
  have hf : l.findIdx? (fun p => p.1 == k) = none := by
    rw [List.findIdx?_eq_none_iff]
    intro p hp
    simpa using hno p hp
  have hlt : b < w.heap.size := (Array.getElem?_eq_some_iff.1 h1).1
  refine ⟨.map (es.push { key := enc k, val := v, born := c }) (c + 1), ?_, ?_⟩
  · unfold Instr.mapUpdate
    simp only [Sem.run_bind, run_underlying hm, Result.andThen_ok, getObj, Sem.run, h1]
    rw [run_checkKey hk, Result.andThen_ok, run_findKey hk k h2, Result.andThen_ok, hf]
    simp [setObj, Sem.run, h1]
  · refine ⟨es.push { key := enc k, val := v, born := c }, c + 1, by simp [hlt], ?_⟩
    simp [h2]
end
end Go.St
