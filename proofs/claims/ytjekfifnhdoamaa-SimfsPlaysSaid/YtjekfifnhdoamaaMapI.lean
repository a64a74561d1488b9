/- Loops over maps wherever the iterator lies; keys laid in and taken out. -/
import Derived.Test.YtjekfifnhdoamaaMaps
import Derived.Laws.IdiomRangeMap
set_option linter.unusedSimpArgs false
set_option linter.unusedVariables false
set_option linter.unnecessarySimpa false
namespace Go.St
open Go.RowKit Go.Rg

def setW (w : World) (b : Nat) (o : Obj) : World := { w with heap := w.heap.setIfInBounds b o }
theorem setW_same {w : World} {b : Nat} {o x : Obj} (h : w.heap[b]? = some x) : (setW w b o).heap[b]? = some o := by
  have := (Array.getElem?_eq_some_iff.1 h).1
  simp [setW, this]
theorem setW_other {w : World} {b k : Nat} {o : Obj} (h : k ≠ b) : (setW w b o).heap[k]? = w.heap[k]? := by
  simp [setW, Array.getElem?_setIfInBounds, Ne.symm h]
theorem setW_below {B : Nat} {w0 w : World} (h : Below B w0 w) {b : Nat} (hb : B ≤ b) (o : Obj) : Below B w0 (setW w b o) :=
  ⟨h.os, h.tape, h.output, by simpa [setW] using h.size, fun k hk => by rw [setW_other (by omega)]; exact h.block k hk⟩
theorem lt_of_at {w : World} {b : Nat} {x : Obj} (h : w.heap[b]? = some x) : b < w.heap.size := (Array.getElem?_eq_some_iff.1 h).1

section
variable {P : Program}
/-- the next round of a loop over a map, wherever the iterator lies -/
theorem run_nextAt (w : World) (ty : TypeId) (r bm since c0 : Nat) (seen : Array Nat) (es : Array MapEntry) (clock : Nat) (hr : w.heap[r]? = some (.mapIter (some bm) since seen c0)) (hb : w.heap[bm]? = some (.map es clock))
    (hold : ∀ x ∈ es.toList, x.born < since) (hsc : since ≤ c0) :
    ((leftOf es seen).size = 0 ∧ (Instr.next (.pointer (some ⟨r, 0, none⟩)) false ty).run P w = .ok (.tuple #[.bool false]) w) ∨
    ∃ e ∈ (leftOf es seen).toList, ∃ w1 : World, (w1 = w ∨ w1 = w.drew) ∧ (Instr.next (.pointer (some ⟨r, 0, none⟩)) false ty).run P w = .ok (.tuple #[.bool true, e.key, e.val]) (setW w1 r (.mapIter (some bm) since (seen.push e.born) clock)) := by
  simp only [Instr.next, getObj, Sem.run_bind, Sem.run, hr, hb, Result.andThen, next_test_false seen es since c0 hold hsc, Bool.false_eq_true, if_false]
  unfold leftOf
  have hmem : ∀ x ∈ (Array.filter (fun e => !seen.contains e.born) es).toList, x.born < since := fun x hx => hold x (by simp at hx ⊢; exact hx.1)
  generalize Array.filter (fun e => !seen.contains e.born) es = L at hmem ⊢
  have e1 : L.filter (fun x => decide (x.born < since)) = L := Array.filter_eq_self.2 (fun x hx => by simpa using hmem x (by simpa using hx))
  have e2 : L.filter (fun x => decide (x.born ≥ since)) = #[] := by
    rw [Array.filter_eq_empty_iff]
    intro x hx
    have := hmem x (by simpa using hx)
    simp
    omega
  simp only [e1, e2, Array.append_empty]
  by_cases h0 : L.size = 0
  · left
    have : L = #[] := Array.eq_empty_of_size_eq_zero h0
    subst this
    refine ⟨rfl, ?_⟩
    simp [choose, Sem.run, Question.forced]
  · right
    have hne : L.isEmpty = false := by simp [Array.isEmpty, h0]
    simp only [hne, Bool.false_eq_true, if_false, Array.empty_append, Array.size_map]
    have hch : ∃ (j : Nat) (w1 : World), j < L.size ∧ (w1 = w ∨ w1 = w.drew) ∧ (choose (Question.mapNext L.size)).run P w = .ok j w1 := by
      by_cases hf : L.size ≤ 1
      · exact ⟨0, w, by omega, .inl rfl, by simp [choose, Sem.run, Question.forced, hf]⟩
      · exact ⟨_, w.drew, Nat.mod_lt _ (by omega), .inr rfl, by
          simp only [choose, Sem.run, Question.forced, decide_eq_true_eq, hf, if_false, Question.cut]
          rfl⟩
    obtain ⟨j, w1, hj, hal, hrun⟩ := hch
    refine ⟨L[j], by simp, w1, hal, ?_⟩
    have hr1 : w1.heap[r]? = some (.mapIter (some bm) since seen c0) := by rcases hal with rfl | rfl <;> exact hr
    have hset : ∀ (o' : Obj), (setObj r o').run P w1 = .ok () (setW w1 r o') := fun o' => by
      simp only [setObj, Sem.run, hr1]
      rfl
    simp only [hrun, Array.getElem?_map, Array.getElem?_eq_getElem hj, Option.map_some, Sem.run_bind, hset, Result.andThen]
    rfl
theorem run_entryAt (w : World) (r bm since : Nat) (seen : Array Nat) (es : Array MapEntry) (clock : Nat) (e : MapEntry) (hr : w.heap[r]? = some (.mapIter (some bm) since (seen.push e.born) clock)) (hb : w.heap[bm]? = some (.map es clock)) (he : e ∈ es.toList) (hn : (es.toList.map (·.born)).Nodup) :
    (Instr.entry (.pointer (some ⟨r, 0, none⟩))).run P w = .ok (.tuple #[e.key, e.val]) w := by
  have hf : es.find? (·.born == e.born) = some e := by rw [← Array.find?_toList]; exact find_born e es.toList hn he
  simp only [Instr.entry, getObj, Sem.run_bind, Sem.run, hr, hb, Result.andThen, Array.back?_push, bne_self_eq_false, Bool.false_eq_true, if_false, hf]
  rfl
/-- a new key is laid into a map -/
theorem run_put {w : World} {α : Type} [BEq α] [LawfulBEq α] {enc : α → Value} {mt kt et : TypeId} (hm : P.underlying mt = some (.map kt et)) (hk : KeyT P kt enc) {b c : Nat} {es : Array MapEntry} {l : List (α × Value)} (h1 : w.heap[b]? = some (.map es c))
    (h2 : es.toList.map (fun e => (e.key, e.val)) = l.map (fun p => (enc p.1, p.2))) (k : α) (v : Value) (hno : ∀ p ∈ l, p.1 ≠ k) :
    (Instr.mapUpdate mt (.map (some b)) (enc k) v).run P w = .ok () (setW w b (.map (es.push { key := enc k, val := v, born := c }) (c + 1))) := by
  have hf : l.findIdx? (fun p => p.1 == k) = none := by
    rw [List.findIdx?_eq_none_iff]
    intro p hp
    simpa using hno p hp
  unfold Instr.mapUpdate
  simp only [Sem.run_bind, run_underlying hm, Result.andThen_ok, getObj, Sem.run, h1]
  rw [run_checkKey hk, Result.andThen_ok, run_findKey hk k h2, Result.andThen_ok, hf]
  simp [setObj, Sem.run, h1, setW]
/-- a key that is there is taken out of a map -/
theorem run_del {w : World} {α : Type} [BEq α] [LawfulBEq α] {enc : α → Value} {mt kt et : TypeId} (hm : P.underlying mt = some (.map kt et)) (hk : KeyT P kt enc) {b c : Nat} {es : Array MapEntry} {l : List (α × Value)} (h1 : w.heap[b]? = some (.map es c))
    (h2 : es.toList.map (fun e => (e.key, e.val)) = l.map (fun p => (enc p.1, p.2))) (k : α) (i : Nat) (hi : l.findIdx? (fun p => p.1 == k) = some i) (ty : TypeId) :
    (Builtin.delete_ #[mt, kt] ty #[.map (some b), enc k]).run P w = .ok (.tuple #[]) (setW w b (.map (es.eraseIdxIfInBounds i) c)) := by
  unfold Builtin.delete_
  simp only [List.getElem?_toArray, List.getElem?_cons_zero, List.getElem?_cons_succ, Sem.run_bind, run_underlying hm, Result.andThen_ok, getObj, Sem.run, h1]
  rw [run_checkKey hk, Result.andThen_ok, run_findKey hk k h2, Result.andThen_ok, hi]
  simp [setObj, Sem.run, h1, setW, Result.andThen]
end
end Go.St
