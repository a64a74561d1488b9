/- Rows of one-cell elements that a law makes and writes. -/
import Derived.Test.YticmnmdokoonjaaSkQ
import Derived.OwnWalk
set_option linter.unusedSimpArgs false
set_option linter.unusedVariables false
set_option linter.unnecessarySimpa false
namespace Go.Proofs.Yticmnmdokoonjaa
open Go.RowKit Go.Rg Go.St

/-- a row of its own, told by a function -/
def Row (w : World) (base : Nat) (E : TypeId) (g n : Nat) (f : Nat → Value) : Prop := w.ownsRow base E 1 (.slice (some ⟨g, 0, none⟩) n n) n ((List.range n).map f)
theorem Row.cong {w : World} {base : Nat} {E : TypeId} {g n : Nat} {f f' : Nat → Value} (h : Row w base E g n f) (hf : ∀ i, i < n → f i = f' i) : Row w base E g n f' := by
  unfold Row at h ⊢
  rw [← List.map_congr_left (fun i hi => hf i (List.mem_range.1 hi))]
  exact h
theorem Row.lt {w : World} {base : Nat} {E : TypeId} {g n : Nat} {f : Nat → Value} (h : Row w base E g n f) : g < w.heap.size := by
  obtain ⟨_, h1⟩ := World.ownsRow.lt h g rfl
  exact h1
theorem Row.block {w : World} {base : Nat} {E : TypeId} {g n : Nat} {f : Nat → Value} (h : Row w base E g n f) : ∃ cur : Array Value, w.heap[g]? = some (.cells cur E (0, 0)) ∧ cur.size = n ∧ (∀ i, i < n → cur[i]? = some (f i)) := by
  rcases h.2 with ⟨h1, _⟩ | ⟨g', cap, cur, h1, _, hg, hn, hm, hcs, htk⟩
  · cases h1
  · simp only [Value.slice.injEq, Option.some.injEq, Addr.mk.injEq] at h1
    obtain ⟨⟨rfl, _, _⟩, _, rfl⟩ := h1
    refine ⟨cur, hg, by omega, fun i hi => ?_⟩
    have e : (cur.toList.take (n * 1))[i]? = cur.toList[i]? := by rw [List.getElem?_take, if_pos (by omega)]
    rw [htk] at e
    simp [hi] at e
    exact e.symm
theorem Row.cell {w : World} {base : Nat} {E : TypeId} {g n : Nat} {f : Nat → Value} (h : Row w base E g n f) {i : Nat} (hi : i < n) : w.cell? ⟨g, i, none⟩ = some (f i) := by
  obtain ⟨cur, h1, _, h2⟩ := h.block
  rw [cell_of_row _ _ _ _ _ _ h1]; exact h2 i hi
theorem Row.frozen {w : World} {base : Nat} {E : TypeId} {g n : Nat} {f : Nat → Value} (h : Row w base E g n f) (i : Nat) : w.frozen? ⟨g, i, none⟩ = false := by
  obtain ⟨cur, h1, _, h2⟩ := h.block
  exact frozen_of_row _ _ _ _ _ h1
theorem Row.set {w : World} {base : Nat} {E : TypeId} {g n : Nat} {f : Nat → Value} (h : Row w base E g n f) {i : Nat} (hi : i < n) (u : Value) : Row (w.setCell ⟨g, i, none⟩ u) base E g n (upd f i u) := by
  obtain ⟨cur, h1, h2, h3⟩ := h.block
  have hb : base ≤ g := (World.ownsRow.lt h g rfl).1
  have hm : n ≤ maxLen := by
    rcases h.2 with ⟨h1, _⟩ | ⟨g', cap, cur, h1, _, hg, hn, hm, hcs, htk⟩
    · cases h1
    · omega
  refine ⟨by simp, .inr ⟨g, n, cur.setIfInBounds i u, rfl, hb, heap_setCell_same _ g i _ _ _ h1, Nat.le_refl _, hm, by simp [h2], ?_⟩⟩
  apply List.ext_getElem?
  intro j
  rw [List.getElem?_take]
  by_cases hj : j < n
  · rw [if_pos (by omega)]
    simp only [List.getElem?_map, List.getElem?_range hj, Option.map_some]
    rw [Array.getElem?_toList, Array.getElem?_setIfInBounds]
    by_cases e : i = j
    · subst e; rw [if_pos rfl, if_pos (by omega), upd_same]
    · rw [if_neg e, upd_other _ _ _ (Ne.symm e), h3 j hj]
  · rw [if_neg (by omega)]
    exact (List.getElem?_eq_none (by simp; omega)).symm
theorem grown_set {w : World} {g i : Nat} {u : Value} : w.grownBy (w.setCell ⟨g, i, none⟩ u) (some g) :=
  ⟨rfl, rfl, rfl, by simp [World.setCell], fun k hk hne => heap_setCell_other _ _ _ _ (fun e => hne (by rw [e]))⟩
theorem ext_grown_none {w w' : World} (h : w.grownBy w' none) : Ext w w' := ⟨h.os, h.tape, h.output, h.size, fun k hk => h.block k hk (fun e => by cases e)⟩
theorem row_made {w : World} {base : Nat} {E : TypeId} {g n : Nat} {z : Value} (h : w.ownsRow base E 1 (.slice (some ⟨g, 0, none⟩) n n) n (madeCells #[z] (n * 1)).toList) : Row w base E g n (fun _ => z) := by
  unfold Row
  rw [Nat.mul_one, toList_madeCells_one] at h
  rw [List.map_const', List.length_range]
  exact h
theorem Row.sl1 {w : World} {base : Nat} {E : TypeId} {g n : Nat} {f : Nat → Value} (h : Row w base E g n f) : Sl1 w (.slice (some ⟨g, 0, none⟩) n n) n f := Sl1.cong (owns_sl1 h) fun i hi => by simp [hi]

theorem Row.ext {w w' : World} {base : Nat} {E : TypeId} {g n : Nat} {f : Nat → Value} (hr : Row w base E g n f) (h : Ext w w') : Row w' base E g n f := owns_ext hr h
end Go.Proofs.Yticmnmdokoonjaa
