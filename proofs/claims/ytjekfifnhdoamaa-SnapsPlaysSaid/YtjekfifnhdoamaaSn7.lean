/- Snapshots that are held, by their ids; a row of truths. -/
import Derived.Test.YtjekfifnhdoamaaSn6
set_option linter.unusedSimpArgs false
set_option linter.unusedVariables false
set_option linter.unnecessarySimpa false
namespace Go.Proofs.Ytjekfifnhdoamaa
open Go.RowKit Go.Rg Go.St

/-- truths in a block of their own -/
def RowB (b n : Nat) (H : Nat → Bool) (w : World) : Prop := ∃ cur : Array Value, w.heap[b]? = some (.cells cur 4 (0, 0)) ∧ cur.size = n ∧ ∀ i, i < n → cur[i]? = some (.bool (H i))
theorem RowB.cell {b n : Nat} {f : Nat → Bool} {w : World} (h : RowB b n f w) {i : Nat} (hi : i < n) : w.cell? ⟨b, i, none⟩ = some (.bool (f i)) := by
  obtain ⟨cur, h1, _, h2⟩ := h
  rw [cell_of_row _ _ _ _ _ _ h1]; exact h2 i hi
theorem RowB.frozen {b n : Nat} {f : Nat → Bool} {w : World} (h : RowB b n f w) (i : Nat) : w.frozen? ⟨b, i, none⟩ = false := by
  obtain ⟨cur, h1, _⟩ := h
  exact frozen_of_row _ _ _ _ _ h1
theorem RowB.lt {b n : Nat} {f : Nat → Bool} {w : World} (h : RowB b n f w) : b < w.heap.size := by obtain ⟨cur, h1, _⟩ := h; exact lt_of_at h1
theorem RowB.kept {b n : Nat} {f : Nat → Bool} {w w' : World} (h : RowB b n f w) (he : w'.heap[b]? = w.heap[b]?) : RowB b n f w' := by
  obtain ⟨cur, h1, h2⟩ := h
  exact ⟨cur, he.trans h1, h2⟩
theorem RowB.set {b n : Nat} {f : Nat → Bool} {w : World} (h : RowB b n f w) {i : Nat} (hi : i < n) (v : Bool) : RowB b n (fun k => if k = i then v else f k) (w.setCell ⟨b, i, none⟩ (.bool v)) := by
  obtain ⟨cur, h1, h2, h4⟩ := h
  refine ⟨_, heap_setCell_same _ _ _ _ _ _ h1, by simpa using h2, fun k hk => ?_⟩
  rw [Array.getElem?_setIfInBounds]
  by_cases e : i = k
  · subst e; rw [if_pos rfl, if_pos (by omega)]; simp
  · rw [if_neg e, h4 k hk]; simp only; rw [if_neg (Ne.symm e)]
theorem RowB.cong {b n : Nat} {f g : Nat → Bool} {w : World} (h : RowB b n f w) (he : ∀ i, i < n → f i = g i) : RowB b n g w := by
  obtain ⟨cur, h1, h2, h3⟩ := h
  exact ⟨cur, h1, h2, fun i hi => by rw [← he i hi]; exact h3 i hi⟩

/-- those of n that are held -/
def HL (n : Nat) (S : Nat → Int) (H : Nat → Bool) : Hd := ((List.range n).filter H).map (fun j : Nat => ((j : Int), S j, j))
theorem HL_len (n : Nat) (S : Nat → Int) (H : Nat → Bool) : (HL n S H).length ≤ n := by
  unfold HL
  rw [List.length_map]
  exact Nat.le_trans (List.length_filter_le _ _) (by simp)
theorem HL_full_len (n : Nat) (S : Nat → Int) : (HL n S (fun _ => true)).length = n := by
  unfold HL
  rw [List.length_map, List.filter_eq_self.2 (fun _ _ => rfl), List.length_range]
theorem HL_succ (n : Nat) (S : Nat → Int) : HL (n + 1) S (fun _ => true) = HL n S (fun _ => true) ++ [((n : Int), S n, n)] := by
  unfold HL
  rw [List.filter_eq_self.2 (fun _ _ => rfl), List.filter_eq_self.2 (fun _ _ => rfl), List.range_succ, List.map_append]
  rfl
theorem HL_mem (n : Nat) (S : Nat → Int) (H : Nat → Bool) (v : Int) : (∃ p, p ∈ HL n S H ∧ p.2.1 = v) ↔ ∃ j, j < n ∧ H j = true ∧ S j = v := by
  unfold HL
  constructor
  · rintro ⟨p, hp, rfl⟩
    obtain ⟨j, hj, rfl⟩ := List.mem_map.1 hp
    obtain ⟨h1, h2⟩ := List.mem_filter.1 hj
    exact ⟨j, List.mem_range.1 h1, h2, rfl⟩
  · rintro ⟨j, h1, h2, rfl⟩
    exact ⟨_, List.mem_map.2 ⟨j, List.mem_filter.2 ⟨List.mem_range.2 h1, h2⟩, rfl⟩, rfl⟩
theorem find_ids (S : Nat → Int) (q : Nat) : ∀ l : List Nat, ((l.map (fun j : Nat => ((j : Int), S j, j))).find? (fun p => p.1 == (q : Int))).map (·.2.1) = if q ∈ l then some (S q) else none
  | [] => rfl
  | a :: t => by
    rw [List.map_cons, List.find?_cons]
    by_cases e : a = q
    · subst e; simp
    · have h1 : (((a : Int) == (q : Int))) = false := by rw [beq_eq_false_iff_ne]; omega
      simp only [h1]
      rw [find_ids S q t]
      simp [Ne.symm e]
theorem HL_num (n : Nat) (S : Nat → Int) (H : Nat → Bool) (q : Nat) (hq : q < n) : numS (HL n S H) (q : Int) = if H q = true then some (S q) else none := by
  unfold numS HL
  rw [find_ids]
  simp [hq]
theorem erase_ids (S : Nat → Int) (q : Nat) : ∀ l : List Nat, l.Nodup → (l.map (fun j : Nat => ((j : Int), S j, j))).eraseP (fun p => p.1 == (q : Int)) = (l.filter (fun j => j != q)).map (fun j : Nat => ((j : Int), S j, j))
  | [], _ => rfl
  | a :: t, h => by
    obtain ⟨h1, h2⟩ := List.nodup_cons.1 h
    rw [List.map_cons, List.eraseP_cons, List.filter_cons]
    by_cases e : a = q
    · subst e
      have hf : t.filter (fun j => j != a) = t := List.filter_eq_self.2 fun j hj => by
        simp only [bne_iff_ne]; intro e; subst e; exact h1 hj
      simp [hf]
    · have h3 : (((a : Int) == (q : Int))) = false := by rw [beq_eq_false_iff_ne]; omega
      have h4 : (a != q) = true := by simpa using e
      simp only [h3, h4, if_true, List.map_cons, cond_false]
      rw [← erase_ids S q t h2]
theorem HL_drop (n : Nat) (S : Nat → Int) (H : Nat → Bool) (q : Nat) : dropS (HL n S H) (q : Int) = HL n S (fun j => if j = q then false else H j) := by
  unfold dropS HL
  rw [erase_ids _ _ _ (List.nodup_range.sublist List.filter_sublist), List.filter_filter]
  congr 1
  apply List.filter_congr
  intro j _
  by_cases e : j = q
  · simp [e]
  · simp [e]
end Go.Proofs.Ytjekfifnhdoamaa
