/- Snapshots: the set in memory; New, Take, Seq, Release. -/
import Derived.Test.YtjekfifnhdoamaaMaps
import Derived.Test.YtjekfifnhdoamaaShelf
import Derived.Laws.IdiomRangeMap
set_option linter.unusedSimpArgs false
set_option linter.unusedVariables false
set_option linter.unnecessarySimpa false
namespace Go.St
open Go.RowKit Go.Rg

def setW (w : World) (b : Nat) (o : Obj) : World := { w with heap := w.heap.setIfInBounds b o }
theorem setW_same {w : World} {b : Nat} {o x : Obj} (h : w.heap[b]? = some x) : (setW w b o).heap[b]? = some o := by
  have := (Array.getElem?_eq_some_iff.1 h).1
  simp [setW, this]
theorem setW_other {w : World} {b k : Nat} {o : Obj} (h : k ≠ b) : (setW w b o).heap[k]? = w.heap[k]? := by
  simp [setW, Array.getElem?_setIfInBounds, Ne.symm h]
theorem setW_below {B : Nat} {w0 w : World} (h : Below B w0 w) {b : Nat} (hb : B ≤ b) (o : Obj) : Below B w0 (setW w b o) :=
  ⟨h.os, h.tape, h.output, by simpa [setW] using h.size, fun k hk => by rw [setW_other (by omega)]; exact h.block k hk⟩
theorem lt_of_at {w : World} {b : Nat} {x : Obj} (h : w.heap[b]? = some x) : b < w.heap.size := (Array.getElem?_eq_some_iff.1 h).1

section
variable {P : Program}
/-- the next round of a loop over a map, wherever the iterator lies -/
theorem run_nextAt (w : World) (ty : TypeId) (r bm since c0 : Nat) (seen : Array Nat) (es : Array MapEntry) (clock : Nat) (hr : w.heap[r]? = some (.mapIter (some bm) since seen c0)) (hb : w.heap[bm]? = some (.map es clock))
    (hold : ∀ x ∈ es.toList, x.born < since) (hsc : since ≤ c0) :
    ((leftOf es seen).size = 0 ∧ (Instr.next (.pointer (some ⟨r, 0, none⟩)) false ty).run P w = .ok (.tuple #[.bool false]) w) ∨
    ∃ e ∈ (leftOf es seen).toList, ∃ w1 : World, (w1 = w ∨ w1 = w.drew) ∧ (Instr.next (.pointer (some ⟨r, 0, none⟩)) false ty).run P w = .ok (.tuple #[.bool true, e.key, e.val]) (setW w1 r (.mapIter (some bm) since (seen.push e.born) clock)) := by
  simp only [Instr.next, getObj, Sem.run_bind, Sem.run, hr, hb, Result.andThen, next_test_false seen es since c0 hold hsc, Bool.false_eq_true, if_false]
  unfold leftOf
  have hmem : ∀ x ∈ (Array.filter (fun e => !seen.contains e.born) es).toList, x.born < since := fun x hx => hold x (by simp at hx ⊢; exact hx.1)
  generalize Array.filter (fun e => !seen.contains e.born) es = L at hmem ⊢
  have e1 : L.filter (fun x => decide (x.born < since)) = L := Array.filter_eq_self.2 (fun x hx => by simpa using hmem x (by simpa using hx))
  have e2 : L.filter (fun x => decide (x.born ≥ since)) = #[] := by
    rw [Array.filter_eq_empty_iff]
    intro x hx
    have := hmem x (by simpa using hx)
    simp
    omega
  simp only [e1, e2, Array.append_empty]
  by_cases h0 : L.size = 0
  · left
    have : L = #[] := Array.eq_empty_of_size_eq_zero h0
    subst this
    refine ⟨rfl, ?_⟩
    simp [choose, Sem.run, Question.forced]
  · right
    have hne : L.isEmpty = false := by simp [Array.isEmpty, h0]
    simp only [hne, Bool.false_eq_true, if_false, Array.empty_append, Array.size_map]
    have hch : ∃ (j : Nat) (w1 : World), j < L.size ∧ (w1 = w ∨ w1 = w.drew) ∧ (choose (Question.mapNext L.size)).run P w = .ok j w1 := by
      by_cases hf : L.size ≤ 1
      · exact ⟨0, w, by omega, .inl rfl, by simp [choose, Sem.run, Question.forced, hf]⟩
      · exact ⟨_, w.drew, Nat.mod_lt _ (by omega), .inr rfl, by
          simp only [choose, Sem.run, Question.forced, decide_eq_true_eq, hf, if_false, Question.cut]
          rfl⟩
    obtain ⟨j, w1, hj, hal, hrun⟩ := hch
    refine ⟨L[j], by simp, w1, hal, ?_⟩
    have hr1 : w1.heap[r]? = some (.mapIter (some bm) since seen c0) := by rcases hal with rfl | rfl <;> exact hr
    have hset : ∀ (o' : Obj), (setObj r o').run P w1 = .ok () (setW w1 r o') := fun o' => by
      simp only [setObj, Sem.run, hr1]
      rfl
    simp only [hrun, Array.getElem?_map, Array.getElem?_eq_getElem hj, Option.map_some, Sem.run_bind, hset, Result.andThen]
    rfl
theorem run_entryAt (w : World) (r bm since : Nat) (seen : Array Nat) (es : Array MapEntry) (clock : Nat) (e : MapEntry) (hr : w.heap[r]? = some (.mapIter (some bm) since (seen.push e.born) clock)) (hb : w.heap[bm]? = some (.map es clock)) (he : e ∈ es.toList) (hn : (es.toList.map (·.born)).Nodup) :
    (Instr.entry (.pointer (some ⟨r, 0, none⟩))).run P w = .ok (.tuple #[e.key, e.val]) w := by
  have hf : es.find? (·.born == e.born) = some e := by rw [← Array.find?_toList]; exact find_born e es.toList hn he
  simp only [Instr.entry, getObj, Sem.run_bind, Sem.run, hr, hb, Result.andThen, Array.back?_push, bne_self_eq_false, Bool.false_eq_true, if_false, hf]
  rfl
/-- a new key is laid into a map -/
theorem run_put {w : World} {α : Type} [BEq α] [LawfulBEq α] {enc : α → Value} {mt kt et : TypeId} (hm : P.underlying mt = some (.map kt et)) (hk : KeyT P kt enc) {b c : Nat} {es : Array MapEntry} {l : List (α × Value)} (h1 : w.heap[b]? = some (.map es c))
    (h2 : es.toList.map (fun e => (e.key, e.val)) = l.map (fun p => (enc p.1, p.2))) (k : α) (v : Value) (hno : ∀ p ∈ l, p.1 ≠ k) :
    (Instr.mapUpdate mt (.map (some b)) (enc k) v).run P w = .ok () (setW w b (.map (es.push { key := enc k, val := v, born := c }) (c + 1))) := by
  have hf : l.findIdx? (fun p => p.1 == k) = none := by
    rw [List.findIdx?_eq_none_iff]
    intro p hp
    simpa using hno p hp
  unfold Instr.mapUpdate
  simp only [Sem.run_bind, run_underlying hm, Result.andThen_ok, getObj, Sem.run, h1]
  rw [run_checkKey hk, Result.andThen_ok, run_findKey hk k h2, Result.andThen_ok, hf]
  simp [setObj, Sem.run, h1, setW]
end
end Go.St

namespace Go.Proofs.Ytjekfifnhdoamaa
open Go.RowKit Go.Rg Go.St

/-- those that are held: id, number, when -/
abbrev Hd := List (Int × Int × Nat)
def eM (L : Hd) : Array MapEntry := (L.map fun p => (⟨.int .i64 p.1, .int .u64 p.2.1, p.2.2⟩ : MapEntry)).toArray
def mL (L : Hd) : List (Int × Value) := L.map fun p => (p.1, .int .u64 p.2.1)
theorem eM_push (L : Hd) (k v : Int) (c : Nat) : (eM L).push ⟨.int .i64 k, .int .u64 v, c⟩ = eM (L ++ [(k, v, c)]) := by
  unfold eM; simp
theorem eM_mL (L : Hd) : (eM L).toList.map (fun e => (e.key, e.val)) = (mL L).map (fun p => (Value.int .i64 p.1, p.2)) := by
  unfold eM mL; simp
theorem eM_size (L : Hd) : (eM L).size = L.length := by unfold eM; simp
structure SnAt (B sb mb : Nat) (L : Hd) (clock : Nat) (taken : Int) (w : World) : Prop where
  row : w.heap[sb]? = some (.cells #[.map (some mb), .int .i64 taken] 82 (0, 0))
  map : w.heap[mb]? = some (.map (eM L) clock)
  bs : B ≤ sb
  bm : B ≤ mb
  born : ∀ p, p ∈ L → p.2.2 < clock
  nd : (L.map (·.2.2)).Nodup
  key : ∀ p, p ∈ L → p.1 < taken
theorem SnAt.ne {B sb mb : Nat} {L : Hd} {clock : Nat} {taken : Int} {w : World} (h : SnAt B sb mb L clock taken w) : sb ≠ mb := fun e => by
  have h1 := h.row; rw [e, h.map] at h1; cases h1
theorem SnAt.kept {B sb mb : Nat} {L : Hd} {clock : Nat} {taken : Int} {w w' : World} (h : SnAt B sb mb L clock taken w) (h1 : w'.heap[sb]? = w.heap[sb]?) (h2 : w'.heap[mb]? = w.heap[mb]?) : SnAt B sb mb L clock taken w' :=
  ⟨h1.trans h.row, h2.trans h.map, h.bs, h.bm, h.born, h.nd, h.key⟩
theorem SnAt.go {B sb mb : Nat} {L : Hd} {clock : Nat} {taken : Int} {w w' : World} (h : SnAt B sb mb L clock taken w) (he : Ext w w') : SnAt B sb mb L clock taken w' :=
  h.kept (he.block _ (lt_of_at h.row)) (he.block _ (lt_of_at h.map))
theorem SnAt.cells {B sb mb : Nat} {L : Hd} {clock : Nat} {taken : Int} {w : World} (h : SnAt B sb mb L clock taken w) : w.cell? ⟨sb, 0, none⟩ = some (.map (some mb)) ∧ w.cell? ⟨sb, 1, none⟩ = some (.int .i64 taken) := by
  refine ⟨?_, ?_⟩
  all_goals
    rw [cell_of_row _ _ _ _ _ _ h.row]
    rfl
theorem mI_map : Try.prog.underlying 80 = some (.map 3 30) := Try.underlying80
theorem mI_key : KeyT Try.prog 3 (fun s : Int => Value.int .i64 s) := keyT_int Try.underlying3
theorem SnAt.len {B sb mb : Nat} {L : Hd} {clock : Nat} {taken : Int} {w : World} (h : SnAt B sb mb L clock taken w) (rt : TypeId) : (Builtin.len_ #[80] rt #[.map (some mb)]).run Try.prog w = .ok (.int .i64 L.length) w := by
  simp [Builtin.len_, run_underlying mI_map, getObj, Sem.run, h.map, eM_size, goInt]
def numS (L : Hd) (id : Int) : Option Int := (L.find? (fun p => p.1 == id)).map (·.2.1)
theorem lkp_mL (L : Hd) (id : Int) : lkp (mL L) id = (numS L id).map (Value.int .u64) := by
  unfold lkp mL numS
  rw [List.find?_map]
  simp [Function.comp_def]
theorem SnAt.look {B sb mb : Nat} {L : Hd} {clock : Nat} {taken : Int} {w : World} (h : SnAt B sb mb L clock taken w) (id : Int) :
    (Instr.lookup 80 (.map (some mb)) (.int .i64 id) true).run Try.prog w = .ok (.tuple #[.int .u64 ((numS L id).getD 0), .bool (numS L id).isSome]) w := by
  have hz : ∃ i, Try.prog.info? 30 = some i ∧ i.zero = some (.int .u64 0) := by
    have : (Try.prog.info? 30).bind (·.zero) = some (.int .u64 0) := by kernel_rfl
    cases hq : Try.prog.info? 30 with
    | none => rw [hq] at this; cases this
    | some i => rw [hq] at this; exact ⟨i, rfl, this⟩
  obtain ⟨i, h1, h2⟩ := hz
  rw [run_lookup (w := w) mI_map mI_key (b := mb) (l := mL L) ⟨_, _, h.map, eM_mL L⟩ id h1 h2 true, lkp_mL]
  cases numS L id <;> rfl

set_option maxRecDepth 100000 in
theorem new_in (w : World) : Calls Try.prog 14 #[] w (fun e w' => ∃ sb mb, e = .returned (.pointer (some ⟨sb, 0, none⟩)) ∧ SnAt w.heap.size sb mb [] 0 0 w' ∧ Ext w w') := by
  have hmm := @run_makeMap Try.prog
  go_enter Try.func14, Try.ntmps14
  go_wp2
  go_ret
  have s1 : (w.alloc (.map #[] 0)).heap.size = w.heap.size + 1 := by show (w.heap.push _).size = _; simp
  refine ⟨w.heap.size + 1, w.heap.size, rfl, ⟨?_, ?_, by omega, Nat.le_refl _, fun p hp => (by cases hp), List.nodup_nil, fun p hp => (by cases hp)⟩, ((Ext.rfl w).al _).al _⟩
  · have := heap_alloc_new (w.alloc (.map #[] 0)) (.cells #[.map (some w.heap.size), .int .i64 0] 82)
    rw [s1] at this
    exact this
  · have := ((Ext.rfl (w.alloc (.map #[] 0))).al (.cells #[.map (some w.heap.size), .int .i64 0] 82)).block w.heap.size (by rw [s1]; omega)
    exact this.trans (heap_alloc_new w _)

set_option maxRecDepth 100000 in
set_option maxHeartbeats 1000000 in
theorem take_in (B sb mb : Nat) (L : Hd) (clock : Nat) (taken : Int) (seq : Int) (w : World) (h : SnAt B sb mb L clock taken w) (hn : L.length < 100) (h0 : 0 ≤ taken) (ht : taken < 4611686018427387904) :
    Calls Try.prog 15 #[.pointer (some ⟨sb, 0, none⟩), .int .u64 seq] w (fun e w' => e = .returned (.tuple #[.int .i64 taken, .int .i64 0]) ∧ SnAt B sb mb (L ++ [(taken, seq, clock)]) (clock + 1) (taken + 1) w' ∧ Below B w w') := by
  have hlen := h.len
  have dn : decide (100 ≤ (L.length : Int)) = false := decide_eq_false (by omega)
  have hnl : ¬ 100 ≤ L.length := by omega
  have hput := run_put (w := w) mI_map mI_key h.map (eM_mL L) taken (.int .u64 seq) (fun p hp => by
    unfold mL at hp
    obtain ⟨q, hq, rfl⟩ := List.mem_map.1 hp
    have := h.key q hq
    simp only
    omega)
  rw [eM_push] at hput
  have hrow : (setW w mb (.map (eM (L ++ [(taken, seq, clock)])) (clock + 1))).heap[sb]? = some (.cells #[.map (some mb), .int .i64 taken] 82 (0, 0)) := (setW_other h.ne).trans h.row
  have hmap : (setW w mb (.map (eM (L ++ [(taken, seq, clock)])) (clock + 1))).heap[mb]? = some (.map (eM (L ++ [(taken, seq, clock)])) (clock + 1)) := setW_same h.map
  have HB := hid (setW_below (Below.refl B w) h.bm (.map (eM (L ++ [(taken, seq, clock)])) (clock + 1)))
  obtain ⟨c0, c1⟩ := h.cells
  generalize setW w mb (.map (eM (L ++ [(taken, seq, clock)])) (clock + 1)) = wz at *
  have d0 : wz.cell? ⟨sb, 0, none⟩ = some (.map (some mb)) := by rw [cell_of_row _ _ _ _ _ _ hrow]; rfl
  have d1 : wz.cell? ⟨sb, 1, none⟩ = some (.int .i64 taken) := by rw [cell_of_row _ _ _ _ _ _ hrow]; rfl
  have ff : ∀ i, wz.frozen? ⟨sb, i, none⟩ = false := fun i => frozen_of_row _ _ _ _ _ hrow
  have H := hid h
  have HROW := hid hrow
  have HMAP := hid hmap
  have HT := hid ht
  have H0 := hid h0
  clear h hrow hmap ht h0
  go_enter Try.func15, Try.ntmps15
  go_wp2_with fail
  have hw : wrap64 (taken + 1) = taken + 1 := by have := HT.out; have := H0.out; unfold wrap64; omega
  rw [hw]
  go_ret2
  have hnew : ∀ p, p ∈ L ++ [(taken, seq, clock)] → p.2.2 < clock + 1 ∧ p.1 < taken + 1 := fun p hp => by
    rcases List.mem_append.1 hp with h | h
    · have := H.out.born p h; have := H.out.key p h; omega
    · simp at h; subst h; exact ⟨Nat.lt_succ_self _, by simp only; omega⟩
  refine ⟨rfl, ⟨(heap_setCell_same _ _ _ _ _ _ HROW.out).trans rfl, (heap_setCell_other _ _ _ _ (Ne.symm H.out.ne)).trans HMAP.out, H.out.bs, H.out.bm, fun p hp => (hnew p hp).1, ?_, fun p hp => (hnew p hp).2⟩, Below.setCell HB.out H.out.bs _⟩
  rw [List.map_append, List.nodup_append]
  refine ⟨H.out.nd, by simp, fun a ha b hb => ?_⟩
  obtain ⟨q, hq, rfl⟩ := List.mem_map.1 ha
  simp at hb
  subst hb
  exact Nat.ne_of_lt (H.out.born q hq)

def seqC (L : Hd) (id : Int) : Int := if (numS L id).isSome then 0 else 200
set_option maxRecDepth 100000 in
set_option maxHeartbeats 1000000 in
theorem seq_in (B sb mb : Nat) (L : Hd) (clock : Nat) (taken : Int) (id : Int) (w : World) (h : SnAt B sb mb L clock taken w) :
    Calls Try.prog 17 #[.pointer (some ⟨sb, 0, none⟩), .int .i64 id] w (fun e w' => e = .returned (.tuple #[.int .u64 ((numS L id).getD 0), .int .i64 (seqC L id)]) ∧ w = w') := by
  have hlk := h.look id
  obtain ⟨c0, c1⟩ := h.cells
  have hc : seqC L id = if (numS L id).isSome then 0 else 200 := rfl
  generalize seqC L id = c at *
  clear h
  go_enter Try.func17, Try.ntmps17
  cases hq : numS L id with
  | none =>
    rw [hq] at hlk hc
    simp only [Option.getD_none, Option.isSome_none, Bool.false_eq_true, if_false] at hlk hc
    subst hc
    go_wp2_with fail
    go_ret2
    exact ⟨rfl, rfl⟩
  | some v =>
    rw [hq] at hlk hc
    simp only [Option.getD_some, Option.isSome_some, if_true] at hlk hc
    subst hc
    go_wp2_with fail
    go_ret2
    exact ⟨rfl, rfl⟩
/-- letting go one that is not held -/
theorem release_none (B sb mb : Nat) (L : Hd) (clock : Nat) (taken : Int) (id : Int) (w : World) (h : SnAt B sb mb L clock taken w) (hno : numS L id = none) :
    Calls Try.prog 19 #[.pointer (some ⟨sb, 0, none⟩), .int .i64 id] w (fun e w' => e = .returned (.int .i64 200) ∧ w = w') := by
  go_enter Try.func19, Try.ntmps19
  go_wp2_with fail
  refine (seq_in B sb mb L clock taken id w h).mono ?_
  rintro e w' ⟨rfl, rfl⟩
  unfold seqC
  rw [hno]
  simp only [Option.getD_none, Option.isSome_none, Bool.false_eq_true, if_false]
  go_wp2_with fail
  go_ret
  exact ⟨rfl, rfl⟩
end Go.Proofs.Ytjekfifnhdoamaa
