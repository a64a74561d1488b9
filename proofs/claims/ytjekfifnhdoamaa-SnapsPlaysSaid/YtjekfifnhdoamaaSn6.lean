/- Snapshots: one let go; as many as may be. -/
import Derived.Test.YtjekfifnhdoamaaSn5
set_option linter.unusedSimpArgs false
set_option linter.unusedVariables false
set_option linter.unnecessarySimpa false
namespace Go.St
section
variable {P : Program}
/-- a key that is there is taken out of a map -/
theorem run_del {w : World} {α : Type} [BEq α] [LawfulBEq α] {enc : α → Value} {mt kt et : TypeId} (hm : P.underlying mt = some (.map kt et)) (hk : KeyT P kt enc) {b c : Nat} {es : Array MapEntry} {l : List (α × Value)} (h1 : w.heap[b]? = some (.map es c))
    (h2 : es.toList.map (fun e => (e.key, e.val)) = l.map (fun p => (enc p.1, p.2))) (k : α) (i : Nat) (hi : l.findIdx? (fun p => p.1 == k) = some i) (ty : TypeId) :
    (Builtin.delete_ #[mt, kt] ty #[.map (some b), enc k]).run P w = .ok (.tuple #[]) (setW w b (.map (es.eraseIdxIfInBounds i) c)) := by
  unfold Builtin.delete_
  simp only [List.getElem?_toArray, List.getElem?_cons_zero, List.getElem?_cons_succ, Sem.run_bind, run_underlying hm, Result.andThen_ok, getObj, Sem.run, h1]
  rw [run_checkKey hk, Result.andThen_ok, run_findKey hk k h2, Result.andThen_ok, hi]
  simp [setObj, Sem.run, h1, setW, Result.andThen]
end
end Go.St
namespace Go.Proofs.Ytjekfifnhdoamaa
open Go.RowKit Go.Rg Go.St

theorem er_map {α β : Type} (f : α → β) : ∀ (L : List α) (i : Nat), (L.map f).eraseIdx i = (L.eraseIdx i).map f
  | [], _ => rfl
  | a :: t, 0 => rfl
  | a :: t, i + 1 => by simp [er_map f t i]
theorem eM_eraseIdx (L : Hd) (i : Nat) : (eM L).eraseIdxIfInBounds i = eM (L.eraseIdx i) := by
  apply Array.ext'
  rw [Array.toList_eraseIdxIfInBounds]
  unfold eM
  simp [er_map]
def dropS (L : Hd) (id : Int) : Hd := L.eraseP (fun p => p.1 == id)
theorem dropS_idx {L : Hd} {id : Int} {i : Nat} (hi : L.findIdx? (fun p => p.1 == id) = some i) : dropS L id = L.eraseIdx i := by
  unfold dropS
  rw [List.eraseP_eq_eraseIdx, hi]
theorem numS_idx {L : Hd} {id v : Int} (h : numS L id = some v) : ∃ i, L.findIdx? (fun p => p.1 == id) = some i := by
  cases hq : L.findIdx? (fun p => p.1 == id) with
  | some i => exact ⟨i, rfl⟩
  | none =>
    rw [List.findIdx?_eq_none_iff] at hq
    unfold numS at h
    rw [List.find?_eq_none.2 (fun x hx => by rw [hq x hx]; simp)] at h
    cases h
theorem dropS_sub (L : Hd) (id : Int) : (dropS L id).Sublist L := List.eraseP_sublist
/-- nothing else is turned -/
structure Only (sb mb : Nat) (w w' : World) : Prop where
  os : w'.os = w.os
  tape : w'.tape = w.tape
  output : w'.output = w.output
  size : w.heap.size ≤ w'.heap.size
  block : ∀ k, k < w.heap.size → k ≠ sb → k ≠ mb → w'.heap[k]? = w.heap[k]?
theorem Only.below {B sb mb : Nat} {w w' : World} (h : Only sb mb w w') (h1 : B ≤ sb) (h2 : B ≤ mb) (h3 : B ≤ w.heap.size) : Below B w w' :=
  ⟨h.os, h.tape, h.output, h.size, fun k hk => h.block k (by omega) (by omega) (by omega)⟩
theorem Only.setM {sb : Nat} (w : World) (mb : Nat) (o : Obj) : Only sb mb w (setW w mb o) :=
  ⟨rfl, rfl, rfl, by simp [setW], fun k _ _ h => setW_other h⟩
theorem Only.setC {sb mb : Nat} {w w' : World} (h : Only sb mb w w') (i : Nat) (v : Value) : Only sb mb w (w'.setCell ⟨sb, i, none⟩ v) :=
  ⟨h.os, h.tape, h.output, by simpa [World.setCell] using h.size, fun k h1 h2 h3 => (heap_setCell_other _ _ _ _ h2).trans (h.block k h1 h2 h3)⟩
set_option maxRecDepth 100000 in
set_option maxHeartbeats 1000000 in
theorem release_in (B sb mb : Nat) (L : Hd) (clock : Nat) (taken : Int) (id v : Int) (w : World) (h : SnAt B sb mb L clock taken w) (hv : numS L id = some v) :
    Calls Try.prog 19 #[.pointer (some ⟨sb, 0, none⟩), .int .i64 id] w (fun e w' => e = .returned (.int .i64 0) ∧ SnAt B sb mb (dropS L id) clock taken w' ∧ Only sb mb w w') := by
  obtain ⟨i, hi⟩ := numS_idx hv
  have hi2 : (mL L).findIdx? (fun p => p.1 == id) = some i := by
    unfold mL; rw [List.findIdx?_map]; exact hi
  have hdel := fun ty => run_del (w := w) mI_map mI_key h.map (eM_mL L) id i hi2 ty
  rw [eM_eraseIdx, ← dropS_idx hi] at hdel
  have hrow : (setW w mb (.map (eM (dropS L id)) clock)).heap[sb]? = some (.cells #[.map (some mb), .int .i64 taken] 82 (0, 0)) := (setW_other h.ne).trans h.row
  have hmap : (setW w mb (.map (eM (dropS L id)) clock)).heap[mb]? = some (.map (eM (dropS L id)) clock) := setW_same h.map
  have HB := hid (Only.setM (sb := sb) w mb (.map (eM (dropS L id)) clock))
  have sub := dropS_sub L id
  have HS := hid (show SnAt B sb mb (dropS L id) clock taken (setW w mb (.map (eM (dropS L id)) clock)) from ⟨hrow, hmap, h.bs, h.bm, fun p hp => h.born p (sub.subset hp), h.nd.sublist (sub.map _), fun p hp => h.key p (sub.subset hp)⟩)
  obtain ⟨c0, c1⟩ := h.cells
  generalize setW w mb (.map (eM (dropS L id)) clock) = wz at *
  clear hrow hmap sub hi hi2
  go_enter Try.func19, Try.ntmps19
  go_wp2_with fail
  refine (seq_in B sb mb L clock taken id w h).mono ?_
  rintro e w' ⟨rfl, rfl⟩
  unfold seqC
  rw [hv]
  simp only [Option.getD_some, Option.isSome_some, if_true]
  clear h
  go_wp2_with fail
  go_ret
  exact ⟨rfl, HS.out, HB.out⟩
set_option maxRecDepth 100000 in
set_option maxHeartbeats 1000000 in
theorem take_full (B sb mb : Nat) (L : Hd) (clock : Nat) (taken : Int) (seq : Int) (w : World) (h : SnAt B sb mb L clock taken w) (hn : 100 ≤ L.length) :
    Calls Try.prog 15 #[.pointer (some ⟨sb, 0, none⟩), .int .u64 seq] w (fun e w' => e = .returned (.tuple #[.int .i64 0, .int .i64 201]) ∧ w = w') := by
  have hlen := h.len
  have dn : decide (100 ≤ (L.length : Int)) = true := decide_eq_true (by omega)
  obtain ⟨c0, c1⟩ := h.cells
  clear h
  go_enter Try.func15, Try.ntmps15
  go_wp2_with fail
  go_ret2
  exact ⟨rfl, rfl⟩
set_option maxRecDepth 100000 in
set_option maxHeartbeats 1000000 in
theorem take_on (B sb mb : Nat) (L : Hd) (clock : Nat) (taken : Int) (seq : Int) (w : World) (h : SnAt B sb mb L clock taken w) (hn : L.length < 100) (h0 : 0 ≤ taken) (ht : taken < 4611686018427387904) :
    Calls Try.prog 15 #[.pointer (some ⟨sb, 0, none⟩), .int .u64 seq] w (fun e w' => e = .returned (.tuple #[.int .i64 taken, .int .i64 0]) ∧ SnAt B sb mb (L ++ [(taken, seq, clock)]) (clock + 1) (taken + 1) w' ∧ Only sb mb w w') := by
  have hlen := h.len
  have dn : decide (100 ≤ (L.length : Int)) = false := decide_eq_false (by omega)
  have hnl : ¬ 100 ≤ L.length := by omega
  have hput := run_put (w := w) mI_map mI_key h.map (eM_mL L) taken (.int .u64 seq) (fun p hp => by
    unfold mL at hp
    obtain ⟨q, hq, rfl⟩ := List.mem_map.1 hp
    have := h.key q hq
    simp only
    omega)
  rw [eM_push] at hput
  have hrow : (setW w mb (.map (eM (L ++ [(taken, seq, clock)])) (clock + 1))).heap[sb]? = some (.cells #[.map (some mb), .int .i64 taken] 82 (0, 0)) := (setW_other h.ne).trans h.row
  have hmap : (setW w mb (.map (eM (L ++ [(taken, seq, clock)])) (clock + 1))).heap[mb]? = some (.map (eM (L ++ [(taken, seq, clock)])) (clock + 1)) := setW_same h.map
  have HB := hid (Only.setM (sb := sb) w mb (.map (eM (L ++ [(taken, seq, clock)])) (clock + 1)))
  obtain ⟨c0, c1⟩ := h.cells
  generalize setW w mb (.map (eM (L ++ [(taken, seq, clock)])) (clock + 1)) = wz at *
  have d0 : wz.cell? ⟨sb, 0, none⟩ = some (.map (some mb)) := by rw [cell_of_row _ _ _ _ _ _ hrow]; rfl
  have d1 : wz.cell? ⟨sb, 1, none⟩ = some (.int .i64 taken) := by rw [cell_of_row _ _ _ _ _ _ hrow]; rfl
  have ff : ∀ i, wz.frozen? ⟨sb, i, none⟩ = false := fun i => frozen_of_row _ _ _ _ _ hrow
  have H := hid h
  have HROW := hid hrow
  have HMAP := hid hmap
  have HT := hid ht
  have H0 := hid h0
  clear h hrow hmap ht h0
  go_enter Try.func15, Try.ntmps15
  go_wp2_with fail
  have hw : wrap64 (taken + 1) = taken + 1 := by have := HT.out; have := H0.out; unfold wrap64; omega
  rw [hw]
  go_ret2
  have hnew : ∀ p, p ∈ L ++ [(taken, seq, clock)] → p.2.2 < clock + 1 ∧ p.1 < taken + 1 := fun p hp => by
    rcases List.mem_append.1 hp with h | h
    · have := H.out.born p h; have := H.out.key p h; omega
    · simp at h; subst h; exact ⟨Nat.lt_succ_self _, by simp only; omega⟩
  refine ⟨rfl, ⟨(heap_setCell_same _ _ _ _ _ _ HROW.out).trans rfl, (heap_setCell_other _ _ _ _ (Ne.symm H.out.ne)).trans HMAP.out, H.out.bs, H.out.bm, fun p hp => (hnew p hp).1, ?_, fun p hp => (hnew p hp).2⟩, HB.out.setC _ _⟩
  rw [List.map_append, List.nodup_append]
  refine ⟨H.out.nd, by simp, fun a ha b hb => ?_⟩
  obtain ⟨q, hq, rfl⟩ := List.mem_map.1 ha
  simp at hb
  subst hb
  exact Nat.ne_of_lt (H.out.born q hq)

end Go.Proofs.Ytjekfifnhdoamaa
