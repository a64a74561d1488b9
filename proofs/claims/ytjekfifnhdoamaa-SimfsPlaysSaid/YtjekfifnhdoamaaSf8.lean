/- Files that a crash cuts: names, rising; List. -/
import Derived.Test.YtjekfifnhdoamaaSf7
import Derived.Shelf.AbstractIn
import Derived.StringKeys
import Derived.Sort.Walk0
set_option linter.unusedSimpArgs false
set_option linter.unusedVariables false
set_option linter.unnecessarySimpa false
namespace Go.Proofs.Ytjekfifnhdoamaa
open Go.RowKit Go.Rg Go.St Go.Maps Go.Sort Go.Shelf

theorem insD_perm {H : Type} (x : Lit × DataW H) : ∀ l : List (Lit × DataW H), (DataW.insert x l).Perm (x :: l)
  | [] => List.Perm.refl _
  | y :: r => by
    unfold DataW.insert
    split
    · exact List.Perm.refl _
    · exact ((insD_perm x r).cons y).trans (List.Perm.swap _ _ _)
theorem sortD_perm {H : Type} : ∀ l : List (Lit × DataW H), (l.foldr DataW.insert []).Perm l
  | [] => List.Perm.refl _
  | x :: r => by
    rw [List.foldr_cons]
    exact (insD_perm x _).trans ((sortD_perm r).cons x)
/-- how an entry of names is read -/
def rdN : Value → Option (DataW Unit × List MemPlace) := fun _ => some (.nil, [])
def datN (E : Ent ByteArray) : DataW Unit := .map ((E.map fun p => (Lit.string p.1.data.toList, (DataW.nil : DataW Unit))).foldr DataW.insert [])
theorem rg_N {E : Ent ByteArray} (hs : ∀ p, p ∈ E → p.1.size ≤ maxLen) : ∀ x, x ∈ (eN nmK E).toList → ∃ p, p ∈ E ∧ Go.WideElems.rd Try.prog 9 rdN x = some (Lit.string p.1.data.toList, .nil) ∧ x = ⟨nmK p.1, ptrV p.2.1, p.2.2⟩ := by
  intro x hx
  obtain ⟨p, hp, rfl⟩ := eN_mem hx
  refine ⟨p, hp, ?_, rfl⟩
  unfold Go.WideElems.rd
  rw [show (⟨nmK p.1, ptrV p.2.1, p.2.2⟩ : MapEntry).key = .string p.1 from rfl, Go.WideMaps.keyOf_string_mk Try.underlying9 (hs p hp)]
  rfl
set_option maxRecDepth 100000 in
theorem owns_names {w : World} {mb c : Nat} {E : Ent ByteArray} (h : NmAt nmK w mb E c) (hn : (keysE E).Nodup) (hs : ∀ p, p ∈ E → p.1.size ≤ maxLen) (hl : E.length ≤ maxLen) : w.ownsMap Try.prog 9 rdN mb E.length (datN E) := by
  refine ⟨eN nmK E, c, h.map, ⟨by rw [eN_size]; exact hl, ?_, fun x hx => ?_⟩, by rw [eN_size]; exact Nat.le_refl _, ?_⟩
  · rw [Go.MapKept.stamped_iff]
    refine ⟨fun x hx => ?_, by rw [eN_born]; exact h.nd, ?_⟩
    · obtain ⟨p, hp, rfl⟩ := eN_mem hx
      exact h.born p hp
    · rw [eN_list, List.pairwise_map]
      unfold keysE at hn
      rw [List.Nodup, List.pairwise_map] at hn
      refine List.Pairwise.imp (fun {a b} hab e => hab ?_) hn
      simpa [nmK] using e
  · obtain ⟨p, hp, h1, _⟩ := rg_N hs x hx
    exact ⟨_, h1⟩
  · have e : (eN nmK E).toList.map (Go.WideElems.rg Try.prog 9 rdN) = E.map fun p => (Lit.string p.1.data.toList, (DataW.nil : DataW Unit)) := by
      rw [eN_list, List.map_map]
      refine List.map_congr_left fun p hp => ?_
      show Go.WideElems.rg Try.prog 9 rdN ⟨nmK p.1, ptrV p.2.1, p.2.2⟩ = _
      unfold Go.WideElems.rg Go.WideElems.rd
      rw [show (⟨nmK p.1, ptrV p.2.1, p.2.2⟩ : MapEntry).key = .string p.1 from rfl, Go.WideMaps.keyOf_string_mk Try.underlying9 (hs p hp)]
      rfl
    rw [e]
    rfl
theorem keys_N (E : Ent ByteArray) : (strKeys (datN E)).Perm ((keysE E).map fun s => s.data.toList) := by
  unfold datN
  show ((List.foldr DataW.insert [] (E.map fun p => (Lit.string p.1.data.toList, (DataW.nil : DataW Unit)))).map fun p => strOf p.1).Perm _
  refine ((sortD_perm _).map _).trans ?_
  unfold keysE
  rw [List.map_map, List.map_map]
  exact List.Perm.refl _
theorem size_N (E : Ent ByteArray) : Maps.size (datN E) = E.length := by
  unfold datN
  show (List.foldr DataW.insert [] (E.map fun p => (Lit.string p.1.data.toList, (DataW.nil : DataW Unit)))).length = _
  rw [(sortD_perm _).length_eq, List.length_map]

/-- slices.Sort's two contracts at this seat, at the fence that asks nothing -/
theorem sortsZ (m : Nat) : AnyZ.SortsIn Try.prog Try.sortedZ_ren Fence.wide m :=
  ⟨fun blk off cap ss W hH hblk hsz => callsIn_wide.2 (AnyM.slices_Sort_string Try.sortZ blk off cap ss W hH hblk hsz),
   fun p cap W => callsIn_wide.2 (AnyM.slices_Sort_string_none Try.sortZ p cap W)⟩
set_option maxHeartbeats 1000000 in
theorem sorted_raw {H : Type} (b nn : Nat) (D0 : DataW H) (R : Value → Option (DataW H × List MemPlace)) (w : World) (hown : w.ownsMap Try.prog 9 R b nn D0) (hmax : Maps.size D0 ≤ maxLen) (hbytes : Maps.size D0 * 16 ≤ 140737488355328) :
    Calls Try.prog 54 #[.map (some b)] w fun e w' => ∃ (v : Value) (ss : List (List UInt8)), e = .returned v ∧ ss.Perm (strKeys D0) ∧
      w'.ownsRow w.heap.size 9 1 v ss.length ((ss.mergeSort (fun x y => decide (x ≤ y))).map encStr) ∧ (v = .slice none 0 0 ↔ ss = []) ∧ Below w.heap.size w w' := by
  refine (callsIn_wide (n := 6)).1 ?_
  have hbl := hown.lt
  have hseq : SeqGives Fence.wide 2 Try.prog 93 #[.pointer (some ⟨w.heap.size, 0, none⟩)] encStr (fun ss => ss.Perm (strKeys D0)) (Maps.size D0) (w.alloc (.cells #[.map (some b)] 89)) :=
    AnyZ.keys_gives (ρ := Try.keysZ_ren) { Try.keysZ with } Fence.wide _ trivial rfl (by omega) w.heap.size b nn D0 _ (by simp) (by simp) (by
      obtain ⟨es, clock, hb, Ft, hs, hD⟩ := hown
      exact ⟨es, clock, (Below.heap_alloc _ _ b hbl).trans hb, Ft, hs, hD⟩)
  have cK : ∀ mb W, CallsIn Fence.wide 5 Try.prog 73 #[.map mb] W fun e w' => e = .returned (.func (.func 93) #[] #[.pointer (some ⟨W.heap.size, 0, none⟩)]) ∧ w' = W.alloc (.cells #[.map mb] 89) := fun mb W => AnyZ.keys_in Try.keysZ Fence.wide 5 trivial rfl mb W
  have cS := AnyZ.sorted_in Try.sortedZ Fence.wide 5 trivial trivial trivial trivial rfl (by omega) (sortsZ _) (enters_of Try.func92 (by kernel_rfl) rfl) 93 #[.pointer (some ⟨w.heap.size, 0, none⟩)] trivial (enters_of Try.func93 (by kernel_rfl) rfl) _ _ hmax hbytes _ hseq
  change CallsIn _ _ Try.prog 72 _ _ _ at cS
  have hfK : Fence.wide.fn 73 := trivial
  have hfS : Fence.wide.fn 72 := trivial
  refine callsIn_of_wp Try.func54 rfl trivial ?_ rfl
  simp only [Try.ntmps54, List.size_toArray, List.length_cons, List.length_nil, Nat.reduceAdd, Nat.reduceSub, Array.replicate_succ, Array.replicate_zero, List.push_toArray, List.append_toArray, List.nil_append, List.cons_append]
  gi_wp2_with (first
    | (gi_at_call 73; refine (cK _ _).mono ?_; rintro e w' ⟨rfl, rfl⟩)
    | (gi_at_call 72; refine cS.mono ?_; rintro e w' ⟨v, ss, rfl, hS, hrow, hnil, hb⟩))
  go_ret
  exact ⟨v, ss, rfl, hS, ownsRow_base_a hrow (by simp), hnil, ((Below.refl _ w).alloc (Nat.le_refl _) _).trans (hb.mono (by simp))⟩

theorem kl_lt {a b : ByteArray} (h : kl a b = true) : a.data.toList < b.data.toList := by
  unfold kl at h
  rw [ByteArray.toList_eq, ByteArray.toList_eq, bytesLess_eq, decide_eq_true_eq] at h
  exact h
/-- names, sorted, are the names as they rise -/
theorem sort_names {l : Nm} (hr : Rising l) {ss : List (List UInt8)} (hp : ss.Perm (l.map fun p => p.1.data.toList)) : (ss.mergeSort (fun x y => decide (x ≤ y))).map encStr = l.map fun p => Value.string p.1 := by
  have tr : ∀ a b c : List UInt8, leB a b = true → leB b c = true → leB a c = true := fun a b c h1 h2 => by simp only [leB, decide_eq_true_eq] at *; exact List.le_trans h1 h2
  have tot : ∀ a b : List UInt8, (leB a b || leB b a) = true := fun a b => by simp only [leB, Bool.or_eq_true, decide_eq_true_eq]; exact List.le_total a b
  have e : ss.mergeSort leB = l.map fun p => p.1.data.toList := by
    refine List.Perm.eq_of_pairwise (le := fun a b => leB a b = true) (fun a b _ _ h1 h2 => ?_) (List.pairwise_mergeSort tr tot ss) ?_ ((List.mergeSort_perm ss leB).trans hp)
    · simp only [leB, decide_eq_true_eq] at h1 h2
      exact List.le_antisymm h1 h2
    · rw [List.pairwise_map]
      refine List.Pairwise.imp (fun {a b} hab => ?_) hr
      simp only [leB, decide_eq_true_eq]
      exact List.le_of_lt (kl_lt hab)
  show (ss.mergeSort leB).map encStr = _
  rw [e, List.map_map]
  refine List.map_congr_left fun p _ => ?_
  show Value.string ⟨p.1.data.toList.toArray⟩ = _
  rw [Array.toArray_toList]
def NamesV (w : World) (l : Nm) (v : Value) (w' : World) : Prop := w'.ownsRow w.heap.size 9 1 v l.length (l.map fun p => Value.string p.1) ∧ Ext w w'
theorem fsSorted_in (φ : Nat → Nat) (l : Nm) (mb : Nat) (w : World) (h : NamesAt w mb φ l) (hr : Rising l) (hs : ∀ p, p ∈ l → p.1.size ≤ 32) (hl : l.length ≤ OpsMax) :
    Calls Try.prog 54 #[.map (some mb)] w (fun e w' => ∃ v, e = .returned v ∧ NamesV w l v w') := by
  obtain ⟨E, c, hN, hT⟩ := h
  have hlen : E.length = l.length := by
    have := hT.length_eq
    unfold pr at this
    simpa using this
  unfold OpsMax at hl
  have hkeys : (keysE E).Perm (l.map (·.1)) := by
    have h1 := hT.map (·.1)
    rw [List.map_map] at h1
    rw [keys_pr]
    exact h1
  have hown := owns_names hN (hT.keys hr) (fun p hp => by
    have h1 : p.1 ∈ l.map (·.1) := hkeys.mem_iff.1 (List.mem_map.2 ⟨p, hp, rfl⟩)
    obtain ⟨q, hq, e⟩ := List.mem_map.1 h1
    rw [← e]
    have := hs q hq
    unfold maxLen
    omega) (by unfold maxLen; omega)
  refine (sorted_raw mb _ _ _ w hown (by rw [size_N]; unfold maxLen; omega) (by rw [size_N]; omega)).mono ?_
  rintro e w' ⟨v, ss, rfl, hS, hrow, hnil, hb⟩
  have hP : ss.Perm (l.map fun p => p.1.data.toList) := by
    refine (hS.trans (keys_N E)).trans ?_
    have h2 := hkeys.map (fun s : ByteArray => s.data.toList)
    rw [List.map_map] at h2
    exact h2
  refine ⟨v, rfl, ?_, hb⟩
  rw [sort_names hr hP, hP.length_eq, List.length_map] at hrow
  exact hrow
def ListPost (M : FsM) (w : World) (e : Ending) (w' : World) : Prop := ∃ v, e = .returned (.tuple #[v, .int .i64 M.list.2]) ∧ w'.ownsRow w.heap.size 9 1 v M.list.1.length (M.list.1.map Value.string) ∧ Ext w w'
set_option maxRecDepth 100000 in
set_option maxHeartbeats 4000000 in
theorem fsList_in (L : FL) (M : FsM) (w : World) (h : FsAt w L M) (ok : M.Ok) (ho : M.ops ≤ OpsMax) :
    Calls Try.prog 35 #[ptrV L.fb] w (ListPost M w) := by
  have hrd : Hid (M.list = if M.fuse = 0 then (([], 44) : List ByteArray × Int) else (M.names.map (·.1), 0)) := hid rfl
  obtain ⟨c0, _, _, _, _, c5, _, ff⟩ := fs_cells h.row
  have H := hid h
  have hso := hid (fsSorted_in L.φ M.names L.nb w h.now ok.rn (fun p hp => (good_size (ok.on p hp).1).2) (Nat.le_trans ok.ln ho))
  clear h ok ho
  by_cases h0 : M.fuse = 0
  · have d0 : (M.fuse == 0) = true := by rw [h0]; rfl
    have EE := hid (show M.list = ([], 44) by rw [hrd.out, if_pos h0])
    clear h0 hrd
    go_enter Try.func35, Try.ntmps35
    go_wp2_with fail
    go_ret2
    exact ⟨_, by rw [EE.out]; rfl, by rw [EE.out]; exact World.ownsRow_nil _ _ _ _, Ext.rfl _⟩
  · have d0 : (M.fuse == 0) = false := by rw [beq_eq_false_iff_ne]; exact h0
    have EE := hid (show M.list = (M.names.map (·.1), 0) by rw [hrd.out, if_neg h0])
    clear h0 hrd
    go_enter Try.func35, Try.ntmps35
    go_wp2_with fail
    refine hso.out.mono ?_
    rintro e w2 ⟨v, rfl, hv⟩
    have HV := hid hv
    clear hv
    go_wp2_with fail
    go_ret2
    refine ⟨_, by rw [EE.out]; rfl, ?_, HV.out.2⟩
    rw [EE.out]
    simp only [List.length_map, List.map_map]
    exact HV.out.1
end Go.Proofs.Ytjekfifnhdoamaa
