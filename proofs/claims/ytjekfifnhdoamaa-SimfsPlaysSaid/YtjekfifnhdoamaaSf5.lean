/- Files that a crash cuts: Sync, SyncDir, Fuse, Fail, Ops, New. -/
import Derived.Test.YtjekfifnhdoamaaSf4
import Derived.Test.YtjekfifnhdoamaaIter
set_option linter.unusedSimpArgs false
set_option linter.unusedVariables false
set_option linter.unnecessarySimpa false
namespace Go.Proofs.Ytjekfifnhdoamaa
open Go.RowKit Go.Rg Go.St

/-- a file is another one -/
def FL.turn (L : FL) (i : Nat) (v : Value) : FL := { L with bv := fun j => if j = i then v else L.bv j }
def FileF (L : FL) (i : Nat) (k : Nat) : Prop := k = L.φ i ∨ (L.bv i).ownBlock = some k
theorem FsAt.others {w : World} {L : FL} {M : FsM} (h : FsAt w L M) {i : Nat} (hi : L.R i) {k : Nat} (hk : k = L.fb ∨ k = L.nb ∨ k = L.lb ∨ L.sv.ownBlock = some k ∨ ∃ j, L.R j ∧ j ≠ i ∧ (k = L.φ j ∨ (L.bv j).ownBlock = some k)) : ¬ FileF L i k := by
  obtain ⟨f1, f2⟩ := h.fil i hi
  rintro (e | e)
  · subst e
    rcases hk with e | e | e | e | ⟨j, hj, hji, e | e⟩
    · rw [e] at f1; exact obj_ne h.row f1 (by simp [fsC]) rfl
    · obtain ⟨es, c, hm⟩ := h.now.map
      rw [e] at f1; rw [hm] at f1; cases f1
    · obtain ⟨es, c, hm⟩ := h.las.map
      rw [e] at f1; rw [hm] at f1; cases f1
    · obtain ⟨cs, hc⟩ := own_ltG h.sin e
      rw [hc] at f1; simp at f1
    · exact hji (h.inj _ _ hj hi e.symm)
    · obtain ⟨cs, hc⟩ := own_ltG (h.fil j hj).2 e
      rw [hc] at f1; simp at f1
  · obtain ⟨cs, hc⟩ := own_ltG f2 e
    rcases hk with e2 | e2 | e2 | e2 | ⟨j, hj, hji, e2 | e2⟩
    · rw [e2, h.row] at hc; simp at hc
    · obtain ⟨es, c, hm⟩ := h.now.map
      rw [e2, hm] at hc; cases hc
    · obtain ⟨es, c, hm⟩ := h.las.map
      rw [e2, hm] at hc; cases hc
    · obtain ⟨cs2, hc2⟩ := own_ltG h.sin e2
      rw [hc2] at hc; simp at hc
    · rw [e2, (h.fil j hj).1] at hc; simp at hc
    · exact h.ap j i hj hi hji k e2 e
theorem FsAt.file {w w' : World} {L : FL} {M : FsM} (h : FsAt w L M) {i : Nat} (hi : L.R i) {v : Value} {f : Fl} (hc : Ch (FileF L i) w w') (hf : FileAt w' (L.φ i) v f) (hb : ∀ k, v.ownBlock = some k → (L.bv i).ownBlock = some k ∨ w.heap.size ≤ k) :
    FsAt w' (L.turn i v) { M with files := updF M.files i f } := by
  have hk : ∀ k, (k = L.fb ∨ k = L.nb ∨ k = L.lb ∨ L.sv.ownBlock = some k ∨ ∃ j, L.R j ∧ j ≠ i ∧ (k = L.φ j ∨ (L.bv j).ownBlock = some k)) → w'.heap[k]? = w.heap[k]? := fun k hk => by
    refine hc.block k (h.foot_lt ?_) (h.others hi hk)
    rcases hk with e | e | e | e | ⟨j, hj, _, e⟩
    · exact .inl e
    · exact .inr (.inl e)
    · exact .inr (.inr (.inl e))
    · exact .inr (.inr (.inr (.inl e)))
    · exact .inr (.inr (.inr (.inr ⟨j, hj, e⟩)))
  have hbi : (L.turn i v).bv i = v := if_pos rfl
  have hbj : ∀ j, j ≠ i → (L.turn i v).bv j = L.bv j := fun j hj => if_neg hj
  refine ⟨(hk _ (.inl rfl)).trans h.row, h.now.go (hk _ (.inr (.inl rfl))), h.las.go (hk _ (.inr (.inr (.inl rfl)))), owns_ch h.sin (fun g hg => hk _ (.inr (.inr (.inr (.inl hg))))), h.ref, h.lt, fun j hj => ?_, h.nl, h.inj, fun j l hj hl hjl k hk2 => ?_⟩
  · by_cases e : j = i
    · subst e
      rw [hbi]
      show FileAt w' (L.φ j) v (updF M.files j f j)
      rw [updF_same]
      exact hf
    · rw [hbj j e]
      show FileAt w' (L.φ j) (L.bv j) (updF M.files i f j)
      rw [updF_other _ _ e]
      exact ⟨(hk _ (.inr (.inr (.inr (.inr ⟨j, hj, e, .inl rfl⟩))))).trans (h.fil j hj).1, owns_ch (h.fil j hj).2 (fun g hg => hk _ (.inr (.inr (.inr (.inr ⟨j, hj, e, .inr hg⟩)))))⟩
  · by_cases e : j = i
    · subst e
      rw [hbi] at hk2
      rw [hbj l (Ne.symm hjl)]
      intro h2
      rcases hb k hk2 with h3 | h3
      · exact h.ap j l hj hl hjl k h3 h2
      · have := h.foot_lt (.inr (.inr (.inr (.inr ⟨l, hl, .inr h2⟩))))
        omega
    · rw [hbj j e] at hk2
      by_cases e2 : l = i
      · subst e2
        rw [hbi]
        intro h2
        rcases hb k h2 with h3 | h3
        · exact h.ap j l hj hl hjl k hk2 h3
        · have := h.foot_lt (.inr (.inr (.inr (.inr ⟨j, hj, .inr hk2⟩))))
          omega
      · rw [hbj l e2]
        exact h.ap j l hj hl hjl k hk2
theorem FsAt.file_res {w w' : World} {L : FL} {M : FsM} (h : FsAt w L M) {i : Nat} (hi : L.R i) {v : Value} {f : Fl} (hc : Ch (FileF L i) w w') (hf : FileAt w' (L.φ i) v f) (hb : ∀ k, v.ownBlock = some k → (L.bv i).ownBlock = some k ∨ w.heap.size ≤ k) :
    FsRes L w { M with files := updF M.files i f } w' := by
  refine ⟨L.turn i v, rfl, h.file hi hc hf hb, hc.mono fun k _ hk => .inr (.inr (.inr (.inr ⟨i, hi, hk⟩))), fun k hk => ?_⟩
  rcases hk with hk | hk | hk | hk | ⟨j, hj, hk⟩
  · exact .inl (.inl hk)
  · exact .inl (.inr (.inl hk))
  · exact .inl (.inr (.inr (.inl hk)))
  · exact .inl (.inr (.inr (.inr (.inl hk))))
  · by_cases e : j = i
    · subst e
      have e2 : (L.turn j v).bv j = v := if_pos rfl
      rw [e2] at hk
      rcases hk with hk | hk
      · exact .inl (.inr (.inr (.inr (.inr ⟨j, hj, .inl hk⟩))))
      · rcases hb k hk with h1 | h1
        · exact .inl (.inr (.inr (.inr (.inr ⟨j, hj, .inr h1⟩))))
        · exact .inr h1
    · have e2 : (L.turn i v).bv j = L.bv j := if_neg e
      rw [e2] at hk
      exact .inl (.inr (.inr (.inr (.inr ⟨j, hj, hk⟩))))
theorem file_cellsG {w : World} {b : Nat} {v : Value} {f : Fl} (h : FileAt w b v f) : w.cell? ⟨b, 0, none⟩ = some v ∧ w.cell? ⟨b, 1, none⟩ = some (.int .i64 (f.last : Nat)) ∧ ∀ i, w.frozen? ⟨b, i, none⟩ = false := by
  have c := fun j => cell_of_row w b j _ _ _ h.1
  exact ⟨c 0, c 1, fun i => frozen_of_row _ _ _ _ _ h.1⟩

set_option maxRecDepth 100000 in
set_option maxHeartbeats 4000000 in
theorem fsSync_in (L : FL) (M : FsM) (n : ByteArray) (w : World) (h : FsAt w L M) (ok : M.Ok) (ho : M.ops < OpsMax) :
    Calls Try.prog 30 #[ptrV L.fb, .string n] w (FsPost L w (.int .i64 (M.sync n).1) (M.sync n).2) := by
  have OK := hid (ask_row ok ho)
  have AS := hid (ask_asked M)
  have hcr : Hid (M.sync n = if M.ask.1 ≠ 0 then M.ask else
    match fndN M.ask.2.names n with
    | none => (42, M.ask.2)
    | some i => (0, { M.ask.2 with files := updF M.files i ⟨(M.files i).b, (M.files i).b.length⟩ })) := hid rfl
  go_enter Try.func30, Try.ntmps30
  go_wp2_with fail
  refine (fsFind_in L M n w h ok ho).mono ?_
  rintro e w1 ⟨rfl, h1, hc1⟩
  have H1 := hid h1
  have C1 := hid hc1
  clear h1 hc1 h ok ho
  rcases find_cases L M n with ⟨h0, ev, ec⟩ | ⟨h0, hq, ev, ec⟩ | ⟨i, h0, hq, ev, ec⟩
  · have e1 : M.sync n = (M.ask.1, M.ask.2) := by rw [hcr.out, if_pos h0]
    have EE := hid e1
    have d0 : (M.ask.1 == 0) = false := by rw [beq_eq_false_iff_ne]; exact h0
    rw [ev, ec]
    clear h0 hcr e1 ev ec
    go_wp2_with fail
    go_ret
    exact FsPost.of EE.out rfl (FsRes.same H1.out C1.out)
  · have e1 : M.sync n = (42, M.ask.2) := by rw [hcr.out, if_neg (fun h => h h0), hq]
    have EE := hid e1
    rw [ev, ec]
    clear h0 hcr e1 ev ec hq
    go_wp2_with fail
    go_ret
    exact FsPost.of EE.out rfl (FsRes.same H1.out C1.out)
  · have e1 : M.sync n = (0, { M.ask.2 with files := updF M.ask.2.files i ⟨(M.ask.2.files i).b, (M.ask.2.files i).b.length⟩ }) := by rw [hcr.out, if_neg (fun h => h h0), hq, AS.out.files]
    have EE := hid e1
    have hri := H1.out.ref i (.inl ⟨_, fndN_mem hq, rfl⟩)
    have hfi := H1.out.fil i hri
    obtain ⟨c0, c1, ff⟩ := file_cellsG hfi
    obtain ⟨a, cap, hv, hm⟩ := slice_ofG hfi.2
    rw [hv] at c0
    have HV := hid hv
    have HF := hid hfi
    have HRI := hid hri
    rw [ev, ec]
    clear h0 hcr e1 ev ec hq hri hfi hv
    go_wp2_with fail
    go_ret
    refine FsPost.of EE.out rfl (FsRes.after (H1.out.file_res HRI.out (v := L.bv i) ((Ch.rfl (FileF L i) w1).setC (.inl rfl)) ⟨(heap_setCell_same _ _ _ _ _ _ HF.out.1).trans rfl, ?_⟩ (fun k hk => .inl hk)) rfl (C1.out.mono fun k _ hk => .inl hk) fun k hk => .inl hk)
    exact owns_ch HF.out.2 fun g hg => heap_setCell_other _ _ _ _ (fun e => own_neG HF.out.2 HF.out.1 (by simp) (by rw [hg, e]))
theorem syncDir_res {w1 w2 : World} {L : FL} {M : FsM} {g c : Nat} {E : Ent ByteArray} {o : Obj} (H1 : FsAt w1 L M) (E2 : Ext w1 w2) (NG : w2.heap[g]? = some o) (HG : g = w1.heap.size) (HN : NmAt nmK w2 g E c) (HT : NmTells L.φ E M.names) :
    FsRes L w1 { M with lasts := M.names, since := [] } ((w2.setCell ⟨L.fb, 1, none⟩ (.map (some g))).setCell ⟨L.fb, 2, none⟩ (.slice none 0 0)) := by
  have H2 := H1.ext E2
  have hf := H1.foot_lt (k := L.fb) (.inl rfl)
  have hch : Ch (fun k => k = L.fb) w1 ((w2.setCell ⟨L.fb, 1, none⟩ (.map (some g))).setCell ⟨L.fb, 2, none⟩ (.slice none 0 0)) := ((Ch.of_ext (F := fun k => k = L.fb) E2).setC rfl).setC rfl
  have hk : ∀ k, FsFoot1 L k → ((w2.setCell ⟨L.fb, 1, none⟩ (.map (some g))).setCell ⟨L.fb, 2, none⟩ (.slice none 0 0)).heap[k]? = w1.heap[k]? := fun k hk => hch.block k (H1.foot_lt (.inr hk)) (H1.ne_fb hk)
  refine ⟨{ L with lb := g, sv := .slice none 0 0 }, rfl, ⟨?_, H1.now.go (hk _ (.inl rfl)), ?_, World.ownsRow_nil _ _ _ _, fun i hi => ?_, H1.lt, fun i hi => ⟨(hk _ (.inr (.inr (.inr ⟨i, hi, .inl rfl⟩)))).trans (H1.fil i hi).1, owns_ch (H1.fil i hi).2 (fun b hb => hk _ (.inr (.inr (.inr ⟨i, hi, .inr hb⟩))))⟩, ?_, H1.inj, H1.ap⟩, hch.mono fun k _ hk => .inl hk, fun k hk => ?_⟩
  · exact (heap_setCell_same _ _ _ _ _ _ ((heap_setCell_same _ _ _ _ _ _ H2.row).trans rfl)).trans rfl
  · refine ⟨E, c, HN.go ?_, HT⟩
    rw [heap_setCell_other _ _ _ _ (show g ≠ L.fb by omega), heap_setCell_other _ _ _ _ (show g ≠ L.fb by omega)]
  · rcases hi with ⟨p, hp, rfl⟩ | ⟨p, hp, rfl⟩ | ⟨d, hd, _⟩
    · exact H1.ref _ (.inl ⟨p, hp, rfl⟩)
    · exact H1.ref _ (.inl ⟨p, hp, rfl⟩)
    · cases hd
  · have := H1.now.lt
    show L.nb ≠ g
    omega
  · rcases hk with hk | hk | hk | hk | hk
    · exact .inl (.inl hk)
    · exact .inl (.inr (.inl hk))
    · exact .inr (by rw [hk]; show w1.heap.size ≤ g; omega)
    · cases hk
    · exact .inl (.inr (.inr (.inr (.inr hk))))
set_option maxRecDepth 100000 in
set_option maxHeartbeats 4000000 in
theorem fsSyncDir_in (L : FL) (M : FsM) (w : World) (h : FsAt w L M) (ok : M.Ok) (ho : M.ops < OpsMax) :
    Calls Try.prog 31 #[ptrV L.fb] w (FsPost L w (.int .i64 M.syncDir.1) M.syncDir.2) := by
  have OK := hid (ask_row ok ho)
  have AS := hid (ask_asked M)
  have hcr : Hid (M.syncDir = if M.ask.1 ≠ 0 then M.ask else (0, { M.ask.2 with lasts := M.names, since := [] })) := hid rfl
  go_enter Try.func31, Try.ntmps31
  go_wp2_with fail
  refine (fsAsk_in L M w h ok ho).mono ?_
  rintro e w1 ⟨rfl, h1, hc1⟩
  have H1 := hid h1
  have C1 := hid hc1
  obtain ⟨c0, c1, c2, _, _, _, _, ff⟩ := fs_cells h1.row
  clear h1 hc1 h ok ho
  by_cases h0 : M.ask.1 = 0
  · have d0 : (M.ask.1 == 0) = true := by rw [h0]; rfl
    have e1 : M.syncDir = (0, { M.ask.2 with lasts := M.ask.2.names, since := [] }) := by rw [hcr.out, if_neg (fun h => h h0), ← AS.out.names]
    have EE := hid e1
    obtain ⟨E, c, hN, hT⟩ := H1.out.now
    have hcl := AnyW.maps_Clone Try.cloneZ L.nb _ c w1 hN.map
    have HCL := hid (show Calls Try.prog 51 #[.map (some L.nb)] w1 _ from hcl)
    have HN := hid hN
    have HT := hid hT
    rw [show M.ask.1 = 0 from h0]
    clear h0 hcr e1 hcl hN hT d0
    go_wp2_with fail
    refine HCL.out.mono ?_
    rintro e w2 ⟨rfl, hw2⟩
    obtain ⟨g, hg⟩ : ∃ g, g = w1.heap.size := ⟨_, rfl⟩
    rw [← hg]
    have E2 := hid (show Ext w1 w2 from by rw [hw2]; exact (Ext.rfl w1).al _)
    have NG := hid (show w2.heap[g]? = some (.map (eN nmK E) c) from by rw [hw2, hg]; exact heap_alloc_new w1 _)
    have HG := hid hg
    have H2 := hid (H1.out.ext E2.out)
    obtain ⟨d0, d1, d2, _, _, _, _, gg⟩ := fs_cells H2.out.row
    clear hw2 hg HCL c0 c1 c2 ff
    go_wp2_with fail
    go_ret
    refine FsPost.of EE.out rfl (FsRes.after (L1 := L) (w1 := w1) ?_ rfl (C1.out.mono fun k _ hk => .inl hk) fun k hk => .inl hk)
    exact syncDir_res H1.out E2.out NG.out HG.out ⟨NG.out, HN.out.born, HN.out.nd⟩ HT.out
  · have d0 : (M.ask.1 == 0) = false := by rw [beq_eq_false_iff_ne]; exact h0
    have e1 : M.syncDir = (M.ask.1, M.ask.2) := by rw [hcr.out, if_pos h0]
    have EE := hid e1
    clear h0 hcr e1
    go_wp2_with fail
    go_ret
    exact FsPost.of EE.out rfl (FsRes.same H1.out C1.out)

set_option maxRecDepth 100000 in
set_option maxHeartbeats 4000000 in
theorem fsFuse_in (L : FL) (M : FsM) (n : Int) (w : World) (h : FsAt w L M) :
    Calls Try.prog 27 #[ptrV L.fb, .int .i64 n] w (FsPost L w (.tuple #[]) (M.setFuse n)) := by
  have H := hid h
  have hsf : Hid ((M.setFuse n).fuse = if n < -1 then -1 else n) := hid rfl
  obtain ⟨_, _, _, _, _, c5, _, ff⟩ := fs_cells h.row
  clear h
  go_enter Try.func27, Try.ntmps27
  go_wp2_with fail
  all_goals
    go_end0
    refine ⟨rfl, FsRes.same (H.out.head ((ch0 L.fb w).setC rfl) ?_ rfl rfl rfl rfl rfl) ((ch0 L.fb w).setC rfl)⟩
    refine (heap_setCell_same _ _ _ _ _ _ H.out.row).trans ?_
    have e : max n (-1) = (M.setFuse n).fuse := by rw [hsf.out]; split <;> omega
    rw [e]
    rfl
set_option maxRecDepth 100000 in
set_option maxHeartbeats 4000000 in
theorem fsFail_in (L : FL) (M : FsM) (n : Int) (w : World) (h : FsAt w L M) :
    Calls Try.prog 41 #[ptrV L.fb, .int .i64 n] w (FsPost L w (.tuple #[]) (M.setFail n)) := by
  have H := hid h
  have hsf : Hid ((M.setFail n).fail = if n < -1 then -1 else n) := hid rfl
  obtain ⟨_, _, _, _, _, _, c6, ff⟩ := fs_cells h.row
  clear h
  go_enter Try.func41, Try.ntmps41
  go_wp2_with fail
  all_goals
    go_end0
    refine ⟨rfl, FsRes.same (H.out.head ((ch0 L.fb w).setC rfl) ?_ rfl rfl rfl rfl rfl) ((ch0 L.fb w).setC rfl)⟩
    refine (heap_setCell_same _ _ _ _ _ _ H.out.row).trans ?_
    have e : max n (-1) = (M.setFail n).fail := by rw [hsf.out]; split <;> omega
    rw [e]
    rfl
set_option maxRecDepth 100000 in
set_option maxHeartbeats 4000000 in
theorem fsOps_in (L : FL) (M : FsM) (w : World) (h : FsAt w L M) :
    Calls Try.prog 44 #[ptrV L.fb] w (fun e w' => e = .returned (.int .i64 (M.ops : Nat)) ∧ w = w') := by
  obtain ⟨_, _, _, _, c4, _, _, ff⟩ := fs_cells h.row
  clear h
  go_enter Try.func44, Try.ntmps44
  go_wp2_with fail
  go_ret
  exact ⟨rfl, rfl⟩
theorem fsnew_rep (w : World) (k : Nat) : FsAt (((w.alloc (.map #[] 0)).alloc (.map #[] 0)).alloc (.cells #[.map (some w.heap.size), .map (some (w.heap.size + 1)), .slice none 0 0, .int .i64 (k : Nat), .int .i64 0, .int .i64 (-1), .int .i64 (-1)] 92)) ⟨w.heap.size + 2, w.heap.size, w.heap.size + 1, .slice none 0 0, fun _ => 0, fun _ => .slice none 0 0, fun _ => False⟩ (FsM.new k) ∧
    Ext w (((w.alloc (.map #[] 0)).alloc (.map #[] 0)).alloc (.cells #[.map (some w.heap.size), .map (some (w.heap.size + 1)), .slice none 0 0, .int .i64 (k : Nat), .int .i64 0, .int .i64 (-1), .int .i64 (-1)] 92)) ∧
    ∀ b, FsFoot ⟨w.heap.size + 2, w.heap.size, w.heap.size + 1, .slice none 0 0, fun _ => 0, fun _ => .slice none 0 0, fun _ => False⟩ b → w.heap.size ≤ b := by
  have s1 : (w.alloc (.map #[] 0)).heap.size = w.heap.size + 1 := by show (w.heap.push _).size = _; simp
  have s2 : ((w.alloc (.map #[] 0)).alloc (.map #[] 0)).heap.size = w.heap.size + 2 := by show ((w.heap.push _).push _).size = _; simp
  refine ⟨⟨?_, ?_, ?_, World.ownsRow_nil _ _ _ _, fun i hi => ?_, fun i hi => hi.elim, fun i hi => hi.elim, by show w.heap.size ≠ w.heap.size + 1; omega, fun i j hi => hi.elim, fun i j hi => hi.elim⟩, (((Ext.rfl w).al _).al _).al _, fun b hb => ?_⟩
  · have := heap_alloc_new ((w.alloc (.map #[] 0)).alloc (.map #[] 0)) (.cells #[.map (some w.heap.size), .map (some (w.heap.size + 1)), .slice none 0 0, .int .i64 (k : Nat), .int .i64 0, .int .i64 (-1), .int .i64 (-1)] 92)
    rw [s2] at this
    exact this
  · refine ⟨[], 0, (nmAt_new w nmK).go ?_, List.Perm.refl _⟩
    exact (((Ext.rfl (w.alloc (.map #[] 0))).al _).al _).block _ (by rw [s1]; exact Nat.lt_succ_self _)
  · have h := nmAt_new (w.alloc (.map #[] 0)) nmK
    rw [s1] at h
    refine ⟨[], 0, h.go ?_, List.Perm.refl _⟩
    exact ((Ext.rfl ((w.alloc (.map #[] 0)).alloc (.map #[] 0))).al _).block _ (by rw [s2]; exact Nat.lt_succ_self _)
  · rcases hi with ⟨p, hp, _⟩ | ⟨p, hp, _⟩ | ⟨p, hp, _⟩ <;> cases hp
  · rcases hb with rfl | rfl | rfl | hb | ⟨i, hi, _⟩
    · show w.heap.size ≤ w.heap.size + 2; omega
    · exact Nat.le_refl _
    · show w.heap.size ≤ w.heap.size + 1; omega
    · cases hb
    · exact hi.elim
set_option maxRecDepth 100000 in
set_option maxHeartbeats 4000000 in
theorem fsnew_in (q : Int) (w : World) :
    Calls Try.prog 25 #[.int .i64 q] w (fun e w' => (q < 0 ∨ 1048576 < q) ∧ e = .returned (.tuple #[.pointer none, .int .i64 1]) ∧ w = w' ∨
      ∃ (L : FL) (k : Nat), q = k ∧ k ≤ 1048576 ∧ e = .returned (.tuple #[ptrV L.fb, .int .i64 0]) ∧ FsAt w' L (FsM.new k) ∧ Ext w w' ∧ ∀ b, FsFoot L b → w.heap.size ≤ b) := by
  have hmm := @run_makeMap Try.prog
  by_cases h1 : q < 0
  · have d1 : decide (q < 0) = true := decide_eq_true h1
    have H1 := hid h1
    clear h1
    go_enter Try.func25, Try.ntmps25
    go_wp2_with fail
    go_ret2
    exact .inl ⟨.inl H1.out, rfl, rfl⟩
  · have d1 : decide (q < 0) = false := decide_eq_false h1
    by_cases h2 : 1048576 < q
    · have d2 : decide (1048576 < q) = true := decide_eq_true h2
      have H2 := hid h2
      clear h1 h2
      go_enter Try.func25, Try.ntmps25
      go_wp2_with fail
      go_ret2
      exact .inl ⟨.inr H2.out, rfl, rfl⟩
    · have d2 : decide (1048576 < q) = false := decide_eq_false h2
      obtain ⟨k, rfl⟩ : ∃ k : Nat, q = k := ⟨q.toNat, by omega⟩
      have H2 := hid (show k ≤ 1048576 by omega)
      clear h1 h2
      go_enter Try.func25, Try.ntmps25
      go_wp2_with fail
      go_ret2
      exact .inr ⟨⟨w.heap.size + 2, w.heap.size, w.heap.size + 1, .slice none 0 0, fun _ => 0, fun _ => .slice none 0 0, fun _ => False⟩, k, rfl, H2.out, rfl, fsnew_rep w k⟩
end Go.Proofs.Ytjekfifnhdoamaa
