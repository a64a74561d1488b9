/- Files that a crash cuts: Append. -/
import Derived.Test.YtjekfifnhdoamaaSf6
set_option linter.unusedSimpArgs false
set_option linter.unusedVariables false
set_option linter.unnecessarySimpa false
namespace Go.Proofs.Ytjekfifnhdoamaa
open Go.RowKit Go.Rg Go.St

/-- bytes that are read -/
def SlB (w : World) (v : Value) (bs : List UInt8) : Prop := Sl1 w v bs.length (fun i => .int .u8 (nth bs i).toNat)
theorem bc_nth (l : List UInt8) (j : Nat) : (Lib.byteCells l)[j]? = if j < l.length then some (.int .u8 (nth l j).toNat) else none := by
  unfold Lib.byteCells
  rw [List.getElem?_map]
  by_cases h : j < l.length
  · rw [if_pos h, List.getElem?_eq_getElem h]
    simp [nth, h]
  · rw [if_neg h, List.getElem?_eq_none (by omega)]
    rfl
theorem app_bytes {w : World} {v vb : Value} {xs bs : List UInt8} (hown : w.ownsRow 0 5 1 v xs.length (Lib.byteCells xs)) (hs : SlB w vb bs) (hb : xs.length + bs.length ≤ 140737488355328) (ty : TypeId) :
    ∃ v' w', (Builtin.append_ #[53, 53] ty #[v, vb]).run Try.prog w = .ok v' w' ∧ AppP w w' 5 1 v v' (xs ++ bs).length (Lib.byteCells (xs ++ bs)) := by
  obtain ⟨a, cap, rfl, hcap, hm, hc⟩ := hs.ex
  rcases Nat.eq_zero_or_pos bs.length with h0 | h0
  · obtain rfl := List.length_eq_zero_iff.1 h0
    rw [List.append_nil]
    rcases hown.2 with ⟨rfl, hl⟩ | ⟨g, c, cur, rfl, hb0, hg, hnc, rest⟩
    · refine ⟨_, w, run_app0 bytE ty none a 0 0 cap (Nat.le_refl _), hown, Ch.rfl _ _, fun k hk => by cases hk⟩
    · exact ⟨_, w, run_app0 bytE ty _ a xs.length c cap hnc, hown, Ch.rfl _ _, fun k hk => .inl hk⟩
  · obtain ⟨b, off, rfl, hcell⟩ := hc h0
    obtain ⟨v', w', hrun, hp⟩ := run_appG (P := Try.prog) bytE ty hown (ad := ⟨b, off, none⟩) (m := bs.length) (c := cap) (news := Lib.byteCells bs) (bc_len bs) (fun j u hu => by
      rw [bc_nth] at hu
      split at hu
      · rename_i hj
        rw [← Option.some.inj hu, Addr.add_lit]
        exact hcell j hj
      · cases hu) (bc_one bs) (by omega)
    refine ⟨v', w', hrun, ?_⟩
    rw [List.length_append, Lib.byteCells_append]
    exact hp
theorem SlB.go {w w' : World} {v : Value} {bs : List UInt8} (h : SlB w v bs) (he : Ext w w') : SlB w' v bs := Sl1.go h he
/-- the head of the files holds no bytes -/
theorem SlB.head {w w' : World} {L : FL} {M : FsM} {v : Value} {bs : List UInt8} (h : SlB w v bs) (hr : FsAt w L M) (hc : Ch (fun k => k = L.fb) w w') : SlB w' v bs := by
  obtain ⟨a, cap, e, h0, h1, h2⟩ := h.ex
  refine ⟨a, cap, e, h0, h1, fun hn => ?_⟩
  obtain ⟨b, off, e2, hcell⟩ := h2 hn
  refine ⟨b, off, e2, fun i hi => ?_⟩
  have hci := hcell i hi
  have hb : b ≠ L.fb := fun e => by
    rw [e, cell_of_row _ _ _ _ _ _ hr.row] at hci
    unfold fsC at hci
    obtain ⟨aS, cS, hsv, _⟩ := slice_ofG hr.sin
    rw [hsv] at hci
    have hlt := (Array.getElem?_eq_some_iff.1 hci).1
    have : off + i < 7 := hlt
    obtain h | h | h | h | h | h | h : off + i = 0 ∨ off + i = 1 ∨ off + i = 2 ∨ off + i = 3 ∨ off + i = 4 ∨ off + i = 5 ∨ off + i = 6 := by omega
    all_goals
      rw [h] at hci
      simp at hci
  have hbl := cell_lt hci
  exact (World.cell?_of_block (a := ⟨b, off + i, none⟩) (hc.block b hbl hb)).trans hci

/-- how many bytes a file has, by its block -/
noncomputable def lenB (L : FL) (M : FsM) (b : Nat) : Nat := @dite _ (∃ i, L.R i ∧ L.φ i = b) (Classical.propDecidable _) (fun h => (M.files (Classical.choose h)).b.length) (fun _ => 0)
theorem lenB_eq {w : World} {L : FL} {M : FsM} (h : FsAt w L M) {i : Nat} (hi : L.R i) : lenB L M (L.φ i) = (M.files i).b.length := by
  have hx : ∃ j, L.R j ∧ L.φ j = L.φ i := ⟨i, hi, rfl⟩
  unfold lenB
  rw [dif_pos hx]
  have hs := Classical.choose_spec hx
  rw [h.inj _ _ hs.1 hi hs.2]
theorem total_E {w : World} {L : FL} {M : FsM} (h : FsAt w L M) {E : Ent ByteArray} (hT : NmTells L.φ E M.names) : (E.map fun p => lenB L M p.2.1).sum = M.total := by
  rw [pr_sum hT, List.map_map]
  unfold FsM.total
  congr 1
  refine List.map_congr_left fun p hp => ?_
  exact lenB_eq h (h.ref _ (.inl ⟨p, hp, rfl⟩))
theorem total_le {M : FsM} (ok : M.Ok) : M.total ≤ M.names.length * 1048576 := by
  have : ∀ l : Nm, (l.map fun p => (M.files p.2).b.length).sum ≤ l.length * 1048576 := by
    intro l
    induction l with
    | nil => simp
    | cons p l ih =>
      rw [List.map_cons, List.sum_cons, List.length_cons]
      have := (ok.fl p.2).2
      omega
  exact this _
theorem ent_file {w : World} {L : FL} {M : FsM} (h : FsAt w L M) {E : Ent ByteArray} (hT : NmTells L.φ E M.names) {p : ByteArray × Nat × Nat} (hp : p ∈ E) : ∃ i, L.R i ∧ p.2.1 = L.φ i ∧ lenB L M p.2.1 = (M.files i).b.length := by
  have h1 : (p.1, p.2.1) ∈ pr E := List.mem_map.2 ⟨p, hp, rfl⟩
  have h2 := hT.mem_iff.1 h1
  obtain ⟨q, hq, e⟩ := List.mem_map.1 h2
  simp only [Prod.mk.injEq] at e
  have hr := h.ref q.2 (.inl ⟨q, hq, rfl⟩)
  exact ⟨q.2, hr, e.2.symm, by rw [← e.2]; exact lenB_eq h hr⟩

set_option maxRecDepth 100000 in
set_option maxHeartbeats 4000000 in
theorem fsAppend_in (L : FL) (M : FsM) (n : ByteArray) (vb : Value) (bs : List UInt8) (w : World) (h : FsAt w L M) (ok : M.Ok) (ho : M.ops < OpsMax) (hs : SlB w vb bs) (hb : bs.length ≤ 140737488355328) :
    Calls Try.prog 28 #[ptrV L.fb, .string n, vb] w (FsPost L w (.int .i64 (M.append n bs).1) (M.append n bs).2) := by
  have OK := hid (ask_row ok ho)
  have AS := hid (ask_asked M)
  have hcr : Hid (M.append n bs = if M.ask.1 ≠ 0 then M.ask else
    match fndN M.ask.2.names n with
    | none => (42, M.ask.2)
    | some i => if M.quota < bs.length + M.ask.2.total then (43, M.ask.2) else (0, { M.ask.2 with files := updF M.files i ⟨(M.files i).b ++ bs, (M.files i).last⟩ })) := hid rfl
  have HS0 := hid (fun w' hc => hs.head (w' := w') h hc)
  obtain ⟨aB, capB, rfl, hcapB, hmB, _⟩ := hs.ex
  have HBL := hid hb
  clear hs hb
  go_enter Try.func28, Try.ntmps28
  go_wp2_with fail
  refine (fsFind_in L M n w h ok ho).mono ?_
  rintro e w1 ⟨rfl, h1, hc1⟩
  have H1 := hid h1
  have C1 := hid hc1
  have HS1 := hid (HS0.out w1 hc1)
  clear h1 hc1 h ok ho HS0
  rcases find_cases L M n with ⟨h0, ev, ec⟩ | ⟨h0, hq, ev, ec⟩ | ⟨i, h0, hq, ev, ec⟩
  · have e1 : M.append n bs = (M.ask.1, M.ask.2) := by rw [hcr.out, if_pos h0]
    have EE := hid e1
    have d0 : (M.ask.1 != 0) = true := by simp [h0]
    rw [ev, ec]
    clear h0 hcr e1 ev ec
    go_wp2_with fail
    go_ret
    exact FsPost.of EE.out rfl (FsRes.same H1.out C1.out)
  · have e1 : M.append n bs = (42, M.ask.2) := by rw [hcr.out, if_neg (fun h => h h0), hq]
    have EE := hid e1
    rw [ev, ec]
    clear h0 hcr e1 ev ec hq
    go_wp2_with fail
    go_ret
    exact FsPost.of EE.out rfl (FsRes.same H1.out C1.out)
  · have hcr2 : M.append n bs = if M.ask.2.quota < bs.length + M.ask.2.total then (43, M.ask.2) else (0, { M.ask.2 with files := updF M.ask.2.files i ⟨(M.ask.2.files i).b ++ bs, (M.ask.2.files i).last⟩ }) := by rw [hcr.out, if_neg (fun h => h h0), hq, ← AS.out.files, ← AS.out.quota]
    have HCR := hid hcr2
    have hri := hid (H1.out.ref i (.inl ⟨_, fndN_mem hq, rfl⟩))
    obtain ⟨E, c, hN, hT⟩ := H1.out.now
    have hrg := run_range_map (P := Try.prog) w1 89 9 94 L.nb _ c mN_map hN.map
    obtain ⟨c0, _, _, c3, _, _, _, _⟩ := fs_cells H1.out.row
    have HN := hid hN
    have HT := hid hT
    rw [ev, ec]
    clear h0 hcr hcr2 ev ec hq hN hT
    go_wp2_with fail
    have IT0 := hid (heap_alloc_new w1 (.mapIter (some L.nb) c #[] c))
    have X2 := hid ((Ext.rfl w1).al (.mapIter (some L.nb) c #[] c))
    have HBX := hid (show ∀ w', Below w1.heap.size w1 w' → Ext w1 w' from fun _ h => h)
    have TOT := hid (total_E H1.out HT.out)
    have TLE := hid (total_le OK.out.1)
    clear hrg c0 c3
    generalize hw2 : w1.alloc (.mapIter (some L.nb) c #[] c) = w2 at *
    obtain ⟨r, hr⟩ : ∃ r, r = w1.heap.size := ⟨_, rfl⟩
    rw [← hr] at IT0 ⊢
    have HRS := hid hr
    clear hr hw2
    go_loopw [9] (fun s wr => ∃ seen : Array Nat, s = .int .i64 ((bs.length : Int) + (sumEn (lenB L M.ask.2) E seen : Nat)) ∧ wr.heap[r]? = some (.mapIter (some L.nb) c seen c) ∧ Ext w1 wr) (fun _ wr => leftE E (wr.iterSeen r))
    case atStart => exact ⟨#[], by rw [sumEn_none]; simp, IT0.out, X2.out⟩
    case round =>
      obtain ⟨seen, rfl, hit, hx⟩ := hrel
      have IT := hid hit
      have XX := hid hx
      have NR := HN.out.go (hx.block _ HN.out.lt)
      rcases nm_next (P := Try.prog) NR hit with ⟨hall, hnx⟩ | ⟨p, wz, hp, hns, hnx, hen, hit2, hch, hle⟩
      · have hsum := hid (show sumEn (lenB L M.ask.2) E seen = M.ask.2.total from by rw [sumEn_all hall, TOT.out])
        have H3 := hid (H1.out.ext hx)
        rw [hsum.out]
        obtain ⟨_, _, _, c3, _, _, _, _⟩ := fs_cells H3.out.row
        have hfi := H3.out.fil i hri.out
        have hlen := hid (OK.out.1.fl i).2
        obtain ⟨k0, k1, kf⟩ := file_cellsG hfi
        obtain ⟨a1, cap1, hv, _⟩ := slice_ofG hfi.2
        rw [hv] at k0
        have HV := hid hv
        have HF := hid hfi
        by_cases hqt : M.ask.2.quota < bs.length + M.ask.2.total
        · have e1 : M.append n bs = (43, M.ask.2) := by rw [HCR.out, if_pos hqt]
          have EE := hid e1
          have dq : (M.ask.2.quota : Int) < (bs.length : Int) + (M.ask.2.total : Nat) := by omega
          clear hit hx NR hall IT hfi hv e1 hqt k0 k1 kf
          go_wp2_with fail
          go_ret
          refine FsPost.of EE.out rfl (FsRes.after (L1 := L) (w1 := w1) ⟨L, rfl, H3.out, Ch.of_ext XX.out, fun k hk => .inl hk⟩ rfl (C1.out.mono fun k _ hk => .inl hk) fun k hk => .inl hk)
        · have e1 : M.append n bs = (0, { M.ask.2 with files := updF M.ask.2.files i ⟨(M.ask.2.files i).b ++ bs, (M.ask.2.files i).last⟩ }) := by rw [HCR.out, if_neg hqt]
          have EE := hid e1
          have dq : ¬ (M.ask.2.quota : Int) < (bs.length : Int) + (M.ask.2.total : Nat) := by omega
          obtain ⟨v4, w4, hap, hp4⟩ := app_bytes hfi.2 (HS1.out.go XX.out) (by have := hlen.out; have := OK.out.1.q; omega) 53
          obtain ⟨a4, cap4, rfl, _⟩ := slice_ofG hp4.own
          rw [hv] at hap
          have hrow4 := (hp4.ch.block _ (blk_lt hfi.1) (own_neG hfi.2 hfi.1 (by simp))).trans hfi.1
          have z0 := cell_of_row _ _ 0 _ _ _ hrow4
          simp only [List.getElem?_toArray, List.getElem?_cons_zero] at z0
          have zf : ∀ j, w4.frozen? ⟨L.φ i, j, none⟩ = false := fun j => frozen_of_row _ _ _ _ _ hrow4
          have HP4 := hid hp4
          have HR4 := hid hrow4
          have HAP := hid hap
          clear hit hx NR hall IT hfi hv e1 hqt k1 kf hp4 hrow4 hap
          go_wp2_with (at_builtin; refine wpList_app_eq rfl rfl HAP.out ?_)
          go_ret
          refine FsPost.of EE.out rfl (FsRes.after (L1 := L) (w1 := w1) ?_ rfl (C1.out.mono fun k _ hk => .inl hk) fun k hk => .inl hk)
          refine FsRes.after (L1 := L) (w1 := wr) (H3.out.file_res hri.out (v := .slice a4 ((M.ask.2.files i).b ++ bs).length cap4) (f := ⟨(M.ask.2.files i).b ++ bs, (M.ask.2.files i).last⟩) ?_ ⟨?_, ?_⟩ ?_) rfl (Ch.of_ext XX.out) fun k hk => .inl hk
          · exact (HP4.out.ch.mono fun k _ hk => .inr hk).setC (.inl rfl)
          · exact (heap_setCell_same _ _ _ _ _ _ HR4.out).trans (by rw [List.length_append]; rfl)
          · exact owns_ch HP4.out.own fun g hg => heap_setCell_other _ _ _ _ (fun e => own_neG HP4.out.own HR4.out (by simp) (by rw [hg, e]))
          · intro k hk
            rcases HP4.out.blk k hk with h | h
            · exact .inl h
            · exact .inr (by omega)
      · have xz := hid (show Ext w1 wz from ((Ch.of_ext (F := fun k => k = r) hx).tr hch).ext fun k hk e => by have := HRS.out; omega)
        have H3 := hid (H1.out.ext xz.out)
        obtain ⟨j, hj, ep, el⟩ := ent_file H1.out HT.out hp
        obtain ⟨k0, k1, kf⟩ := file_cellsG (H3.out.fil j hj)
        obtain ⟨a1, cap1, hv, _⟩ := slice_ofG (H3.out.fil j hj).2
        rw [hv, ← ep, ← el] at k0
        have hpush := sumEn_push (lenB L M.ask.2) seen p hns E HN.out.nd hp
        have hle2 := sumEn_le (lenB L M.ask.2) E (seen.push p.2.2)
        rw [TOT.out] at hle2
        have hw : IntKind.i64.wrap ((bs.length : Int) + (sumEn (lenB L M.ask.2) E seen : Nat) + (lenB L M.ask.2 p.2.1 : Nat)) = (bs.length : Int) + (sumEn (lenB L M.ask.2) E (seen.push p.2.2) : Nat) := by
          have h1 := TLE.out
          have h2 := OK.out.1.ln
          have h3 := OK.out.2
          have h4 := HBL.out
          unfold OpsMax at h3
          simp only [IntKind.wrap_i64]
          omega
        have IT2 := hid hit2
        have LE := hid hle
        have IT := hid hit
        clear hit hit2 hle hx NR hch hp hns hpush hle2 ep el hv k1 kf hj
        go_wp2_with fail
        go_roundw
        case rel => exact ⟨seen.push p.2.2, rfl, IT2.out, xz.out⟩
        case measure =>
          unfold World.iterSeen
          rw [IT2.out, IT.out]
          exact LE.out
end Go.Proofs.Ytjekfifnhdoamaa
