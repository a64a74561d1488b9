/- The document's files: Sync, Read, List, Pick. -/
import Derived.Test.YtjekfifnhdoamaaRf4
import Derived.BigRegion
set_option linter.unusedSimpArgs false
set_option linter.unusedVariables false
set_option linter.unnecessarySimpa false
namespace Go.Proofs.Ytjekfifnhdoamaa
open Go.RowKit Go.Rg Go.St

theorem owns_setC {w : World} {base : Nat} {e : TypeId} {sz g n cap i : Nat} {xs : List Value} {v : Value} (h : w.ownsRow base e sz (.slice (some ⟨g, 0, none⟩) n cap) n xs) : (w.setCell ⟨g, i, none⟩ v).ownsRow base e sz (.slice (some ⟨g, 0, none⟩) n cap) n (xs.set i v) := by
  obtain ⟨cur, hg, hcs, htk, hb, hn, hm⟩ := owns_atG h
  refine ⟨by rw [List.length_set]; exact h.1, .inr ⟨g, cap, _, rfl, hb, heap_setCell_same w g i _ _ v hg, hn, hm, ?_, ?_⟩⟩
  · simp [hcs]
  · rw [← htk, Array.toList_setIfInBounds, List.take_set]
theorem flat_set {sz : Nat} {enc enc' : Nat → List Value} {j : Nat} {v : Value} (hl : ∀ x, (enc x).length = sz) (hj : j < sz) : ∀ (n i : Nat), i < n → (∀ x, x ≠ i → enc' x = enc x) → enc' i = (enc i).set j v → ((List.range n).flatMap enc).set (i * sz + j) v = (List.range n).flatMap enc'
  | 0, _, hi, _, _ => absurd hi (Nat.not_lt_zero _)
  | n + 1, i, hi, h1, h2 => by
    rw [List.range_succ, List.flatMap_append, List.flatMap_append]
    have hlen : ∀ m, ((List.range m).flatMap enc).length = m * sz := by
      intro m
      induction m with
      | zero => simp
      | succ m ih => rw [List.range_succ, List.flatMap_append, List.length_append, ih, Nat.succ_mul]; simp [hl]
    by_cases e : i = n
    · subst e
      rw [List.set_append_right _ _ (by rw [hlen]; omega), hlen, Nat.add_sub_cancel_left]
      congr 1
      · exact flatMap_congrG fun x hx => (h1 x (by have := List.mem_range.1 hx; omega)).symm
      · simp [h2]
    · have hlt : i * sz + j < n * sz := by
        have : (i + 1) * sz ≤ n * sz := Nat.mul_le_mul_right _ (by omega)
        rw [Nat.succ_mul] at this
        omega
      rw [List.set_append_left _ _ (by rw [hlen]; exact hlt), flat_set hl hj n i (by omega) h1 h2]
      congr 1
      simp [h1 n (Ne.symm e)]
theorem eFl_len (L : RL) (M : FsM) (x : Nat) : (eFl L M x).length = 2 := rfl
/-- a file's place in its row -/
structure FCell (w : World) (L : RL) (M : FsM) (i bf off cF : Nat) : Prop where
  z : off = 0
  v : L.vf = .slice (some ⟨bf, off, none⟩) M.nf cF
  c0 : w.cell? ⟨bf, off + i * 2, none⟩ = some (L.vb i)
  c1 : w.cell? ⟨bf, off + i * 2 + 1, none⟩ = some (.int .i64 ((M.files i).last : Nat))
  f : ∀ j, w.frozen? ⟨bf, j, none⟩ = false
  row : ∃ cs, w.heap[bf]? = some (.cells cs 115 (0, 0))
theorem RefAt.fcell {w : World} {L : RL} {M : FsM} (h : RefAt w L M) {i : Nat} (hi : i < M.nf) : ∃ bf off cF, FCell w L M i bf off cF := by
  rcases h.fil.2 with ⟨_, hx⟩ | ⟨g, cap, cur, hv, hb, hg, hnc, hcm, hcs, htk⟩
  · omega
  · have hz : ∀ j, j < 2 → cur[0 + i * 2 + j]? = (eFl L M i)[j]? := fun j hj => by
      have h1 := flat_getG (enc := eFl L M) (sz := 2) (fun _ => rfl) (List.range M.nf) i j (by simpa using hi) hj
      have e : nth (List.range M.nf) i = i := by simp [nth, hi]
      rw [e, ← htk, List.getElem?_take, if_pos (by omega), Array.getElem?_toList] at h1
      rw [Nat.zero_add]
      exact h1
    refine ⟨g, 0, cap, rfl, hv, ?_, ?_, fun j => frozen_of_row _ _ _ _ _ hg, ⟨_, hg⟩⟩
    · rw [cell_of_row _ _ _ _ _ _ hg]; exact hz 0 (by decide)
    · rw [cell_of_row _ _ _ _ _ _ hg]; exact hz 1 (by decide)
theorem FCell.ext {w w' : World} {L : RL} {M : FsM} {i bf off cF : Nat} (h : FCell w L M i bf off cF) (he : Ext w w') : FCell w' L M i bf off cF := by
  obtain ⟨cs, hr⟩ := h.row
  have hr' := (he.block _ (blk_lt hr)).trans hr
  exact ⟨h.z, h.v, ext_cell he h.c0, ext_cell he h.c1, fun j => frozen_of_row _ _ _ _ _ hr', ⟨cs, hr'⟩⟩
/-- a file's last one has turned -/
theorem RefAt.setLast {w w' : World} {L : RL} {M : FsM} {i bf off cF n : Nat} (h : RefAt w L M) (hi : i < M.nf) (hf : FCell w L M i bf off cF) (he : Ext w w') :
    RRes L M.nf w { M with files := updF M.files i ⟨(M.files i).b, n⟩ } (w'.setCell ⟨bf, off + i * 2 + 1, none⟩ (.int .i64 (n : Nat))) := by
  have hx := h.ext he
  obtain ⟨rfl, hv, _, _, _, cs, hr⟩ := hf.ext he
  have hbf : bf ≠ L.rb := obj_ne hr hx.row (by simp)
  have hown := hx.fil
  rw [hv] at hown
  have hset := owns_setC (i := 0 + i * 2 + 1) (v := .int .i64 (n : Nat)) hown
  rw [Nat.zero_add, flat_set (sz := 2) (j := 1) (v := .int .i64 (n : Nat)) (enc := eFl L M) (enc' := eFl { L with vf := L.vf, vb := L.vb } { M with files := updF M.files i ⟨(M.files i).b, n⟩, nf := M.nf }) (fun _ => rfl) (by decide) M.nf i hi (fun x hx => by unfold eFl; simp only; rw [updF_other _ _ hx]) (by unfold eFl; simp only; rw [updF_same]; rfl)] at hset
  have hc : Ch (fun k => k = L.rb ∨ L.vf.ownBlock = some k) w' (w'.setCell ⟨bf, 0 + i * 2 + 1, none⟩ (.int .i64 (n : Nat))) := (Ch.rfl _ w').setC (.inr (by rw [hv]; rfl))
  have R := hx.filesT (v' := L.vf) (vb' := L.vb) (F' := updF M.files i ⟨(M.files i).b, n⟩) (n' := M.nf) hc ((heap_setCell_other _ _ _ _ (Ne.symm hbf)).trans hx.row) (by rw [hv]; rw [Nat.zero_add]; exact hset) (fun j hj => .inl ⟨hj, rfl, by
    by_cases e : j = i
    · rw [e, updF_same]
    · rw [updF_other _ _ e]⟩)
  refine ⟨{ L with vf := L.vf, vb := L.vb }, rfl, R, ?_, fun k hk => .inl hk⟩
  exact ((Ch.of_ext he).tr hc).mono fun k _ hk => hk.elim .inl fun h => .inr (.inl h)
/-- a file's bytes have turned -/
theorem RefAt.setBytes {w w' : World} {L : RL} {M : FsM} {i bf off cF : Nat} {v : Value} {bs : List UInt8} (h : RefAt w L M) (hi : i < M.nf) (hf : FCell w L M i bf off cF) (he : Ext w w') (hb : w'.ownsRow w.heap.size 5 1 v bs.length (Lib.byteCells bs)) :
    RRes L M.nf w { M with files := updF M.files i ⟨bs, (M.files i).last⟩ } (w'.setCell ⟨bf, off + i * 2, none⟩ v) := by
  have hx := h.ext he
  obtain ⟨rfl, hv, _, _, _, cs, hr⟩ := hf.ext he
  have hbf : bf ≠ L.rb := obj_ne hr hx.row (by simp)
  have hown := hx.fil
  rw [hv] at hown
  have hset := owns_setC (i := 0 + i * 2) (v := v) hown
  have hfl := flat_set (sz := 2) (j := 0) (v := v) (enc := eFl L M) (enc' := eFl { L with vf := L.vf, vb := fun j => if j = i then v else L.vb j } { M with files := updF M.files i ⟨bs, (M.files i).last⟩, nf := M.nf }) (fun _ => rfl) (by decide) M.nf i hi (fun x hx => by unfold eFl; simp only; rw [updF_other _ _ hx, if_neg hx]) (by unfold eFl; simp only [if_true]; rw [updF_same]; rfl)
  rw [Nat.add_zero] at hfl
  rw [Nat.zero_add, hfl] at hset
  have hc : Ch (fun k => k = L.rb ∨ L.vf.ownBlock = some k) w' (w'.setCell ⟨bf, 0 + i * 2, none⟩ v) := (Ch.rfl _ w').setC (.inr (by rw [hv]; rfl))
  have hb2 : (w'.setCell ⟨bf, 0 + i * 2, none⟩ v).ownsRow 0 5 1 v bs.length (Lib.byteCells bs) := owns_ch (owns_base hb (Nat.zero_le _)) fun g hg => heap_setCell_other _ _ _ _ fun e => own_neG hb hr (by simp) (by rw [hg, e])
  have R := hx.filesT (v' := L.vf) (vb' := fun j => if j = i then v else L.vb j) (F' := updF M.files i ⟨bs, (M.files i).last⟩) (n' := M.nf) hc ((heap_setCell_other _ _ _ _ (Ne.symm hbf)).trans hx.row) (by rw [hv]; rw [Nat.zero_add]; rw [hv] at hset; exact hset) (fun j hj => by
    by_cases e : j = i
    · right
      rw [e, updF_same]
      simp only [if_true]
      exact hb2
    · left
      exact ⟨hj, if_neg e, by rw [updF_other _ _ e]⟩)
  refine ⟨{ L with vf := L.vf, vb := fun j => if j = i then v else L.vb j }, rfl, R, ?_, fun k hk => ?_⟩
  · exact ((Ch.of_ext he).tr hc).mono fun k _ hk => hk.elim .inl fun h => .inr (.inl h)
  · rcases hk with hk | hk | hk | hk | hk | ⟨j, hj, hk⟩
    · exact .inl (.inl hk)
    · exact .inl (.inr (.inl hk))
    · exact .inl (.inr (.inr (.inl hk)))
    · exact .inl (.inr (.inr (.inr (.inl hk))))
    · exact .inl (.inr (.inr (.inr (.inr (.inl hk)))))
    · by_cases e : j = i
      · simp only [e, if_true] at hk
        exact .inr (owns_lo hb hk)
      · simp only [e, if_false] at hk
        exact .inl (.inr (.inr (.inr (.inr (.inr ⟨j, hj, hk⟩)))))
set_option maxRecDepth 100000 in
set_option maxHeartbeats 4000000 in
theorem rsync_in (L : RL) (M : FsM) (n : ByteArray) (w : World) (h : RefAt w L M) (ok : M.Ok) (ho : M.ops < OpsMax) :
    Calls Try.prog 59 #[ptrV L.rb, .string n] w (RPost L M.nf w (.int .i64 (M.sync n).1) (M.sync n).2) := by
  have AO := hid (ask_ok ok)
  have AS := hid (ask_asked M)
  have hcr : Hid (M.sync n = if M.ask.1 ≠ 0 then M.ask else
    match fndN M.ask.2.names n with
    | none => (42, M.ask.2)
    | some i => (0, { M.ask.2 with files := updF M.ask.2.files i ⟨(M.ask.2.files i).b, (M.ask.2.files i).b.length⟩ })) := hid (by rw [AS.out.files]; rfl)
  go_enter Try.func59, Try.ntmps59
  go_wp2_with fail
  refine (rask_in L M w h ok ho).mono ?_
  rintro e w1 ⟨rfl, ⟨f, g, h1⟩, hc1⟩
  have H1 := hid h1
  have C1 := hid hc1
  clear h1 hc1 h ok ho
  by_cases h0 : M.ask.1 = 0
  · have d0 : (M.ask.1 != 0) = false := by simp [h0]
    have H0 := hid h0
    obtain ⟨k0, k1, -⟩ := rfc H1.out L.rb rfl
    clear h0
    go_wp2_with fail
    refine (rfind_in _ M.ask.2.names n w1 H1.out.nam.sl).mono ?_
    rintro e w2 ⟨rfl, ⟨hn, rfl⟩ | ⟨i, hi, hn, hni, rfl⟩⟩
    · have e1 : M.sync n = (42, M.ask.2) := by rw [hcr.out, if_neg (fun h => h H0.out), hn]
      have EE := hid e1
      clear hcr e1 hn
      go_wp2_with fail
      go_ret
      exact RPost.of EE.out rfl (RRes.same H1.out AS.out.nf C1.out)
    · have e1 : M.sync n = (0, { M.ask.2 with files := updF M.ask.2.files (nth M.ask.2.names i).2 ⟨(M.ask.2.files (nth M.ask.2.names i).2).b, (M.ask.2.files (nth M.ask.2.names i).2).b.length⟩ }) := by rw [hcr.out, if_neg (fun h => h H0.out), hn]
      have EE := hid e1
      have hi0 : ¬ ((i : Int) < 0) := by omega
      have hi1 : i < M.ask.2.names.length := hi
      have hp := (AO.out.on _ (nth_mem _ i hi)).2
      obtain ⟨aN, cN, hvn, hcN, hmN, hcell0⟩ := H1.out.nam.sl.ex
      have hvn' : L.vn = .slice aN M.ask.2.names.length cN := hvn
      obtain ⟨b, off, rfl, hcell⟩ := hcell0 (by omega)
      obtain ⟨q0, q1⟩ := at2 (hcell i hi) rfl
      obtain ⟨bf, ofF, cF, hfc⟩ := H1.out.fcell hp
      have hvf' : L.vf = .slice (some ⟨bf, ofF, none⟩) M.ask.2.nf cF := hfc.v
      obtain ⟨aB, cB, hvb, hmB⟩ := slice_ofG (H1.out.byt _ hp)
      have hvb' : L.vb (nth M.ask.2.names i).2 = .slice aB (M.ask.2.files (nth M.ask.2.names i).2).b.length cB := hvb
      have k1' : w1.cell? ⟨L.rb, 1, none⟩ = some (.slice (some ⟨b, off, none⟩) M.ask.2.names.length cN) := k1.trans (congrArg some hvn')
      have k0' : w1.cell? ⟨L.rb, 0, none⟩ = some (.slice (some ⟨bf, ofF, none⟩) M.ask.2.nf cF) := k0.trans (congrArg some hvf')
      have r0 : w1.cell? ⟨bf, ofF + (nth M.ask.2.names i).2 * 2, none⟩ = some (.slice aB (M.ask.2.files (nth M.ask.2.names i).2).b.length cB) := hfc.c0.trans (congrArg some hvb')
      have r1 := hfc.c1
      have rf := hfc.f
      have HF := hid hfc
      have HP := hid hp
      have NF := hid AS.out.nf
      have hpi : (nth M.ask.2.names i).2 < M.ask.2.nf := hp
      clear hcr e1 k1 hvn hvn' hcell hcell0 k0 hvf' hvb hvb' hfc hp hn hni
      generalize M.ask.2 = M2 at *
      generalize (nth M2.names i).2 = p at *
      go_wp2_with fail
      go_region
      all_goals
        go_wp2_with fail
        go_ret
        exact RPost.of EE.out rfl (RRes.asked (RefAt.setLast (L := { L with fu := f, fa := g }) H1.out HP.out HF.out (Ext.rfl w1).dr) NF.out C1.out)
  · have d0 : (M.ask.1 != 0) = true := by simp [h0]
    have e1 : M.sync n = (M.ask.1, M.ask.2) := by rw [hcr.out, if_pos h0]
    have EE := hid e1
    clear h0 hcr e1
    go_wp2_with fail
    go_ret
    exact RPost.of EE.out rfl (RRes.same H1.out AS.out.nf C1.out)
end Go.Proofs.Ytjekfifnhdoamaa
