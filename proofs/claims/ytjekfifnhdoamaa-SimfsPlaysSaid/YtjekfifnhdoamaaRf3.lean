/- The document's files: what a call leaves; a change laid behind; Create, Rename, Remove, SyncDir, SetFuse, SetFail. -/
import Derived.Test.YtjekfifnhdoamaaRf2
set_option linter.unusedSimpArgs false
set_option linter.unusedVariables false
set_option linter.unnecessarySimpa false
namespace Go.Proofs.Ytjekfifnhdoamaa
open Go.RowKit Go.Rg Go.St

def RRes (L : RL) (n : Nat) (w : World) (M' : FsM) (w' : World) : Prop := ∃ L', L'.rb = L.rb ∧ RefAt w' L' M' ∧ Ch (RFoot L n) w w' ∧ ∀ k, RFoot L' M'.nf k → RFoot L n k ∨ w.heap.size ≤ k
def RPost (L : RL) (n : Nat) (w : World) (r : Value) (M' : FsM) (e : Ending) (w' : World) : Prop := e = .returned r ∧ RRes L n w M' w'
theorem RPost.of {L : RL} {n : Nat} {w w' : World} {X : Int × FsM} {c : Int} {M' : FsM} {e : Ending} (hX : X = (c, M')) (he : e = .returned (.int .i64 c)) (h : RRes L n w M' w') : RPost L n w (.int .i64 X.1) X.2 e w' := by
  subst hX
  exact ⟨he, h⟩
theorem RRes.same {L : RL} {n : Nat} {w w' : World} {M' : FsM} {f g : Int} (h : RefAt w' { L with fu := f, fa := g } M') (hn : M'.nf = n) (hc : Ch (fun k => k = L.rb) w w') : RRes L n w M' w' :=
  ⟨{ L with fu := f, fa := g }, rfl, h, hc.mono fun k _ hk => .inl hk, fun k hk => .inl (by rw [hn] at hk; exact hk)⟩
theorem RRes.after {L L1 : RL} {n n1 : Nat} {w w1 w' : World} {M' : FsM} (h : RRes L1 n1 w1 M' w') (hrb : L1.rb = L.rb) (hc : Ch (RFoot L n) w w1) (hf : ∀ k, RFoot L1 n1 k → RFoot L n k ∨ w.heap.size ≤ k) : RRes L n w M' w' := by
  obtain ⟨L', e1, h1, h2, h3⟩ := h
  refine ⟨L', e1.trans hrb, h1, ?_, fun k hk => ?_⟩
  · refine ⟨h2.os.trans hc.os, h2.tape.trans hc.tape, h2.output.trans hc.output, Nat.le_trans hc.size h2.size, fun k hk hn => ?_⟩
    refine (h2.block k (Nat.lt_of_lt_of_le hk hc.size) fun hF => ?_).trans (hc.block k hk hn)
    rcases hf k hF with h | h
    · exact hn h
    · omega
  · rcases h3 k hk with h | h
    · exact hf k h
    · exact .inr (Nat.le_trans hc.size h)
/-- the names have turned -/
theorem RefAt.names {w w' : World} {L : RL} {M : FsM} {v' : Value} {l : Nm} (h : RefAt w L M) (hc : Ch (· = L.rb) w w') (hr : w'.heap[L.rb]? = some (.cells (rfC { L with vn := v' } { M with names := l }) 113 (0, 0))) (hn : OwnN w' 0 v' l) :
    RefAt w' { L with vn := v' } { M with names := l } := by
  have h1 : ∀ k, RFoot1 L M.nf k → w'.heap[k]? = w.heap[k]? := fun k hk => hc.block k (h.foot_lt (.inr hk)) (h.ne_rb hk)
  exact ⟨hr, owns_ch h.fil (fun g hg => h1 _ (.inl hg)), fun i hi => owns_ch (h.byt i hi) (fun g hg => h1 _ (.inr (.inr (.inr (.inr ⟨i, hi, hg⟩))))), hn, owns_ch h.las (fun g hg => h1 _ (.inr (.inr (.inl hg)))), owns_ch h.sin (fun g hg => h1 _ (.inr (.inr (.inr (.inl hg))))), h.fu, h.fa⟩
theorem ty_ne {w : World} {b c : Nat} {v u : Value} {e e2 : TypeId} {sz sz2 n n2 base base2 : Nat} {xs ys : List Value} (h : w.ownsRow base e sz v n xs) (k : w.ownsRow base2 e2 sz2 u n2 ys) (hne : e ≠ e2) (hv : v.ownBlock = some b) (hu : u.ownBlock = some c) : b ≠ c := by
  intro eq
  subst eq
  obtain ⟨cs, h1⟩ := own_ltG h hv
  obtain ⟨ds, h2⟩ := own_ltG k hu
  rw [h1] at h2
  simp only [Option.some.injEq, Obj.cells.injEq] at h2
  exact hne h2.2.1
/-- the changes have turned -/
theorem RefAt.since {w w' : World} {L : RL} {M : FsM} {v' : Value} {s : List Chg} (h : RefAt w L M) (hc : Ch (fun k => k = L.rb ∨ L.vs.ownBlock = some k) w w') (hr : w'.heap[L.rb]? = some (.cells (rfC { L with vs := v' } { M with since := s }) 113 (0, 0))) (hs : w'.ownsRow 0 127 4 v' s.length (s.flatMap eCg)) :
    RefAt w' { L with vs := v' } { M with since := s } := by
  have h1 : ∀ k, RFoot1 L M.nf k → (L.vs.ownBlock ≠ some k) → w'.heap[k]? = w.heap[k]? := fun k hk hn => hc.block k (h.foot_lt (.inr hk)) (fun e => e.elim (h.ne_rb hk) hn)
  exact ⟨hr, owns_ch h.fil (fun g hg => h1 _ (.inl hg) fun e => ty_ne h.fil h.sin (by decide) hg e rfl), fun i hi => owns_ch (h.byt i hi) (fun g hg => h1 _ (.inr (.inr (.inr (.inr ⟨i, hi, hg⟩)))) fun e => ty_ne (h.byt i hi) h.sin (by decide) hg e rfl),
    owns_ch h.nam (fun g hg => h1 _ (.inr (.inl hg)) fun e => ty_ne h.nam h.sin (by decide) hg e rfl), owns_ch h.las (fun g hg => h1 _ (.inr (.inr (.inl hg))) fun e => ty_ne h.las h.sin (by decide) hg e rfl), hs, h.fu, h.fa⟩
/-- the files have turned, in their row -/
theorem RefAt.filesT {w w' : World} {L : RL} {M : FsM} {v' : Value} {vb' : Nat → Value} {F' : Nat → Fl} {n' : Nat} (h : RefAt w L M) (hc : Ch (fun k => k = L.rb ∨ L.vf.ownBlock = some k) w w') (hr : w'.heap[L.rb]? = some (.cells (rfC { L with vf := v', vb := vb' } { M with files := F', nf := n' }) 113 (0, 0)))
    (hf : w'.ownsRow 0 115 2 v' n' ((List.range n').flatMap (eFl { L with vf := v', vb := vb' } { M with files := F', nf := n' })))
    (hb : ∀ i, i < n' → (i < M.nf ∧ vb' i = L.vb i ∧ (F' i).b = (M.files i).b) ∨ w'.ownsRow 0 5 1 (vb' i) (F' i).b.length (Lib.byteCells (F' i).b)) :
    RefAt w' { L with vf := v', vb := vb' } { M with files := F', nf := n' } := by
  have h1 : ∀ k, RFoot1 L M.nf k → (L.vf.ownBlock ≠ some k) → w'.heap[k]? = w.heap[k]? := fun k hk hn => hc.block k (h.foot_lt (.inr hk)) (fun e => e.elim (h.ne_rb hk) hn)
  refine ⟨hr, hf, fun i hi => ?_, owns_ch h.nam (fun g hg => h1 _ (.inr (.inl hg)) fun e => ty_ne h.nam h.fil (by decide) hg e rfl), owns_ch h.las (fun g hg => h1 _ (.inr (.inr (.inl hg))) fun e => ty_ne h.las h.fil (by decide) hg e rfl),
    owns_ch h.sin (fun g hg => h1 _ (.inr (.inr (.inr (.inl hg)))) fun e => ty_ne h.sin h.fil (by decide) hg e rfl), h.fu, h.fa⟩
  rcases hb i hi with ⟨h2, h3, h4⟩ | h2
  · show World.ownsRow _ 0 _ 1 (vb' i) (F' i).b.length _
    rw [h3, h4]
    exact owns_ch (h.byt i h2) (fun g hg => h1 _ (.inr (.inr (.inr (.inr ⟨i, h2, hg⟩)))) fun e => ty_ne (h.byt i h2) h.fil (by decide) hg e rfl)
  · exact h2
theorem owns_lo {w : World} {base : Nat} {e : TypeId} {sz : Nat} {v : Value} {n : Nat} {xs : List Value} (h : w.ownsRow base e sz v n xs) {k : Nat} (hk : v.ownBlock = some k) : base ≤ k := by
  rcases h.2 with ⟨rfl, _⟩ | ⟨g, cap, cur, rfl, hb, _⟩
  · cases hk
  · cases hk
    exact hb
theorem chg_fin {w w1 wc wx w6 : World} {L : RL} {M : FsM} {c : Chg} {v' v6 : Value} (H : RefAt w L M) (E1 : Ext w w1) (H2 : RefAt wc { L with vn := v' } { M with names := doneC c M.names }) (K2 : Ch (fun k => k = L.rb) w1 wc) (HV2 : ∀ k, v'.ownBlock = some k → w1.heap.size ≤ k) (he : Ext wc wx)
    (HP : AppP wx w6 127 4 L.vs v6 (M.since.length + 1) (M.since.flatMap eCg ++ eCg c)) (HR6 : w6.heap[L.rb]? = some (.cells (rfC { L with vn := v' } { M with names := doneC c M.names }) 113 (0, 0))) :
    RPost L M.nf w (.tuple #[]) (M.doC c) (.returned (.tuple #[])) (w6.setCell ⟨L.rb, 3, none⟩ v6) := by
  have hx := H2.ext he
  have hc : Ch (fun k => k = L.rb ∨ L.vs.ownBlock = some k) wx (w6.setCell ⟨L.rb, 3, none⟩ v6) := (HP.ch.mono fun k _ hk => .inr hk).setC (.inl rfl)
  have hs := heap_setCell_same w6 L.rb 3 _ _ v6 HR6
  have hown : (w6.setCell ⟨L.rb, 3, none⟩ v6).ownsRow 0 127 4 v6 (M.since ++ [c]).length ((M.since ++ [c]).flatMap eCg) := by
    rw [List.length_append, List.flatMap_append]
    have : [c].flatMap eCg = eCg c := by simp
    rw [this]
    exact owns_ch HP.own fun k hk => heap_setCell_other _ _ _ _ fun e => own_neG HP.own HR6 (by simp) (by rw [hk, e])
  have R := RefAt.since (L := { L with vn := v' }) (v' := v6) (s := M.since ++ [c]) hx hc (hs.trans rfl) hown
  refine ⟨rfl, { L with vn := v', vs := v6 }, rfl, R, ?_, fun k hk => ?_⟩
  · have c1 : Ch (fun k => k = L.rb ∨ L.vs.ownBlock = some k) w (w6.setCell ⟨L.rb, 3, none⟩ v6) := ((Ch.of_ext E1).tr (K2.mono fun k _ hk => .inl hk)).tr ((Ch.of_ext he).tr hc)
    exact c1.mono fun k _ hk => hk.elim .inl fun h => .inr (.inr (.inr (.inr (.inl h))))
  · have s1 := E1.size
    have s2 := K2.size
    have s3 := he.size
    rcases hk with hk | hk | hk | hk | hk | hk
    · exact .inl (.inl hk)
    · exact .inl (.inr (.inl hk))
    · have := HV2 k hk
      exact .inr (by omega)
    · exact .inl (.inr (.inr (.inr (.inl hk))))
    · rcases HP.blk k hk with h | h
      · exact .inl (.inr (.inr (.inr (.inr (.inl h)))))
      · exact .inr (by omega)
    · exact .inl (.inr (.inr (.inr (.inr (.inr hk)))))
/-- a block of another kind behind an append -/
theorem app_row {w w1 w6 : World} {E : TypeId} {sz n base b : Nat} {v : Value} {xs : List Value} {o : Obj} (hown : w.ownsRow base E sz v n xs) (hb : w.heap[b]? = some o) (hne : ∀ cs, o ≠ .cells cs E (0, 0)) (he : Ext w w1) (h : Ch (fun k => v.ownBlock = some k) w1 w6) : w6.heap[b]? = w.heap[b]? := by
  have h2 := he.block _ (blk_lt hb)
  exact (h.block _ (blk_lt (h2.trans hb)) fun hk => own_neG hown hb hne hk).trans h2
set_option maxRecDepth 100000 in
set_option maxHeartbeats 4000000 in
theorem rchange_in (L : RL) (M : FsM) (c : Chg) (w : World) (h : RefAt w L M) (hc : CgOk c) (hn : M.names.length ≤ OpsMax) (hs : M.since.length ≤ OpsMax) :
    Calls Try.prog 77 #[ptrV L.rb, aCg c] w (RPost L M.nf w (.tuple #[]) (M.doC c)) := by
  have H := hid h
  have HC := hid hc
  have HN := hid hn
  have HS := hid hs
  obtain ⟨a0, a1, a2, a3, hcg⟩ : ∃ a0 a1 a2 a3, eCg c = [a0, a1, a2, a3] := by
    unfold eCg
    split
    · exact ⟨_, _, _, _, rfl⟩
    · split <;> exact ⟨_, _, _, _, rfl⟩
  have HCG := hid hcg
  have E1 := hid ((Ext.rfl w).al (.cells #[a0, a1, a2, a3] 127))
  have hrow := heap_alloc_new w (.cells #[a0, a1, a2, a3] 127)
  have hlt := hid (h.foot_lt (k := L.rb) (.inl rfl))
  unfold aCg
  rw [hcg]
  clear h hc hn hs hcg
  go_enter Try.func77, Try.ntmps77
  go_wp2_with fail
  obtain ⟨g, hg⟩ : ∃ g, g = w.heap.size := ⟨_, rfl⟩
  rw [← hg] at hrow ⊢
  have HG := hid hg
  clear hg
  have H1 := hid (H.out.ext E1.out)
  generalize w.alloc (.cells #[a0, a1, a2, a3] 127) = w1 at *
  obtain ⟨c0, c1, c2, c3, c4, c5, c6, c7, c8, c9, ff⟩ := rf_cells H1.out.row
  have cells : ∀ (wx : World), wx.heap[g]? = some (.cells #[a0, a1, a2, a3] 127 (0, 0)) → wx.cell? ⟨g, 0, none⟩ = some a0 ∧ wx.cell? ⟨g, 1, none⟩ = some a1 ∧ wx.cell? ⟨g, 2, none⟩ = some a2 ∧ wx.cell? ⟨g, 3, none⟩ = some a3 := fun wx hx => by
    refine ⟨?_, ?_, ?_, ?_⟩
    all_goals
      rw [cell_of_row _ _ _ _ _ _ hx]
      rfl
  obtain ⟨d0, d1, d2, d3⟩ := cells _ hrow
  have HROW := hid hrow
  have CELLS := hid cells
  have HSL := hid H1.out.nam.sl
  have HCH := hid (show ∀ w', Ext w1 w' → Calls Try.prog 79 #[L.vn, .agg #[a0, a1, a2, a3]] w' (NamesExt (doneC c M.names) w') from fun w' he => by
    have h := rchanged_in L.vn M.names c w' (HSL.out.go eNm_length he) HC.out (by have := HN.out; unfold OpsMax at this; omega)
    unfold aCg at h
    rw [HCG.out] at h
    exact h)
  clear hrow cells c0 c2 c3 c4 c5 c6 c7 c8 c9
  go_cut [] from 4 to 12 (fun wx => ∃ v', RefAt wx { L with vn := v' } { M with names := doneC c M.names } ∧ Ch (fun k => k = L.rb) w1 wx ∧ ∀ k, v'.ownBlock = some k → w1.heap.size ≤ k)
  case first =>
    go_region_with (go_at_call 79; refine (HCH.out _ (Ext.rfl w1).dr).mono ?_; rintro e w2 ⟨v', rfl, n2, ch2⟩; obtain ⟨aX, cX, rfl, _⟩ := slice_ofG n2; have N2 := hid n2; have C2 := hid ch2; have z1 := (rf_cells (H1.out.ext ((Ext.rfl w1).dr.tr ch2)).row).2.1; have zf := (rf_cells (H1.out.ext ((Ext.rfl w1).dr.tr ch2)).row).2.2.2.2.2.2.2.2.2.2; clear n2 ch2)
    all_goals
      go_wp2_with fail
      go_meet
      case rel =>
        have E2 := (Ext.rfl w1).dr.tr C2.out
        have H2 := H1.out.ext E2
        have hs := heap_setCell_same w2 L.rb 1 _ _ (.slice aX (doneC c M.names).length cX) H2.row
        have hc := (Ch.of_ext (F := fun k => k = L.rb) E2).setC (b := L.rb) (o := 1) (v := .slice aX (doneC c M.names).length cX) rfl
        refine ⟨_, H1.out.names hc (hs.trans rfl) (owns_ch (owns_base N2.out (Nat.zero_le _)) fun k hk => heap_setCell_other _ _ _ _ fun e => ?_), hc, fun k hk => owns_lo N2.out hk⟩
        exact own_neG N2.out H2.row (by simp) (by rw [hk, e])
  case rest =>
    obtain ⟨v', h2, k2, hv2⟩ := hcut
    have hgn : g ≠ L.rb := by have := HG.out; have := hlt.out; omega
    have hrc := h2.row
    obtain ⟨-, -, -, e3, -, -, -, -, -, -, ff2⟩ := rf_cells hrc
    have e3' : wc.cell? ⟨L.rb, 3, none⟩ = some L.vs := e3
    have ff2' : ∀ i, wc.frozen? ⟨L.rb, i, none⟩ = false := ff2
    obtain ⟨b0, b1, b2, b3⟩ := CELLS.out _ ((k2.block _ (blk_lt HROW.out) hgn).trans HROW.out)
    have hown : wc.ownsRow 0 127 4 L.vs M.since.length (M.since.flatMap eCg) := h2.sin
    obtain ⟨aS, capS, hsv, hsm⟩ := slice_ofG hown
    have HSV := hid hsv
    rw [hsv] at e3' hown
    have HO := hid hown
    have H2 := hid h2
    have K2 := hid k2
    have HV2 := hid hv2
    have HLT := hid (blk_lt hrc)
    have hq0 : L.rb < wc.heap.size := HLT.out
    have hq1 : wc.heap.size ≠ L.rb := Nat.ne_of_gt HLT.out
    have hq2 : g < wc.heap.size := cell_lt b0
    have hq3 : wc.heap.size ≠ g := Nat.ne_of_gt hq2
    have HRC := hid (show wc.heap[L.rb]? = some (.cells (rfC { L with vn := v' } { M with names := doneC c M.names }) 113 (0, 0)) from hrc)
    have RF := hid (show ∀ wx : World, wx.heap[L.rb]? = some (.cells (rfC { L with vn := v' } { M with names := doneC c M.names }) 113 (0, 0)) → wx.cell? ⟨L.rb, 3, none⟩ = some L.vs ∧ ∀ i, wx.frozen? ⟨L.rb, i, none⟩ = false from fun wx hx => by
      obtain ⟨-, -, -, z3, -, -, -, -, -, -, zf⟩ := rf_cells (L := { L with vn := v' }) (M := { M with names := doneC c M.names }) hx
      exact ⟨z3, zf⟩)
    clear h2 k2 hv2 hown hrc hsv e3 ff2 d0 d1 d2 d3 c1 ff hgn
    go_wp2_with fail
    go_region_law (first | (refine step_appG rfl (.tmp 17) (.tmp 19) 111 rfl el_cg (by simp [Act.eval, Act.put]) (owns_ext HO.out (show Ext wc (wc.drew.alloc _) from (Ext.rfl wc).dr.al _)) (ad := ⟨wc.heap.size, 0, none⟩) (m := 1) (c := 1) (news := [a0, a1, a2, a3]) (by simp [Act.eval, Act.put]) rfl (news_atG wc.drew #[a0, a1, a2, a3] 127) (by rw [← HCG.out]; exact eCg_one c) (by have := HS.out; unfold OpsMax at this; omega) ?_; intro v' w6 hp; obtain ⟨a6, cap6, rfl, _⟩ := slice_ofG hp.own; have HP := hid hp; have HR6 := hid ((app_row HO.out HRC.out (by simp) (Ext.rfl wc).dr.al _ hp.ch).trans HRC.out); obtain ⟨z3, zf⟩ := RF.out w6 HR6.out; clear hp) | (refine step_appG rfl (.tmp 17) (.tmp 19) 111 rfl el_cg (by simp [Act.eval, Act.put]) (owns_ext HO.out (show Ext wc ((wc.alloc _).drew) from ((Ext.rfl wc).al _).dr)) (ad := ⟨wc.heap.size, 0, none⟩) (m := 1) (c := 1) (news := [a0, a1, a2, a3]) (by simp [Act.eval, Act.put]) rfl (news_atG wc #[a0, a1, a2, a3] 127) (by rw [← HCG.out]; exact eCg_one c) (by have := HS.out; unfold OpsMax at this; omega) ?_; intro v' w6 hp; obtain ⟨a6, cap6, rfl, _⟩ := slice_ofG hp.own; have HP := hid hp; have HR6 := hid ((app_row HO.out HRC.out (by simp) ((Ext.rfl wc).al _).dr hp.ch).trans HRC.out); obtain ⟨z3, zf⟩ := RF.out w6 HR6.out; clear hp))
    all_goals
      go_wp2_with fail
      go_end0
      rw [← HCG.out] at HP
      rw [← HSV.out] at HP
      first
        | exact chg_fin H.out E1.out H2.out K2.out HV2.out ((Ext.rfl wc).dr.al _) HP.out HR6.out
        | exact chg_fin H.out E1.out H2.out K2.out HV2.out ((Ext.rfl wc).al _).dr HP.out HR6.out
end Go.Proofs.Ytjekfifnhdoamaa
