/- Files that a crash cuts: a change of names done and kept; Create, Rename, Remove. -/
import Derived.Test.YtjekfifnhdoamaaSf2
import Derived.Test.YtjekfifnhdoamaaAp
import Derived.Deep.CutRange
import Derived.OwnWalk
set_option linter.unusedSimpArgs false
set_option linter.unusedVariables false
set_option linter.unnecessarySimpa false
namespace Go.Proofs.Ytjekfifnhdoamaa
open Go.RowKit Go.Rg Go.St

theorem alloc_sizeG (w : World) (o : Obj) : (w.drew.alloc o).heap.size = w.heap.size + 1 := by show (w.heap.push o).size = _; simp
theorem obj_ne {w : World} {a b : Nat} {x y : Obj} (ha : w.heap[a]? = some x) (hb : w.heap[b]? = some y) (h : x ≠ y) : a ≠ b := fun e => by
  subst e
  rw [ha] at hb
  exact h (Option.some.inj hb)
def Rest (L : FL) (k : Nat) : Prop := k = L.lb ∨ ∃ i, L.R i ∧ (k = L.φ i ∨ (L.bv i).ownBlock = some k)
theorem FsAt.rest {w : World} {L : FL} {M : FsM} (h : FsAt w L M) {k : Nat} (hk : Rest L k) : k ≠ L.fb ∧ k ≠ L.nb ∧ L.sv.ownBlock ≠ some k := by
  have hk1 : FsFoot1 L k := by
    rcases hk with rfl | ⟨i, hi, hk⟩
    · exact .inr (.inl rfl)
    · exact .inr (.inr (.inr ⟨i, hi, hk⟩))
  refine ⟨h.ne_fb hk1, ?_, ?_⟩
  · obtain ⟨es, c, hm⟩ := h.now.map
    rcases hk with rfl | ⟨i, hi, rfl | hk⟩
    · exact Ne.symm h.nl
    · exact obj_ne (h.fil i hi).1 hm (by simp)
    · obtain ⟨cs, hc⟩ := own_ltG (h.fil i hi).2 hk
      exact obj_ne hc hm (by simp)
  · intro hs
    obtain ⟨cs, hc⟩ := own_ltG h.sin hs
    rcases hk with rfl | ⟨i, hi, rfl | hk⟩
    · obtain ⟨es, c, hm⟩ := h.las.map
      exact obj_ne hc hm (by simp) rfl
    · have := (h.fil i hi).1
      rw [hc] at this
      simp at this
    · obtain ⟨cs2, hc2⟩ := own_ltG (h.fil i hi).2 hk
      rw [hc] at hc2
      simp at hc2
theorem FsAt.do {w w' : World} {L : FL} {M : FsM} {c : Chg} {sv' : Value} (h : FsAt w L M) (hx : c.to_.size ≠ 0 → L.R c.x)
    (row : w'.heap[L.fb]? = some (.cells (fsC { L with sv := sv' } (M.doC c)) 92 (0, 0))) (now : NamesAt w' L.nb L.φ (doneC c M.names))
    (own : w'.ownsRow 0 99 3 sv' (M.since.length + 1) (M.since.flatMap (eChg L.φ) ++ eChg L.φ c))
    (ch : Ch (fun k => k = L.fb ∨ k = L.nb ∨ L.sv.ownBlock = some k) w w') : FsAt w' { L with sv := sv' } (M.doC c) := by
  have hb : ∀ k, Rest L k → w'.heap[k]? = w.heap[k]? := fun k hk => by
    obtain ⟨h1, h2, h3⟩ := h.rest hk
    refine ch.block k (h.foot_lt ?_) (by rintro (e | e | e); exact h1 e; exact h2 e; exact h3 e)
    rcases hk with rfl | ⟨i, hi, hk⟩
    · exact .inr (.inr (.inl rfl))
    · exact .inr (.inr (.inr (.inr ⟨i, hi, hk⟩)))
  refine ⟨row, now, h.las.go (hb _ (.inl rfl)), ?_, fun i hi => ?_, h.lt, fun i hi => ⟨(hb _ (.inr ⟨i, hi, .inl rfl⟩)).trans (h.fil i hi).1, owns_ch (h.fil i hi).2 (fun g hg => hb _ (.inr ⟨i, hi, .inr hg⟩))⟩, h.nl, h.inj, h.ap⟩
  · show w'.ownsRow 0 _ 3 sv' (M.since ++ [c]).length ((M.since ++ [c]).flatMap (eChg L.φ))
    rw [List.length_append, List.flatMap_append]
    simpa using own
  · rcases hi with ⟨p, hp, rfl⟩ | ⟨p, hp, rfl⟩ | ⟨d, hd, hd2, rfl⟩
    · rcases mem_doneC hp with h1 | ⟨h1, rfl⟩
      · exact h.ref _ (.inl ⟨p, h1, rfl⟩)
      · exact hx h1
    · exact h.ref _ (.inr (.inl ⟨p, hp, rfl⟩))
    · rcases List.mem_append.1 hd with h1 | h1
      · exact h.ref _ (.inr (.inr ⟨d, h1, hd2, rfl⟩))
      · rw [List.mem_singleton.1 h1] at hd2 ⊢
        exact hx hd2
theorem chgE : ElT Try.prog 90 99 3 40 := ⟨by kernel_rfl, by kernel_rfl, by decide, by decide⟩
theorem xChg_one (φ : Nat → Nat) (c : Chg) : (xChg φ c).oneCell' = true := by
  unfold xChg
  split <;> rfl
theorem eChg_one (φ : Nat → Nat) (c : Chg) : ∀ u ∈ eChg φ c, u.oneCell' = true := by
  intro u hu
  unfold eChg at hu
  simp at hu
  rcases hu with rfl | rfl | rfl
  · rfl
  · rfl
  · exact xChg_one φ c
def FsDoP (L : FL) (M : FsM) (c : Chg) (w : World) (e : Ending) (w' : World) : Prop :=
  e = .returned (.tuple #[]) ∧ ∃ sv', FsAt w' { L with sv := sv' } (M.doC c) ∧ Ch (fun k => k = L.fb ∨ k = L.nb ∨ L.sv.ownBlock = some k) w w' ∧ ∀ k, sv'.ownBlock = some k → L.sv.ownBlock = some k ∨ w.heap.size ≤ k
theorem do_blk {w w6 : World} {L : FL} {M : FsM} {v : Value} {n : Nat} {xs : List Value} {o : Obj} (hown : w.ownsRow 0 99 3 v n xs) (hrow : w.heap[L.fb]? = some (.cells (fsC L M) 92 (0, 0))) (h : Ch (fun k => v.ownBlock = some k) (w.drew.alloc o) w6) : w6.heap[L.fb]? = w.heap[L.fb]? := by
  have h1 := blk_lt hrow
  have h2 : (w.drew.alloc o).heap[L.fb]? = w.heap[L.fb]? := ((Ext.rfl w).dr.al o).block _ h1
  refine (h.block _ (blk_lt (h2.trans hrow)) fun hk => ?_).trans h2
  obtain ⟨cs, hc⟩ := own_ltG hown hk
  rw [hrow] at hc
  simp at hc
theorem own_neG {w : World} {base : Nat} {e : TypeId} {sz : Nat} {v : Value} {n : Nat} {xs : List Value} (h : w.ownsRow base e sz v n xs) {b : Nat} {o : Obj} (hb : w.heap[b]? = some o) (hne : ∀ cs, o ≠ .cells cs e (0, 0)) : v.ownBlock ≠ some b := fun hk => by
  obtain ⟨cs, hc⟩ := own_ltG h hk
  rw [hb] at hc
  exact hne cs (Option.some.inj hc)
theorem do_fin {w w1 wc w6 : World} {L : FL} {M : FsM} {c : Chg} {aS a6 : Option Addr} {capS cap6 : Nat} {o : Obj} (H : FsAt w L M) (hx : c.to_.size ≠ 0 → L.R c.x) (E1 : Ch (fun k => k = L.fb ∨ k = L.nb ∨ L.sv.ownBlock = some k) w w1)
    (N2 : NamesAt wc L.nb L.φ (doneC c M.names)) (K2 : Ch (fun k => k = L.nb) w1 wc) (HSV : L.sv = .slice aS M.since.length capS) (HO : wc.ownsRow 0 99 3 (.slice aS M.since.length capS) M.since.length (M.since.flatMap (eChg L.φ)))
    (HR6 : w6.heap[L.fb]? = some (.cells (fsC L M) 92 (0, 0))) (HP : AppP (wc.drew.alloc o) w6 99 3 (.slice aS M.since.length capS) (.slice a6 (M.since.length + 1) cap6) (M.since.length + 1) (M.since.flatMap (eChg L.φ) ++ eChg L.φ c)) :
    FsDoP L M c w (.returned (.tuple #[])) (w6.setCell ⟨L.fb, 2, none⟩ (.slice a6 (M.since.length + 1) cap6)) := by
  have hch : Ch (fun k => k = L.fb ∨ k = L.nb ∨ L.sv.ownBlock = some k) w (w6.setCell ⟨L.fb, 2, none⟩ (.slice a6 (M.since.length + 1) cap6)) := by
    refine ((((E1.tr (K2.mono fun k _ hk => .inr (.inl hk))).tr (Ch.of_ext ((Ext.rfl wc).dr.al o)))).tr (HP.ch.mono fun k _ hk => .inr (.inr (by rw [HSV]; exact hk)))).setC (.inl rfl)
  refine ⟨rfl, .slice a6 (M.since.length + 1) cap6, H.do hx ((heap_setCell_same _ _ _ _ _ _ HR6).trans rfl) ?_ ?_ hch, hch, fun k hk => ?_⟩
  · obtain ⟨es, cl, hm⟩ := N2.map
    have h1 : (wc.drew.alloc o).heap[L.nb]? = wc.heap[L.nb]? := ((Ext.rfl wc).dr.al o).block _ (blk_lt hm)
    have h2 : w6.heap[L.nb]? = wc.heap[L.nb]? := (HP.ch.block _ (blk_lt (h1.trans hm)) (own_neG HO hm (by simp))).trans h1
    refine N2.go ((heap_setCell_other _ _ _ _ ?_).trans h2)
    exact obj_ne (h2.trans hm) HR6 (by simp)
  · refine owns_ch HP.own fun g hg => heap_setCell_other _ _ _ _ ?_
    obtain ⟨cs, hc⟩ := own_ltG HP.own hg
    exact obj_ne hc HR6 (by simp)
  · rcases HP.blk k hk with h | h
    · exact .inl (by rw [HSV]; exact h)
    · right
      have h1 := K2.size
      have h2 := E1.size
      have h3 : (wc.drew.alloc o).heap.size = wc.heap.size + 1 := alloc_sizeG _ _
      omega
set_option maxRecDepth 100000 in
set_option maxHeartbeats 4000000 in
theorem fsDo_in (L : FL) (M : FsM) (c : Chg) (w : World) (h : FsAt w L M) (hr : Rising M.names) (hx : c.to_.size ≠ 0 → L.R c.x) (hn : M.since.length ≤ OpsMax) :
    Calls Try.prog 49 #[ptrV L.fb, .agg #[.string c.frm, .string c.to_, xChg L.φ c]] w (FsDoP L M c w) := by
  have H := hid h
  have HR := hid hr
  have HX := hid hx
  have HN := hid hn
  have E1 := hid ((Ext.rfl w).al (.cells #[.string c.frm, .string c.to_, xChg L.φ c] 99))
  have hrow := heap_alloc_new w (.cells #[.string c.frm, .string c.to_, xChg L.φ c] 99)
  have hlt := hid (h.foot_lt (k := L.fb) (.inl rfl))
  have hlt2 := hid (h.foot_lt (k := L.nb) (.inr (.inl rfl)))
  clear h hr hx hn
  go_enter Try.func49, Try.ntmps49
  go_wp2_with fail
  obtain ⟨g, hg⟩ : ∃ g, g = w.heap.size := ⟨_, rfl⟩
  rw [← hg] at hrow ⊢
  have HG := hid hg
  clear hg
  have H1 := hid (H.out.ext E1.out)
  generalize w.alloc (.cells #[.string c.frm, .string c.to_, xChg L.φ c] 99) = w1 at *
  obtain ⟨c0, c1, c2, c3, c4, c5, c6, ff⟩ := fs_cells H1.out.row
  have cells : ∀ (wx : World), wx.heap[g]? = some (.cells #[.string c.frm, .string c.to_, xChg L.φ c] 99 (0, 0)) → wx.cell? ⟨g, 0, none⟩ = some (.string c.frm) ∧ wx.cell? ⟨g, 1, none⟩ = some (.string c.to_) ∧ wx.cell? ⟨g, 2, none⟩ = some (xChg L.φ c) := fun wx hx => by
    refine ⟨?_, ?_, ?_⟩
    all_goals
      rw [cell_of_row _ _ _ _ _ _ hx]
      rfl
  obtain ⟨d0, d1, d2⟩ := cells _ hrow
  have HROW := hid hrow
  have CELLS := hid cells
  clear hrow cells c1 c2 c3 c4 c5 c6 ff
  go_cut [] from 4 to 9 (fun wx => NamesAt wx L.nb L.φ (doneC c M.names) ∧ Ch (fun k => k = L.nb) w1 wx)
  case first =>
    go_region_with (go_at_call 53; refine (fsDone_in L.φ c M.names L.nb w1.drew (H1.out.now.go rfl) HR.out).mono ?_; rintro e w2 ⟨rfl, n2, ch2⟩; have N2 := hid n2; have C2 := hid ch2; clear n2 ch2)
    all_goals
      go_wp2_with fail
      go_meet
      case rel => exact ⟨N2.out, ((Ch.rfl _ w1).dr).tr C2.out⟩
  case rest =>
    obtain ⟨n2, k2⟩ := hcut
    have hfb : L.fb ≠ L.nb := fun e => H1.out.ne_fb (.inl rfl) e.symm
    have hgn : g ≠ L.nb := by have := HG.out; have := hlt2.out; omega
    have hrc := (k2.block _ (blk_lt H1.out.row) hfb).trans H1.out.row
    obtain ⟨e0, e1, e2, e3, e4, e5, e6, ff⟩ := fs_cells hrc
    obtain ⟨b0, b1, b2⟩ := CELLS.out _ ((k2.block _ (blk_lt HROW.out) hgn).trans HROW.out)
    have hsx : ∀ k, L.sv.ownBlock = some k → wc.heap[k]? = w1.heap[k]? := fun k hk => k2.block k (H1.out.foot_lt (.inr (.inr (.inr (.inl hk))))) (fun e => by
      obtain ⟨es, cl, hm⟩ := H1.out.now.map
      obtain ⟨cs, hc⟩ := own_ltG H1.out.sin hk
      rw [e, hm] at hc
      cases hc)
    have hown := owns_ch H1.out.sin hsx
    obtain ⟨aS, capS, hsv, hsm⟩ := slice_ofG hown
    have HSV := hid hsv
    rw [hsv] at e2 hown
    have HO := hid hown
    have HRC := hid hrc
    have N2 := hid n2
    have K2 := hid k2
    have HLT := hid (blk_lt hrc)
    have hq0 : L.fb < wc.heap.size := HLT.out
    have hq1 : wc.heap.size ≠ L.fb := Nat.ne_of_gt HLT.out
    have hq2 : g < wc.heap.size := cell_lt b0
    have hq3 : wc.heap.size ≠ g := Nat.ne_of_gt hq2
    clear n2 k2 hown hrc hsv hsx c0 d0 d1 d2 e0 e1 e3 e4 e5 e6 hfb hgn
    go_wp2_with fail
    go_region_law (refine step_appG rfl (.tmp 14) (.tmp 16) 90 rfl chgE (by simp [Act.eval, Act.put]) (owns_ext HO.out (show Ext wc (wc.drew.alloc _) from (Ext.rfl wc).dr.al _)) (ad := ⟨wc.heap.size, 0, none⟩) (m := 1) (c := 1) (news := eChg L.φ c) (by simp [Act.eval, Act.put]) rfl (news_atG wc.drew #[.string c.frm, .string c.to_, xChg L.φ c] 99) (eChg_one L.φ c) (by have := HN.out; unfold OpsMax at this; omega) ?_; intro v' w6 hp; obtain ⟨a6, cap6, rfl, _⟩ := slice_ofG hp.own; have HP := hid hp; have HR6 := hid ((do_blk HO.out HRC.out hp.ch).trans HRC.out); have z2 := (fs_cells HR6.out).2.2.1; have zf := (fs_cells HR6.out).2.2.2.2.2.2.2; clear hp)
    all_goals
      go_wp2_with fail
      go_end0
      exact do_fin H.out HX.out (Ch.of_ext E1.out) N2.out K2.out HSV.out HO.out HR6.out HP.out
end Go.Proofs.Ytjekfifnhdoamaa
