/- Snapshots: List of any that are held. -/
import Derived.Test.YtjekfifnhdoamaaSo12
set_option linter.unusedSimpArgs false
set_option linter.unusedVariables false
set_option linter.unnecessarySimpa false
namespace Go.Proofs.Ytjekfifnhdoamaa
open Go.RowKit Go.Rg Go.St

/-- a row of numbers of the call's own: none, or a block -/
theorem row_of {base n : Nat} {s : Value} {vs : List Int} {w : World} (h : w.ownsRow base 30 1 s n (vs.map (Value.int .u64))) (hn : n = vs.length) :
    (s = .slice none 0 0 ∧ vs = []) ∨ ∃ b cap, s = .slice (some ⟨b, 0, none⟩) n cap ∧ RowU b cap n (fun k => (vs[k]?).getD 0) w ∧ cap ≤ maxLen ∧ base ≤ b := by
  rcases h.2 with ⟨h0, h1⟩ | ⟨g, cap, cur, rfl, hb, hg, hnc, hm, hcs, htk⟩
  · have hv : vs = [] := by
      have := h.1
      cases vs with
      | nil => rfl
      | cons a t => simp_all
    exact .inl ⟨h0, hv⟩
  · refine .inr ⟨g, cap, rfl, ⟨cur, hg, by omega, hnc, fun i hi => ?_⟩, hm, hb⟩
    have h2 : (cur.toList.take (n * 1))[i]? = some (.int .u64 ((vs[i]?).getD 0)) := by
      rw [htk, List.getElem?_map, List.getElem?_eq_getElem (by omega : i < vs.length)]; rfl
    rw [List.getElem?_take, if_pos (by omega)] at h2
    simpa using h2
def cellsU (m : Nat) (g : Nat → Int) : List Value := (List.range m).map (fun k => .int .u64 (g k))
theorem RowU.src {b cap m : Nat} {g : Nat → Int} {w : World} (h : RowU b cap m g w) : ∀ j v, (cellsU m g)[j]? = some v → w.cell? ((⟨b, 0, none⟩ : Addr).add j) = some v := by
  intro j v hj
  unfold cellsU at hj
  rw [List.getElem?_map] at hj
  rcases Nat.lt_or_ge j m with c | c
  · rw [List.getElem?_range c] at hj
    simp at hj
    subst hj
    have := h.cell c
    simp only [Addr.add]
    split
    · rename_i h0; subst h0; exact this
    · simpa using this
  · rw [List.getElem?_eq_none (by simpa using c)] at hj
    cases hj
/-- what List hands back: the numbers that are held, rising, each once, in a block of its own -/
def ListP (L : Hd) (w : World) (e : Ending) (w' : World) : Prop :=
  ∃ (g m : Nat) (f : Nat → Int), e = .returned (.slice (some ⟨g, 0, none⟩) m m) ∧ m ≤ L.length ∧ RowU g m m f w' ∧ w.heap.size ≤ g ∧ Rise f m ∧ (∀ v, (∃ k, k < m ∧ f k = v) ↔ ∃ p, p ∈ L ∧ p.2.1 = v) ∧ Ext w w'
set_option maxRecDepth 100000 in
set_option maxHeartbeats 4000000 in
theorem list_in (B sb mb : Nat) (L : Hd) (clock : Nat) (taken : Int) (w : World) (h : SnAt B sb mb L clock taken w) (hl : L.length ≤ 100) :
    Calls Try.prog 21 #[.pointer (some ⟨sb, 0, none⟩)] w (ListP L w) := by
  have H := hid h
  have hrg := run_range_map (P := Try.prog) w 80 3 30 mb _ clock mI_map h.map
  obtain ⟨c0, c1⟩ := h.cells
  obtain ⟨ui, hui, huz, hus, hub⟩ : ∃ i, Try.prog.info? 30 = some i ∧ i.zero = some (.int .u64 0) ∧ i.size = 1 ∧ i.bytes = 8 := by
    have h1 : (Try.prog.info? 30).map (fun i => (i.zero, i.size, i.bytes)) = some (some (.int .u64 0), 1, 8) := by kernel_rfl
    cases hq : Try.prog.info? 30 with
    | none => rw [hq] at h1; cases h1
    | some i =>
      rw [hq] at h1
      simp at h1
      exact ⟨i, rfl, h1⟩
  have HUI := hid hui
  have HUZ := hid huz
  have HUS := hid hus
  have HUB := hid hub
  have HLL := hid hl
  clear h hui huz hus hub hl
  go_enter Try.func21, Try.ntmps21
  go_wp2_with fail
  have IT0 := hid (heap_alloc_new w (.mapIter (some mb) clock #[] clock))
  have B0 := hid (show Below w.heap.size w (w.alloc (.mapIter (some mb) clock #[] clock)) from (Ext.rfl w).al _)
  have HR := hid (show sb < w.heap.size ∧ mb < w.heap.size from ⟨lt_of_at H.out.row, lt_of_at H.out.map⟩)
  have HBX := hid (show ∀ w', Below w.heap.size w w' → Ext w w' from fun _ h => h)
  clear hrg c0 c1
  generalize w.alloc (.mapIter (some mb) clock #[] clock) = w0 at *
  have HBR := hid (show ∀ w', Below w.heap.size w w' → w.heap.size ≤ w'.heap.size from fun w' h => h.size)
  have HSZ := hid (show ∀ w', Below w.heap.size w w' → w.heap.size ≤ w'.heap.size from fun w' h => h.size)
  generalize hrs : w.heap.size = r at *
  have HRS := hid hrs
  clear hrs
  go_loopw [3] (fun s wr => ∃ (seen : Array Nat) (vs : List Int), Gath r sb mb L clock w seen vs s wr) (fun _ wr => (leftOf (eM L) (wr.iterSeen r)).size)
  case atStart => exact ⟨#[], [], IT0.out, World.ownsRow_nil _ _ _ _, by rw [told_none], B0.out⟩
  case round =>
    obtain ⟨seen, vs, hg⟩ := hrel
    have HG := hid hg
    clear hg
    have HS := hid (show SnAt B sb mb L clock taken wr from H.out.kept (HG.out.bel.block _ HR.out.1) (HG.out.bel.block _ HR.out.2))
    have hold : ∀ e, e ∈ (eM L).toList → e.born < clock := fun e he => by
      obtain ⟨p, hp, rfl⟩ := eM_mem he
      exact H.out.born p hp
    have law := fun ty => run_nextAt (P := Try.prog) wr ty r mb clock clock seen (eM L) clock HG.out.it HS.out.map hold (Nat.le_refl _)
    have HOLD := hid hold
    clear hold
    have hty : ∀ ty ty', (Instr.next (.pointer (some ⟨r, 0, none⟩)) false ty).run Try.prog wr = (Instr.next (.pointer (some ⟨r, 0, none⟩)) false ty').run Try.prog wr := fun ty ty' => rfl
    have HTY := hid hty
    clear hty
    rcases law 0 with ⟨h0, hrun⟩ | ⟨e, he, w1, hw1, hrun⟩
    · have hnx : ∀ ty, (Instr.next (.pointer (some ⟨r, 0, none⟩)) false ty).run Try.prog wr = .ok (.tuple #[.bool false]) wr := fun ty => (HTY.out ty 0).trans hrun
      have hperm : vs.Perm (L.map (·.2.1)) := by
        have h1 := HG.out.perm
        rw [told_all L seen (fun p hp => all_seen (eM L) seen h0 _ (eM_of hp))] at h1
        exact h1
      have HMEM := hid (show ∀ v, v ∈ vs ↔ ∃ p, p ∈ L ∧ p.2.1 = v from fun v => by rw [hperm.mem_iff, List.mem_map])
      have HVL := hid (show vs.length ≤ L.length by rw [hperm.length_eq, List.length_map]; exact Nat.le_refl _)
      have HO := hid HG.out.own
      have HBW := hid HG.out.bel
      clear law hrun h0 HG hperm
      have HROW := row_of HO.out rfl
      rcases HROW with ⟨rfl, rfl⟩ | ⟨g, cap, rfl, hrow, hcm, hrg⟩
      · clear HO
        have hlen0 : (([] : List Int).length) = 0 := rfl
        go_wp2_with fail
        refine (sort_nil _).mono ?_
        rintro e w2 ⟨rfl, h2⟩
        have B2 := hid (show Below r w w2 from Below.trans HBW.out (Below.mono h2 (HBR.out _ HBW.out)))
        clear h2
        go_wp2_with fail
        refine (compact_nil _).mono ?_
        rintro e w3 ⟨rfl, rfl⟩
        go_wp2_with (first | (at_make; refine wpList_make_full _ rfl _ _ 39 rfl r 30 ui (.int .u64 0) 1 u64E.und HUI.out HUZ.out HUS.out _ _ _ _ 0 rfl rfl rfl rfl (by rw [HUB.out]; decide) (by decide) (HBR.out _ B2.out) ?_; intro w4 hown4 hg4; obtain ⟨cur4, hc4, hs4, _⟩ := owns_at hown4; have M4 := hid (show Ext w2 w4 from ⟨hg4.os, hg4.tape, hg4.output, hg4.size, fun k hk => hg4.block k hk (fun e => by cases e)⟩); have C4 := hid hc4; have S4 := hid hs4; clear hown4 hg4 hc4 hs4; have hcpn := fun (ty : TypeId) => run_copy_nil (P := Try.prog) w4 39 39 ty 30 ⟨w2.heap.size, 0, none⟩ 0 0 u64E.und (by kernel_rfl)))
        go_ret
        exact ⟨w2.heap.size, 0, fun _ => 0, rfl, Nat.zero_le _, ⟨cur4, C4.out, by have := S4.out; simpa using this, Nat.le_refl _, fun i hi => absurd hi (Nat.not_lt_zero _)⟩, (by rw [HRS.out]; exact HSZ.out _ B2.out), fun i j _ h => absurd h (Nat.not_lt_zero _), fun v => ⟨fun ⟨k, hk, _⟩ => absurd hk (Nat.not_lt_zero _), fun h => by have := (HMEM.out v).2 h; cases this⟩, HBX.out _ (Below.trans B2.out (Below.mono M4.out (HBR.out _ B2.out)))⟩
      · have HR1 := hid hrow
        have HRG := hid hrg
        have hn61 : vs.length ≤ 2305843009213693952 := by have := HVL.out; have := HLL.out; omega
        have HN := hid hn61
        clear hrow hcm hrg HO hn61
        obtain ⟨n, hn⟩ : ∃ n, n = vs.length := ⟨_, rfl⟩
        obtain ⟨f0, hf0⟩ : ∃ f0 : Nat → Int, f0 = fun k => (vs[k]?).getD 0 := ⟨_, rfl⟩
        rw [← hn] at HN HVL ⊢
        rw [← hn, ← hf0] at HR1
        have HF := hid (show ∀ v, (∃ k, k < n ∧ f0 k = v) ↔ ∃ p, p ∈ L ∧ p.2.1 = v from fun v => by
          rw [← HMEM.out v, hf0]
          constructor
          · rintro ⟨k, hk, rfl⟩
            simp only
            rw [List.getElem?_eq_getElem (by omega : k < vs.length)]
            exact List.getElem_mem _
          · intro hv
            obtain ⟨k, hk, rfl⟩ := List.getElem_of_mem hv
            exact ⟨k, by omega, by simp only; rw [List.getElem?_eq_getElem hk]; rfl⟩)
        clear hn hf0 HMEM
        go_wp2_with fail
        refine (sort_in g cap n f0 _ HR1.out HN.out).mono ?_
        rintro e w2 ⟨rfl, f2, r2, row2, b2, s2⟩
        have R2 := hid row2
        have S2 := hid s2
        have B2 := hid (show Below r w w2 from Below.trans HBW.out (Below.mono b2 (by have := HRG.out; omega)))
        have HF2 := hid (show ∀ v, (∃ k, k < n ∧ f2 k = v) ↔ ∃ p, p ∈ L ∧ p.2.1 = v from fun v => by
          rw [← HF.out v]
          have := r2.mem v
          constructor
          · rintro ⟨k, hk, e⟩
            obtain ⟨k', _, h2, h3⟩ := this.2 ⟨k, Nat.zero_le _, hk, e⟩
            exact ⟨k', h2, h3⟩
          · rintro ⟨k, hk, e⟩
            obtain ⟨k', _, h2, h3⟩ := this.1 ⟨k, Nat.zero_le _, hk, e⟩
            exact ⟨k', h2, h3⟩)
        clear r2 row2 b2 s2 HF
        go_wp2_with fail
        refine (compact_in g cap n f2 _ R2.out HN.out S2.out).mono ?_
        rintro e w3 ⟨m, f3, rfl, hmn, row3, b3, ri3, mem3⟩
        have R3 := hid row3
        have B3 := hid (show Below r w w3 from Below.trans B2.out (Below.mono b3 (by have := HRG.out; omega)))
        have HF3 := hid (show ∀ v, (∃ k, k < m ∧ f3 k = v) ↔ ∃ p, p ∈ L ∧ p.2.1 = v from fun v => (mem3 v).trans (HF2.out v))
        have RI3 := hid ri3
        have HMN := hid (show m ≤ L.length ∧ m ≤ 100 by have := HVL.out; have := HLL.out; omega)
        clear row3 b3 ri3 mem3 hmn HF2
        have T34 := hid (fun (w' : World) (h : Ext w3 w') => (R3.out.kept (h.block _ R3.out.lt)).src)
        have HB8 := hid (show ui.bytes * m ≤ 281474976710656 by rw [HUB.out]; have := HMN.out.2; omega)
        have HML := hid (show m ≤ maxLen by have := HMN.out.2; unfold maxLen; omega)
        have HCL := hid (show (cellsU m f3).length = m by simp [cellsU])
        have HONE := hid (show ∀ v, v ∈ cellsU m f3 → v.oneCell' = true from fun v hv => by
          unfold cellsU at hv
          obtain ⟨k, _, rfl⟩ := List.mem_map.1 hv
          rfl)
        go_wp2_with (first | (at_make; refine wpList_make_full _ rfl _ _ 39 rfl r 30 ui (.int .u64 0) 1 u64E.und HUI.out HUZ.out HUS.out _ _ _ _ m rfl rfl rfl rfl HB8.out HML.out (HBR.out _ B3.out) ?_; intro w4 hown4 hg4; obtain ⟨cur4, hc4, hs4, _⟩ := owns_at hown4; have M4 := hid (show Ext w3 w4 from ⟨hg4.os, hg4.tape, hg4.output, hg4.size, fun k hk => hg4.block k hk (fun e => by cases e)⟩); have C4 := hid hc4; have S4 := hid hs4; clear hown4 hg4 hc4 hs4) | (refine wpList_copy_sz rfl (.tmp 29) (.tmp 30) 39 39 rfl 30 1 u64E.und (by kernel_rfl) w3.heap.size m m ⟨g, 0, none⟩ m cap rfl rfl cur4 30 C4.out (cellsU m f3) m (Nat.min_self m).symm (by rw [HCL.out, Nat.mul_one]) (T34.out _ M4.out) (by rw [S4.out, HCL.out]; omega) HONE.out ?_))
        go_ret
        refine ⟨w3.heap.size, m, f3, rfl, HMN.out.1, ⟨_, setRow_heap _ _ _ _ _ _ C4.out, ?_, Nat.le_refl _, fun i hi => ?_⟩, by rw [HRS.out]; exact HSZ.out _ B3.out, RI3.out, HF3.out, HBX.out _ (below_setRow (Below.trans B3.out (Below.mono M4.out (HBR.out _ B3.out))) (HBR.out _ B3.out) _)⟩
        · have := S4.out; have := HCL.out; simp; omega
        · rw [List.getElem?_toArray, List.getElem?_append_left (by rw [HCL.out]; exact hi)]
          unfold cellsU
          rw [List.getElem?_map, List.getElem?_range hi]
          rfl
    · obtain ⟨hin, hns⟩ := mem_left he
      obtain ⟨p, hp, rfl⟩ := eM_mem hin
      simp only at hrun hns
      have HP := hid hp
      have HNS := hid hns
      have HE := hid he
      have W1 := hid (show wr.heap = w1.heap ∧ Below r w w1 ∧ Ext wr w1 from by
        rcases hw1 with rfl | rfl
        · exact ⟨rfl, HG.out.bel, Ext.rfl _⟩
        · exact ⟨rfl, below_drew HG.out.bel, below_drew (Ext.rfl _)⟩)
      have hit1 : w1.heap[r]? = some (.mapIter (some mb) clock seen clock) := by rw [← W1.out.1]; exact HG.out.it
      have hnx : ∀ ty, (Instr.next (.pointer (some ⟨r, 0, none⟩)) false ty).run Try.prog wr = .ok (.tuple #[.bool true, .int .i64 p.1, .int .u64 p.2.1]) (setW w1 r (.mapIter (some mb) clock (seen.push p.2.2) clock)) := fun ty => (HTY.out ty 0).trans hrun
      have IT := hid (setW_same (o := .mapIter (some mb) clock (seen.push p.2.2) clock) hit1)
      have HM : (setW w1 r (.mapIter (some mb) clock (seen.push p.2.2) clock)).heap[mb]? = some (.map (eM L) clock) := by
        rw [setW_other (Nat.ne_of_lt HR.out.2), ← W1.out.1]; exact HS.out.map
      have hen := run_entryAt (P := Try.prog) _ r mb clock (seen.push p.2.2 |>.pop) (eM L) clock ⟨.int .i64 p.1, .int .u64 p.2.1, p.2.2⟩ (by simpa using IT.out) HM hin (by rw [eM_born]; exact H.out.nd)
      have BZ := hid (setW_below W1.out.2.1 (Nat.le_refl r) (.mapIter (some mb) clock (seen.push p.2.2) clock))
      have oz : (setW w1 r (.mapIter (some mb) clock (seen.push p.2.2) clock)).ownsRow (r + 1) 30 1 u3 vs.length (vs.map (Value.int .u64)) := by
        have ho := HG.out.own
        refine ⟨ho.1, ?_⟩
        rcases ho.2 with h0 | ⟨g, cap, cur, h1, hb, hg, rest⟩
        · exact .inl h0
        · exact .inr ⟨g, cap, cur, h1, hb, by rw [setW_other (by omega), ← W1.out.1]; exact hg, rest⟩
      have OZ := hid oz
      clear oz
      simp only at hen
      have hvl : vs.length ≤ 100 := by rw [HG.out.perm.length_eq]; exact Nat.le_trans (told_len L seen) HLL.out
      have HVL := hid hvl
      have HPM := hid (show (vs ++ [p.2.1]).Perm (told L (seen.push p.2.2)) from (List.perm_append_singleton _ _).trans ((List.Perm.cons _ HG.out.perm).trans (told_push seen p HNS.out L H.out.nd HP.out).symm))
      have HLS := hid (left_shrinks (eM L) seen _ HE.out)
      have HIT := hid HG.out.it
      clear law hrun hw1 hin hns hp he hit1 HG HM hvl
      generalize setW w1 r (.mapIter (some mb) clock (seen.push p.2.2) clock) = wz at *
      obtain ⟨k, v, b⟩ := p
      simp only at *
      obtain ⟨a3, cp3, rfl, _⟩ := slice_of OZ.out
      go_wp2_with (at_builtin; refine wpList_app u64E rfl (owns_ext OZ.out ((Ext.rfl wz).al _)) rfl rfl (news_one _ _ _) (by simp [Value.oneCell']) (by have := HVL.out; omega) (Nat.le_trans (lt_of_at IT.out) ((Ext.rfl wz).al _).size) ?_; intro v' w4 hown4 hg4 hb4; have O4 := hid hown4; have G4 := hid hg4; have E4 := hid hb4; clear hown4 hg4 hb4)
      have it4 := (E4.out.block r (Nat.lt_succ_self r)).trans ((((Ext.rfl wz).al (Obj.cells #[.int .u64 v] 30)).block r (lt_of_at IT.out)).trans IT.out)
      go_roundw
      case rel => exact ⟨seen.push b, vs ++ [v], it4, by rw [List.length_append, List.map_append]; exact O4.out, HPM.out, Below.trans (Below.trans BZ.out (Below.mono ((Ext.rfl wz).al _) (HBR.out _ BZ.out))) (Below.mono E4.out (Nat.le_succ r))⟩
      case measure =>
        unfold World.iterSeen
        rw [it4, HIT.out]
        exact HLS.out
end Go.Proofs.Ytjekfifnhdoamaa
