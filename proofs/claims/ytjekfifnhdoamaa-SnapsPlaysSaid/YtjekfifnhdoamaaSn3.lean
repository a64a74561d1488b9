/- Snapshots: List (of two that are unlike). -/
import Derived.Test.YtjekfifnhdoamaaSn2
import Derived.Laws.Tables
import Derived.Laws.CopyOwn
set_option linter.unusedSimpArgs false
set_option linter.unusedVariables false
set_option linter.unnecessarySimpa false
namespace Go.Proofs.Ytjekfifnhdoamaa
open Go.RowKit Go.Rg Go.St

def told (L : Hd) (seen : Array Nat) : List Int := (L.filter (fun p => seen.contains p.2.2)).map (·.2.1)
theorem told_none (L : Hd) : told L #[] = [] := by unfold told; simp
theorem told_push (seen : Array Nat) (p : Int × Int × Nat) (hs : seen.contains p.2.2 = false) : ∀ L : Hd, (L.map (·.2.2)).Nodup → p ∈ L → (told L (seen.push p.2.2)).Perm (p.2.1 :: told L seen)
  | [], _, h => by cases h
  | q :: L, hn, h => by
    rw [List.map_cons, List.nodup_cons] at hn
    rcases List.mem_cons.1 h with rfl | h
    · have e : told L (seen.push p.2.2) = told L seen := by
        unfold told
        congr 1
        apply List.filter_congr
        intro x hx
        rw [contains_push]
        have : (x.2.2 == p.2.2) = false := by
          rw [beq_eq_false_iff_ne]
          intro e
          exact hn.1 (by rw [← e]; exact List.mem_map_of_mem (f := fun z : Int × Int × Nat => z.2.2) hx)
        rw [this, Bool.or_false]
      unfold told at e ⊢
      rw [List.filter_cons_of_pos (by rw [contains_push]; simp), List.filter_cons_of_neg (by rw [hs]; decide), List.map_cons, e]
    · have ih := told_push seen p hs L hn.2 h
      have hne : (q.2.2 == p.2.2) = false := by
        rw [beq_eq_false_iff_ne]
        intro e
        exact hn.1 (by rw [e]; exact List.mem_map_of_mem (f := fun z : Int × Int × Nat => z.2.2) h)
      have hc : (seen.push p.2.2).contains q.2.2 = seen.contains q.2.2 := by rw [contains_push, hne, Bool.or_false]
      cases hq : seen.contains q.2.2 with
      | true =>
        unfold told at ih ⊢
        rw [List.filter_cons_of_pos (by rw [hc, hq]), List.filter_cons_of_pos (by rw [hq]), List.map_cons, List.map_cons]
        exact (List.Perm.cons _ ih).trans (List.Perm.swap _ _ _)
      | false =>
        unfold told at ih ⊢
        rw [List.filter_cons_of_neg (by rw [hc, hq]; decide), List.filter_cons_of_neg (by rw [hq]; decide)]
        exact ih
theorem told_all (L : Hd) (seen : Array Nat) (h : ∀ p, p ∈ L → seen.contains p.2.2 = true) : told L seen = L.map (·.2.1) := by
  unfold told
  rw [List.filter_eq_self.2 h]
theorem told_len (L : Hd) (seen : Array Nat) : (told L seen).length ≤ L.length := by
  unfold told
  rw [List.length_map]
  exact List.length_filter_le _ _
theorem eM_mem {L : Hd} {e : MapEntry} (h : e ∈ (eM L).toList) : ∃ p, p ∈ L ∧ e = ⟨.int .i64 p.1, .int .u64 p.2.1, p.2.2⟩ := by
  unfold eM at h
  simp at h
  obtain ⟨a, b, c, h1, rfl⟩ := h
  exact ⟨(a, b, c), h1, rfl⟩
theorem eM_of {L : Hd} {p : Int × Int × Nat} (h : p ∈ L) : (⟨.int .i64 p.1, .int .u64 p.2.1, p.2.2⟩ : MapEntry) ∈ (eM L).toList := by
  unfold eM
  simp
  exact ⟨_, _, _, h, rfl, rfl, rfl⟩
theorem eM_born (L : Hd) : (eM L).toList.map (·.born) = L.map (·.2.2) := by unfold eM; simp
theorem u64E : ElT Try.prog 39 30 1 8 := ⟨by kernel_rfl, by kernel_rfl, by decide, by decide⟩
theorem below_drew {B : Nat} {a w : World} (h : Below B a w) : Below B a w.drew := ⟨h.os, h.tape, h.output, h.size, h.block⟩

theorem Two.src {b cap : Nat} {x y : Int} {w : World} (h : Two b cap x y w) : ∀ j v, ([Value.int .u64 x, .int .u64 y] : List Value)[j]? = some v → w.cell? ((⟨b, 0, none⟩ : Addr).add j) = some v := by
  intro j v hj
  obtain ⟨c0, c1⟩ := h.cells
  match j with
  | 0 => simp at hj; subst hj; exact c0
  | 1 => simp at hj; subst hj; exact c1
  | j + 2 => simp at hj
/-- what List has gathered -/
structure Gath (r sb mb : Nat) (L : Hd) (clock : Nat) (w : World) (seen : Array Nat) (vs : List Int) (s : Value) (wr : World) : Prop where
  it : wr.heap[r]? = some (.mapIter (some mb) clock seen clock)
  own : wr.ownsRow (r + 1) 30 1 s vs.length (vs.map (Value.int .u64))
  perm : vs.Perm (told L seen)
  bel : Below r w wr
theorem perm_two {vs : List Int} {x y : Int} (h : vs.Perm [x, y]) : vs = [x, y] ∨ vs = [y, x] := by
  have hl : vs.length = 2 := h.length_eq
  match vs, hl with
  | [a, b], _ =>
    have ha : a ∈ [x, y] := h.mem_iff.1 (by simp)
    have hs := h.symm
    simp at ha
    rcases ha with rfl | rfl
    · have := List.Perm.cons_inv h
      rw [List.perm_singleton] at this
      exact .inl (by rw [this])
    · have := List.Perm.cons_inv (h.trans (List.Perm.swap _ _ _))
      rw [List.perm_singleton] at this
      exact .inr (by rw [this])
theorem mm_comm {x y : Int} (h : x ≠ y) : mnI y x = mnI x y ∧ mxI y x = mxI x y := by
  unfold mnI mxI
  by_cases h1 : y < x
  · rw [if_pos h1, if_pos h1, if_neg (by omega), if_neg (by omega)]; exact ⟨rfl, rfl⟩
  · rw [if_neg h1, if_neg h1, if_pos (by omega), if_pos (by omega)]; exact ⟨rfl, rfl⟩
theorem mm_ne {x y : Int} (h : x ≠ y) : mnI x y ≠ mxI x y := by
  unfold mnI mxI
  by_cases h1 : y < x
  · rw [if_pos h1, if_pos h1]; exact Ne.symm h
  · rw [if_neg h1, if_neg h1]; exact h
theorem two_of {base : Nat} {s : Value} {x y : Int} {w : World} (h : w.ownsRow base 30 1 s 2 [.int .u64 x, .int .u64 y]) : ∃ b cap, s = .slice (some ⟨b, 0, none⟩) 2 cap ∧ Two b cap x y w ∧ 2 ≤ cap ∧ cap ≤ maxLen ∧ base ≤ b := by
  rcases h.2 with ⟨_, h1⟩ | ⟨g, cap, cur, rfl, hb, hg, hn, hm, hcs, htk⟩
  · cases h1
  · refine ⟨g, cap, rfl, ⟨cur, hg, by omega, ?_, ?_⟩, hn, hm, hb⟩
    · have : (cur.toList.take (2 * 1))[0]? = some (.int .u64 x) := by rw [htk]; rfl
      rw [List.getElem?_take, if_pos (by decide)] at this
      simpa using this
    · have : (cur.toList.take (2 * 1))[1]? = some (.int .u64 y) := by rw [htk]; rfl
      rw [List.getElem?_take, if_pos (by decide)] at this
      simpa using this

theorem slice_of {w : World} {base : Nat} {e : TypeId} {sz : Nat} {v : Value} {n : Nat} {xs : List Value} (h : w.ownsRow base e sz v n xs) : ∃ a cap, v = .slice a n cap ∧ n ≤ maxLen := by
  rcases h.2 with ⟨rfl, rfl⟩ | ⟨g, cap, cur, rfl, _, hg, hnc, hcm, hcs, htk⟩
  · exact ⟨_, _, rfl, Nat.zero_le _⟩
  · exact ⟨_, _, rfl, Nat.le_trans hnc hcm⟩
set_option maxRecDepth 100000 in
set_option maxHeartbeats 4000000 in
theorem list2_in (B sb mb : Nat) (k0 k1 x y : Int) (b0 b1 : Nat) (clock : Nat) (taken : Int) (w : World) (h : SnAt B sb mb [(k0, x, b0), (k1, y, b1)] clock taken w) (hxy : x ≠ y) :
    Calls Try.prog 21 #[.pointer (some ⟨sb, 0, none⟩)] w (fun e w' => ∃ g, e = .returned (.slice (some ⟨g, 0, none⟩) 2 2) ∧ Two g 2 (mnI x y) (mxI x y) w' ∧ Ext w w') := by
  have H := hid h
  have hrg := run_range_map (P := Try.prog) w 80 3 30 mb _ clock mI_map h.map
  obtain ⟨c0, c1⟩ := h.cells
  obtain ⟨ui, hui, huz, hus, hub⟩ : ∃ i, Try.prog.info? 30 = some i ∧ i.zero = some (.int .u64 0) ∧ i.size = 1 ∧ i.bytes = 8 := by
    have h1 : (Try.prog.info? 30).map (fun i => (i.zero, i.size, i.bytes)) = some (some (.int .u64 0), 1, 8) := by kernel_rfl
    cases hq : Try.prog.info? 30 with
    | none => rw [hq] at h1; cases h1
    | some i =>
      rw [hq] at h1
      simp at h1
      exact ⟨i, rfl, h1⟩
  have HUI := hid hui
  have HUZ := hid huz
  have HUS := hid hus
  have HUB := hid hub
  have HXY := hid hxy
  clear h hui huz hus hub hxy
  generalize hL : [(k0, x, b0), (k1, y, b1)] = L at *
  have HL := hid hL
  clear hL
  have HLL := hid (show L.length = 2 by rw [← HL.out]; rfl)
  go_enter Try.func21, Try.ntmps21
  go_wp2_with fail
  have IT0 := hid (heap_alloc_new w (.mapIter (some mb) clock #[] clock))
  have B0 := hid (show Below w.heap.size w (w.alloc (.mapIter (some mb) clock #[] clock)) from (Ext.rfl w).al _)
  have HR := hid (show sb < w.heap.size ∧ mb < w.heap.size from ⟨lt_of_at H.out.row, lt_of_at H.out.map⟩)
  have HBX := hid (show ∀ w', Below w.heap.size w w' → Ext w w' from fun _ h => h)
  clear hrg c0 c1
  generalize w.alloc (.mapIter (some mb) clock #[] clock) = w0 at *
  have HBR := hid (show ∀ w', Below w.heap.size w w' → w.heap.size ≤ w'.heap.size from fun w' h => h.size)
  generalize w.heap.size = r at *
  go_loopw [3] (fun s wr => ∃ (seen : Array Nat) (vs : List Int), Gath r sb mb L clock w seen vs s wr) (fun _ wr => (leftOf (eM L) (wr.iterSeen r)).size)
  case atStart => exact ⟨#[], [], IT0.out, World.ownsRow_nil _ _ _ _, by rw [told_none], B0.out⟩
  case round =>
    obtain ⟨seen, vs, hg⟩ := hrel
    have HG := hid hg
    clear hg
    have HS := hid (show SnAt B sb mb L clock taken wr from H.out.kept (HG.out.bel.block _ HR.out.1) (HG.out.bel.block _ HR.out.2))
    have hold : ∀ e, e ∈ (eM L).toList → e.born < clock := fun e he => by
      obtain ⟨p, hp, rfl⟩ := eM_mem he
      exact H.out.born p hp
    have law := fun ty => run_nextAt (P := Try.prog) wr ty r mb clock clock seen (eM L) clock HG.out.it HS.out.map hold (Nat.le_refl _)
    have HOLD := hid hold
    clear hold
    have hty : ∀ ty ty', (Instr.next (.pointer (some ⟨r, 0, none⟩)) false ty).run Try.prog wr = (Instr.next (.pointer (some ⟨r, 0, none⟩)) false ty').run Try.prog wr := fun ty ty' => rfl
    have HTY := hid hty
    clear hty
    rcases law 0 with ⟨h0, hrun⟩ | ⟨e, he, w1, hw1, hrun⟩
    · have hnx : ∀ ty, (Instr.next (.pointer (some ⟨r, 0, none⟩)) false ty).run Try.prog wr = .ok (.tuple #[.bool false]) wr := fun ty => (HTY.out ty 0).trans hrun
      have hperm : vs.Perm [x, y] := by
        have h1 := HG.out.perm
        rw [told_all L seen (fun p hp => all_seen (eM L) seen h0 _ (eM_of hp)), ← HL.out] at h1
        exact h1
      have HO := hid HG.out.own
      have HBW := hid HG.out.bel
      have hvs : vs.length = 2 := hperm.length_eq
      obtain ⟨p, q, hpq, HPQ⟩ : ∃ p q, vs = [p, q] ∧ Hid (p ≠ q ∧ mnI p q = mnI x y ∧ mxI p q = mxI x y) := by
        rcases perm_two hperm with h | h
        · exact ⟨x, y, h, ⟨HXY.out, rfl, rfl⟩⟩
        · exact ⟨y, x, h, ⟨Ne.symm HXY.out, mm_comm HXY.out⟩⟩
      clear law hrun h0 HG hperm hvs
      subst hpq
      obtain ⟨g, cap, hse, ht, hc2, hcm, hrg⟩ := two_of HO.out
      subst hse
      have HT := hid ht
      have HC2 := hid hc2
      have HRG := hid hrg
      clear ht hc2 hcm hrg HO
      go_wp2_with fail
      refine (sort2_in g cap p q _ HT.out HC2.out).mono ?_
      rintro e w2 ⟨rfl, h1, h2⟩
      have T2 := hid h1
      have B2 := hid (show Below r w w2 from Below.trans HBW.out (Below.mono h2 (by have := HRG.out; omega)))
      clear h1 h2
      go_wp2_with fail
      refine (compact2_in g cap _ _ _ T2.out HC2.out (mm_ne HPQ.out.1)).mono ?_
      rintro e w3 ⟨rfl, h2⟩
      have T3 := hid (T2.out.kept (h2.block _ T2.out.lt))
      have B3 := hid (show Below r w w3 from Below.trans B2.out (Below.mono h2 (HBR.out _ B2.out)))
      clear h2
      have T34 := hid (fun (w' : World) (h : Ext w3 w') => (T3.out.kept (h.block _ T3.out.lt)).src)
      go_wp2_with (first | (at_make; refine wpList_make_full _ rfl _ _ 39 rfl r 30 ui (.int .u64 0) 1 u64E.und HUI.out HUZ.out HUS.out _ _ _ _ 2 rfl rfl rfl rfl (by rw [HUB.out]; decide) (by decide) (HBR.out _ B3.out) ?_; intro w4 hown4 hg4; obtain ⟨cur4, hc4, hs4, _⟩ := owns_at hown4; have M4 := hid (show Ext w3 w4 from ⟨hg4.os, hg4.tape, hg4.output, hg4.size, fun k hk => hg4.block k hk (fun e => by cases e)⟩); have C4 := hid hc4; have S4 := hid hs4; clear hown4 hg4 hc4 hs4) | (refine wpList_copy_sz rfl (.tmp 29) (.tmp 30) 39 39 rfl 30 1 u64E.und (by kernel_rfl) w3.heap.size 2 2 ⟨g, 0, none⟩ 2 cap rfl rfl cur4 30 C4.out [.int .u64 (mnI p q), .int .u64 (mxI p q)] 2 rfl rfl (T34.out _ M4.out) (by rw [S4.out]; exact Nat.le_refl _) (by simp [Value.oneCell']) ?_))
      go_ret
      refine ⟨w3.heap.size, rfl, ⟨_, setRow_heap _ _ _ _ _ _ C4.out, ?_, ?_, ?_⟩, HBX.out _ (below_setRow (Below.trans B3.out (Below.mono M4.out (HBR.out _ B3.out))) (HBR.out _ B3.out) _)⟩
      · have := S4.out; simp; omega
      · rw [HPQ.out.2.1]; simp
      · rw [HPQ.out.2.2]; simp
    · obtain ⟨hin, hns⟩ := mem_left he
      obtain ⟨p, hp, rfl⟩ := eM_mem hin
      simp only at hrun hns
      have HP := hid hp
      have HNS := hid hns
      have HE := hid he
      have W1 := hid (show wr.heap = w1.heap ∧ Below r w w1 ∧ Ext wr w1 from by
        rcases hw1 with rfl | rfl
        · exact ⟨rfl, HG.out.bel, Ext.rfl _⟩
        · exact ⟨rfl, below_drew HG.out.bel, below_drew (Ext.rfl _)⟩)
      have hit1 : w1.heap[r]? = some (.mapIter (some mb) clock seen clock) := by rw [← W1.out.1]; exact HG.out.it
      have hnx : ∀ ty, (Instr.next (.pointer (some ⟨r, 0, none⟩)) false ty).run Try.prog wr = .ok (.tuple #[.bool true, .int .i64 p.1, .int .u64 p.2.1]) (setW w1 r (.mapIter (some mb) clock (seen.push p.2.2) clock)) := fun ty => (HTY.out ty 0).trans hrun
      have IT := hid (setW_same (o := .mapIter (some mb) clock (seen.push p.2.2) clock) hit1)
      have HM : (setW w1 r (.mapIter (some mb) clock (seen.push p.2.2) clock)).heap[mb]? = some (.map (eM L) clock) := by
        rw [setW_other (Nat.ne_of_lt HR.out.2), ← W1.out.1]; exact HS.out.map
      have hen := run_entryAt (P := Try.prog) _ r mb clock (seen.push p.2.2 |>.pop) (eM L) clock ⟨.int .i64 p.1, .int .u64 p.2.1, p.2.2⟩ (by simpa using IT.out) HM hin (by rw [eM_born]; exact H.out.nd)
      have BZ := hid (setW_below W1.out.2.1 (Nat.le_refl r) (.mapIter (some mb) clock (seen.push p.2.2) clock))
      have oz : (setW w1 r (.mapIter (some mb) clock (seen.push p.2.2) clock)).ownsRow (r + 1) 30 1 u3 vs.length (vs.map (Value.int .u64)) := by
        have ho := HG.out.own
        refine ⟨ho.1, ?_⟩
        rcases ho.2 with h0 | ⟨g, cap, cur, h1, hb, hg, rest⟩
        · exact .inl h0
        · exact .inr ⟨g, cap, cur, h1, hb, by rw [setW_other (by omega), ← W1.out.1]; exact hg, rest⟩
      have OZ := hid oz
      clear oz
      simp only at hen
      have hvl : vs.length ≤ 2 := by rw [HG.out.perm.length_eq, ← HLL.out]; exact told_len L seen
      have HVL := hid hvl
      have HPM := hid (show (vs ++ [p.2.1]).Perm (told L (seen.push p.2.2)) from (List.perm_append_singleton _ _).trans ((List.Perm.cons _ HG.out.perm).trans (told_push seen p HNS.out L H.out.nd HP.out).symm))
      have HLS := hid (left_shrinks (eM L) seen _ HE.out)
      have HIT := hid HG.out.it
      clear law hrun hw1 hin hns hp he hit1 HG HM hvl
      generalize setW w1 r (.mapIter (some mb) clock (seen.push p.2.2) clock) = wz at *
      obtain ⟨k, v, b⟩ := p
      simp only at *
      obtain ⟨a3, cp3, rfl, _⟩ := slice_of OZ.out
      go_wp2_with (at_builtin; refine wpList_app u64E rfl (owns_ext OZ.out ((Ext.rfl wz).al _)) rfl rfl (news_one _ _ _) (by simp [Value.oneCell']) (by have := HVL.out; omega) (Nat.le_trans (lt_of_at IT.out) ((Ext.rfl wz).al _).size) ?_; intro v' w4 hown4 hg4 hb4; have O4 := hid hown4; have G4 := hid hg4; have E4 := hid hb4; clear hown4 hg4 hb4)
      have it4 := (E4.out.block r (Nat.lt_succ_self r)).trans ((((Ext.rfl wz).al (Obj.cells #[.int .u64 v] 30)).block r (lt_of_at IT.out)).trans IT.out)
      go_roundw
      case rel => exact ⟨seen.push b, vs ++ [v], it4, by rw [List.length_append, List.map_append]; exact O4.out, HPM.out, Below.trans (Below.trans BZ.out (Below.mono ((Ext.rfl wz).al _) (HBR.out _ BZ.out))) (Below.mono E4.out (Nat.le_succ r))⟩
      case measure =>
        unfold World.iterSeen
        rw [it4, HIT.out]
        exact HLS.out
end Go.Proofs.Ytjekfifnhdoamaa
