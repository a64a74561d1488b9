/- Snapshots, the document's: Release, List. -/
import Derived.Test.YtjekfifnhdoamaaSp1
set_option linter.unusedSimpArgs false
set_option linter.unusedVariables false
set_option linter.unnecessarySimpa false
namespace Go.Proofs.Ytjekfifnhdoamaa
open Go.RowKit Go.Rg Go.St

/-- those of others -/
def lessS (L : Hd) (id : Int) : Hd := L.filter (fun p => p.1 != id)
theorem lessS_none {L : Hd} {id : Int} (h : numS L id = none) : lessS L id = L := by
  unfold lessS
  refine List.filter_eq_self.2 fun p hp => ?_
  unfold numS at h
  rw [Option.map_eq_none_iff, List.find?_eq_none] at h
  have := h p hp
  simpa using this
theorem lessS_some {L : Hd} {id v : Int} (h : numS L id = some v) : (lessS L id).length < L.length := by
  unfold lessS
  unfold numS at h
  cases hf : L.find? (fun p => p.1 == id) with
  | none => rw [hf] at h; cases h
  | some p =>
    have h1 := List.find?_some hf
    have h2 := List.mem_of_find?_eq_some hf
    exact List.length_filter_lt_length_iff_exists.2 ⟨p, h2, by simpa using h1⟩
theorem lessS_drop {L : Hd} {id : Int} (hn : (L.map (·.1)).Nodup) : lessS L id = dropS L id := by
  unfold lessS dropS
  induction L with
  | nil => rfl
  | cons p t ih =>
    obtain ⟨h1, h2⟩ := List.nodup_cons.1 hn
    rw [List.filter_cons, List.eraseP_cons]
    by_cases e : p.1 = id
    · have hf : t.filter (fun p => p.1 != id) = t := List.filter_eq_self.2 fun x hx => by
        simp only [bne_iff_ne]
        intro e2
        exact h1 (List.mem_map.2 ⟨x, hx, by rw [e2, ← e]⟩)
      simp [e, hf]
    · have h3 : (p.1 == id) = false := by simpa using e
      have h4 : (p.1 != id) = true := by simpa using e
      simp only [h3, h4, if_true, cond_false]
      rw [ih h2]
theorem lessS_take (L : Hd) (id : Int) {k : Nat} (hk : k < L.length) : lessS (L.take (k + 1)) id = lessS (L.take k) id ++ (if L[k].1 = id then [] else [L[k]]) := by
  unfold lessS
  rw [List.take_add_one, List.getElem?_eq_getElem hk, List.filter_append]
  congr 1
  by_cases e : L[k].1 = id
  · simp [e]
  · simp [e]
/-- a set behind Release -/
def RelP (rb : Nat) (L : Hd) (taken id : Int) (w : World) (e : Ending) (w' : World) : Prop :=
  e = .returned (.int .i64 (seqC L id)) ∧ RefS rb (lessS L id) taken w' ∧ Only rb rb w w'
theorem only_ext {sb mb : Nat} {w w' : World} (h : Ext w w') : Only sb mb w w' := ⟨h.os, h.tape, h.output, h.size, fun k hk _ _ => h.block k hk⟩
theorem snap_box (p : Int × Int × Nat) : (eSnap p).toArray = #[.int .i64 p.1, .int .u64 p.2.1] := rfl
set_option maxRecDepth 100000 in
set_option maxHeartbeats 4000000 in
theorem release20_in (rb : Nat) (L : Hd) (taken id : Int) (w : World) (h : RefS rb L taken w) (hn : L.length ≤ 100) :
    Calls Try.prog 20 #[.pointer (some ⟨rb, 0, none⟩), .int .i64 id] w (RelP rb L taken id w) := by
  have H := hid h
  obtain ⟨a, cap, c0, c1, ff, ho⟩ := h.parts
  have HO := hid ho
  have HC0 := hid c0
  have HROW := hid (row_is h c0)
  have HLT := hid h.lt
  have HB0 := hid (show ∀ w', Below w.heap.size w w' → Ext w w' from fun _ h => h)
  clear h c0 c1 ff ho
  go_enter Try.func20, Try.ntmps20
  go_wp2_with fail
  go_loopw [5, 6] (fun o t wr => ∃ k : Nat, k ≤ L.length ∧ t = .int .i64 k ∧ Ext w wr ∧ wr.ownsRow w.heap.size 84 2 o (lessS (L.take k) id).length ((lessS (L.take k) id).flatMap eSnap)) (fun _ t _ => L.length - (intOf t).toNat)
  case atStart => exact ⟨0, Nat.zero_le _, rfl, Ext.rfl _, World.ownsRow_nil _ _ _ _⟩
  case round =>
    obtain ⟨k, hk, rfl, he, hown⟩ := hrel
    have HE := hid he
    have HW := hid hown
    clear he hown
    have c0 := ext_cell HE.out HC0.out
    by_cases hkl : k < L.length
    · obtain ⟨g, rfl, hg, e0, e1⟩ := own_cells HO.out hkl
      have f0 := ext_cell HE.out e0
      have f1 := ext_cell HE.out e1
      have HTK := hid (lessS_take L id hkl)
      clear hg e0 e1
      obtain ⟨p, hp⟩ : ∃ p, p = L[k] := ⟨_, rfl⟩
      rw [← hp] at f0 f1 HTK
      clear hp
      obtain ⟨pid, pv, pb⟩ := p
      simp only at f0 f1
      by_cases hpe : pid = id
      · have HT2 := hid (show lessS (L.take (k + 1)) id = lessS (L.take k) id by rw [HTK.out]; simp [hpe])
        subst hpe
        clear HTK
        go_wp2_with fail
        go_roundw
        case rel => exact ⟨k + 1, by omega, by go_num, HE.out, by rw [HT2.out]; exact HW.out⟩
        case measure => first | (simp [intOf]; done) | (simp [intOf]; omega)
      · have HT2 := hid (show lessS (L.take (k + 1)) id = lessS (L.take k) id ++ [(pid, pv, pb)] by rw [HTK.out]; simp [hpe])
        have hpd : icmp .neq pid id = some true := by unfold icmp; simp [hpe]
        have hpb : (pid != id) = true := by simpa using hpe
        have hl : (lessS (L.take k) id).length ≤ 100 := by
          have h1 : (lessS (L.take k) id).length ≤ (L.take k).length := List.length_filter_le _ _
          rw [List.length_take] at h1; omega
        obtain ⟨o3, cp3, rfl, _⟩ := slice_of HW.out
        generalize lessS (L.take k) id = F at *
        clear HTK
        go_wp2_with (at_builtin; refine wpList_app snapE rfl (owns_ext HW.out ((Ext.rfl wr).al _)) rfl rfl (news_at1 wr #[.int .i64 pid, .int .u64 pv] 84) (one_snap pid pv) (by omega) (Nat.le_trans HE.out.size ((Ext.rfl wr).al _).size) ?_; intro v' w4 hown4 hg4 hb4; have O4 := hid hown4; have E4 := hid (show Ext w w4 from Below.trans HE.out (Below.trans (Below.mono ((Ext.rfl wr).al (.cells #[.int .i64 pid, .int .u64 pv] 84)) HE.out.size) hb4)); clear hown4 hg4 hb4)
        go_roundw
        case rel => exact ⟨k + 1, by omega, by go_num, E4.out, by rw [HT2.out, List.length_append, List.flatMap_append]; exact O4.out⟩
        case measure => first | (simp [intOf]; done) | (simp [intOf]; omega)
    · have hW := HW.out
      rw [List.take_of_length_le (by omega)] at hW
      have HW2 := hid hW
      clear hW HW
      obtain ⟨o3, cp3, rfl, _⟩ := slice_of HW2.out
      have HRW := hid ((HE.out.block rb HLT.out).trans HROW.out)
      have df : ∀ i, wr.frozen? ⟨rb, i, none⟩ = false := fun i => frozen_of_row _ _ _ _ _ HRW.out
      cases hq : numS L id with
      | none =>
        have hFL := lessS_none hq
        have hdl : ((lessS L id).length == L.length) = true := by rw [hFL]; simp
        have hdl2 : (lessS L id).length = L.length := by rw [hFL]
        have HFL := hid hFL
        have HQ := hid hq
        clear hFL hq
        have hdd : decide (((lessS L id).length : Int) = (L.length : Int)) = true := decide_eq_true (by omega)
        generalize (lessS L id).length = m at *
        subst hdl2
        go_wp2_with fail
        go_ret
        exact ⟨by unfold seqC; rw [HQ.out]; rfl, by rw [HFL.out]; exact H.out.go HE.out, only_ext HE.out⟩
      | some v =>
        have hlt := lessS_some hq
        have HQ := hid hq
        clear hq
        have hdd : decide (((lessS L id).length : Int) = (L.length : Int)) = false := decide_eq_false (by omega)
        have hdn : ¬ (lessS L id).length = L.length := by omega
        obtain ⟨m, hm⟩ : ∃ m, m = (lessS L id).length := ⟨_, rfl⟩
        rw [← hm] at hlt hdd hdn HW2 ⊢
        have HM := hid hm
        clear hm
        go_wp2_with fail
        go_ret
        refine ⟨by unfold seqC; rw [HQ.out]; rfl, ⟨.slice o3 m cp3, (heap_setCell_same _ _ _ _ _ _ HRW.out).trans rfl, ?_⟩, Only.setC (only_ext HE.out) 0 _⟩
        rw [← HM.out]
        exact owns_set (owns_base HW2.out (Nat.succ_le_of_lt HLT.out)) rb 0 _ (Nat.lt_succ_self rb)
end Go.Proofs.Ytjekfifnhdoamaa
