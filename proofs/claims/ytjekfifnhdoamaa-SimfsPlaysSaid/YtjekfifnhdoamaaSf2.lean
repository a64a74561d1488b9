/- Files that a crash cuts: a name sought; a change of names done. -/
import Derived.Test.YtjekfifnhdoamaaSf1
set_option linter.unusedSimpArgs false
set_option linter.unusedVariables false
set_option linter.unnecessarySimpa false
namespace Go.Proofs.Ytjekfifnhdoamaa
open Go.RowKit Go.Rg Go.St

theorem ask_row {M : FsM} (ok : M.Ok) (ho : M.ops < OpsMax) : M.ask.2.Ok ∧ M.ask.2.ops ≤ OpsMax := ⟨ask_ok ok, by rw [(ask_asked M).ops]; exact ho⟩
/-- the file of a name, as find hands it back -/
def fndV (L : FL) (M : FsM) (n : ByteArray) : Value := if M.ask.1 ≠ 0 then .pointer none else ((fndN M.ask.2.names n).map L.φ).elim (.pointer none) ptrV
def fndC (M : FsM) (n : ByteArray) : Int := if M.ask.1 ≠ 0 then M.ask.1 else if (fndN M.ask.2.names n).isSome then 0 else 42
set_option maxRecDepth 100000 in
set_option maxHeartbeats 1000000 in
theorem fsFind_in (L : FL) (M : FsM) (n : ByteArray) (w : World) (h : FsAt w L M) (ok : M.Ok) (ho : M.ops < OpsMax) :
    Calls Try.prog 50 #[ptrV L.fb, .string n] w (fun e w' => e = .returned (.tuple #[fndV L M n, .int .i64 (fndC M n)]) ∧ FsAt w' L M.ask.2 ∧ Ch (fun x => x = L.fb) w w') := by
  have OK := hid (ask_row ok ho).1
  go_enter Try.func50, Try.ntmps50
  go_wp2_with fail
  refine (fsAsk_in L M w h ok ho).mono ?_
  rintro e w1 ⟨rfl, h1, hc1⟩
  have H1 := hid h1
  have C1 := hid hc1
  obtain ⟨c0, _, _, _, _, _, _, _⟩ := fs_cells h1.row
  have hlk := h1.now.look OK.out.rn n
  have hv : Hid (fndV L M n = if M.ask.1 ≠ 0 then .pointer none else ((fndN M.ask.2.names n).map L.φ).elim (.pointer none) ptrV) := hid rfl
  have hcd : Hid (fndC M n = if M.ask.1 ≠ 0 then M.ask.1 else if (fndN M.ask.2.names n).isSome then 0 else 42) := hid rfl
  clear h1 hc1 h ok ho
  by_cases h0 : M.ask.1 = 0
  · have d0 : (M.ask.1 != 0) = false := by rw [h0]; rfl
    have H0 := hid h0
    clear h0
    cases hq : fndN M.ask.2.names n with
    | none =>
      have e1 : fndV L M n = .pointer none := by rw [hv.out, if_neg (fun h => h H0.out), hq]; rfl
      have e2 : fndC M n = 42 := by rw [hcd.out, if_neg (fun h => h H0.out), hq]; rfl
      rw [hq] at hlk
      simp only [Option.map_none, Option.elim_none] at hlk
      clear hq hv hcd
      go_wp2_with fail
      go_ret2
      exact ⟨by rw [e1, e2]; rfl, H1.out, C1.out⟩
    | some i =>
      have e1 : fndV L M n = ptrV (L.φ i) := by rw [hv.out, if_neg (fun h => h H0.out), hq]; rfl
      have e2 : fndC M n = 0 := by rw [hcd.out, if_neg (fun h => h H0.out), hq]; rfl
      rw [hq] at hlk
      simp only [Option.map_some, Option.elim_some] at hlk
      clear hq hv hcd
      go_wp2_with fail
      go_ret2
      exact ⟨by rw [e1, e2]; rfl, H1.out, C1.out⟩
  · have d0 : (M.ask.1 != 0) = true := by simp [h0]
    have e1 : fndV L M n = .pointer none := by rw [hv.out, if_pos h0]
    have e2 : fndC M n = M.ask.1 := by rw [hcd.out, if_pos h0]
    clear h0 hv hcd hlk c0
    go_wp2_with fail
    go_ret2
    exact ⟨by rw [e1, e2]; rfl, H1.out, C1.out⟩

set_option maxHeartbeats 400000 in
theorem fsGood_in (n : ByteArray) (hn : n.size ≤ 140737488355328) (w : World) : Calls Try.prog 48 #[.string n] w (fun e w' => e = .returned (.bool (goodN n)) ∧ w = w') := by
  have hg : Hid (goodN n = (decide (0 < n.size) && decide (n.size ≤ 32))) := hid rfl
  by_cases h1 : 0 < n.size
  · have d1 : decide (0 < (n.size : Int)) = true := decide_eq_true (by omega)
    by_cases h2 : n.size ≤ 32
    · have d2 : decide ((n.size : Int) ≤ 32) = true := decide_eq_true (by omega)
      have e : goodN n = true := by rw [hg.out, decide_eq_true h1, decide_eq_true h2]; rfl
      clear hg
      go_enter Try.func48, Try.ntmps48
      go_wp2_with fail
      go_ret
      exact ⟨by rw [e]; simp [d2], rfl⟩
    · have d2 : decide ((n.size : Int) ≤ 32) = false := decide_eq_false (by omega)
      have e : goodN n = false := by rw [hg.out, decide_eq_false h2]; simp
      clear hg
      go_enter Try.func48, Try.ntmps48
      go_wp2_with fail
      go_ret
      exact ⟨by rw [e]; simp [d2], rfl⟩
  · have d1 : decide (0 < (n.size : Int)) = false := decide_eq_false (by omega)
    have e : goodN n = false := by rw [hg.out, decide_eq_false h1]; simp
    clear hg
    go_enter Try.func48, Try.ntmps48
    go_wp2_with fail
    go_ret
    exact ⟨by rw [e]; rfl, rfl⟩

theorem isEmpty_of {s : ByteArray} (h : s.size = 0) : s.toList.isEmpty = true := by
  have : s = ByteArray.empty := by cases s with | mk d => have : d.size = 0 := h; have := Array.eq_empty_of_size_eq_zero this; subst this; rfl
  subst this
  rw [ByteArray.toList_eq]
  rfl
theorem isEmpty_not {s : ByteArray} (h : ¬ s.size = 0) : s.toList.isEmpty = false := by
  cases s with
  | mk d =>
    rw [ByteArray.toList_eq]
    cases hd : d.toList with
    | nil => exact absurd (by show d.size = 0; rw [← Array.length_toList, hd]; rfl) h
    | cons a l => simp [hd]
set_option maxRecDepth 100000 in
set_option maxHeartbeats 1000000 in
/-- a change is done to names -/
theorem fsDone_in (φ : Nat → Nat) (c : Chg) (l : Nm) (mb : Nat) (w : World) (h : NamesAt w mb φ l) (hr : Rising l) :
    Calls Try.prog 53 #[.agg #[.string c.frm, .string c.to_, xChg φ c], .map (some mb)] w (fun e w' => e = .returned (.tuple #[]) ∧ NamesAt w' mb φ (doneC c l) ∧ Ch (fun x => x = mb) w w') := by
  have hlt := h.lt
  have H := hid h
  have HR := hid hr
  clear h hr
  have hd : Hid (doneC c l = if c.to_.size = 0 then (if c.frm.size = 0 then l else offK c.frm l) else putN (if c.frm.size = 0 then l else offK c.frm l) (c.to_, c.x)) := hid rfl
  have hx : Hid (xChg φ c = if c.to_.size = 0 then .pointer none else ptrV (φ c.x)) := hid rfl
  have E1 := hid ((Ext.rfl w).al (.cells #[.string c.frm, .string c.to_, xChg φ c] 99))
  have N1 := hid (H.out.go (E1.out.block _ hlt))
  have hrow := heap_alloc_new w (.cells #[.string c.frm, .string c.to_, xChg φ c] 99)
  have hne : w.heap.size ≠ mb := by omega
  have HC1 := hid (show Ch (fun x => x = mb) w (w.alloc (.cells #[.string c.frm, .string c.to_, xChg φ c] 99)) from Ch.of_ext E1.out)
  clear E1 hlt H
  have cells : ∀ (wx : World), wx.heap[w.heap.size]? = some (.cells #[.string c.frm, .string c.to_, xChg φ c] 99 (0, 0)) → wx.cell? ⟨w.heap.size, 0, none⟩ = some (.string c.frm) ∧ wx.cell? ⟨w.heap.size, 1, none⟩ = some (.string c.to_) ∧ wx.cell? ⟨w.heap.size, 2, none⟩ = some (xChg φ c) := fun wx hx => by
    refine ⟨?_, ?_, ?_⟩
    all_goals
      rw [cell_of_row _ _ _ _ _ _ hx]
      rfl
  obtain ⟨c0, c1, c2⟩ := cells _ hrow
  have HROW := hid hrow
  have CELLS := hid cells
  clear hrow cells
  by_cases hf : c.frm.size = 0
  · have df : c.frm.toList.isEmpty = true := isEmpty_of hf
    by_cases ht : c.to_.size = 0
    · have dt : c.to_.toList.isEmpty = true := isEmpty_of ht
      have hd2 : doneC c l = l := by rw [hd.out, if_pos ht, if_pos hf]
      clear hd hx hf ht
      go_enter Try.func53, Try.ntmps53
      go_wp2_with fail
      go_end0
      exact ⟨rfl, by rw [hd2]; exact N1.out, HC1.out⟩
    · have dt : c.to_.toList.isEmpty = false := isEmpty_not ht
      have hd2 : doneC c l = putN l (c.to_, c.x) := by rw [hd.out, if_neg ht, if_pos hf]
      have hx2 : xChg φ c = ptrV (φ c.x) := by rw [hx.out, if_neg ht]
      replace c2 := c2.trans (congrArg some hx2)
      have HD := hid hd2
      obtain ⟨E, k, n1, t1⟩ := N1.out
      obtain ⟨w3, hrun, n3, ch3⟩ := nm_put mN_map mN_key n1 (t1.keys HR.out) c.to_ (φ c.x) trivial (fun _ _ => trivial)
      have hrun2 : (Instr.mapUpdate 89 (.map (some mb)) (.string c.to_) (ptrV (φ c.x))).run Try.prog (w.alloc (.cells #[.string c.frm, .string c.to_, xChg φ c] 99)) = .ok () w3 := hrun
      have N3 := hid (show NamesAt w3 mb φ (putN l (c.to_, c.x)) from ⟨_, _, n3, nmt_put t1 HR.out _ _ _⟩)
      have C3 := hid (HC1.out.tr ch3)
      clear hd hx hf ht hrun n1 t1 n3 ch3 hd2 hx2 N1
      go_enter Try.func53, Try.ntmps53
      go_wp2_with fail
      go_end0
      exact ⟨rfl, by rw [HD.out]; exact N3.out, C3.out⟩
  · have df : c.frm.toList.isEmpty = false := isEmpty_not hf
    obtain ⟨E, k, n1, t1⟩ := N1.out
    obtain ⟨w3, hrun, n3, ch3⟩ := nm_del mN_map mN_key n1 c.frm trivial (fun _ _ => trivial)
    have hrun2 : ∀ ty, (Builtin.delete_ #[89, 9] ty #[.map (some mb), .string c.frm]).run Try.prog (w.alloc (.cells #[.string c.frm, .string c.to_, xChg φ c] 99)) = .ok (.tuple #[]) w3 := hrun
    have t3 := nmt_del t1 HR.out c.frm
    have HR3 := hid (HR.out.off c.frm)
    have T3 := hid t3
    have NM3 := hid n3
    have C3 := hid (HC1.out.tr ch3)
    obtain ⟨e0, e1, e2⟩ := CELLS.out _ ((ch3.block _ (blk_lt HROW.out) hne).trans HROW.out)
    clear hrun n1 t1 n3 t3 ch3 N1
    by_cases ht : c.to_.size = 0
    · have dt : c.to_.toList.isEmpty = true := isEmpty_of ht
      have hd2 : doneC c l = offK c.frm l := by rw [hd.out, if_pos ht, if_neg hf]
      have HD := hid hd2
      clear hd hx hf ht hd2
      go_enter Try.func53, Try.ntmps53
      go_wp2_with fail
      go_end0
      exact ⟨rfl, by rw [HD.out]; exact ⟨_, _, NM3.out, T3.out⟩, C3.out⟩
    · have dt : c.to_.toList.isEmpty = false := isEmpty_not ht
      have hd2 : doneC c l = putN (offK c.frm l) (c.to_, c.x) := by rw [hd.out, if_neg ht, if_neg hf]
      have hx2 : xChg φ c = ptrV (φ c.x) := by rw [hx.out, if_neg ht]
      rw [hx2] at e2
      have HD := hid hd2
      obtain ⟨w4, hrun, n4, ch4⟩ := nm_put mN_map mN_key NM3.out (T3.out.keys HR3.out) c.to_ (φ c.x) trivial (fun _ _ => trivial)
      have hrun3 : (Instr.mapUpdate 89 (.map (some mb)) (.string c.to_) (ptrV (φ c.x))).run Try.prog w3 = .ok () w4 := hrun
      have N4 := hid (show NamesAt w4 mb φ (putN (offK c.frm l) (c.to_, c.x)) from ⟨_, _, n4, nmt_put T3.out HR3.out _ _ _⟩)
      have C4 := hid (C3.out.tr ch4)
      clear hd hx hf ht hrun n4 ch4 hd2 hx2
      go_enter Try.func53, Try.ntmps53
      go_wp2_with fail
      go_end0
      exact ⟨rfl, by rw [HD.out]; exact N4.out, C4.out⟩
end Go.Proofs.Ytjekfifnhdoamaa
