/- Files that a crash cuts: Read, Append. -/
import Derived.Test.YtjekfifnhdoamaaSf5
set_option linter.unusedSimpArgs false
set_option linter.unusedVariables false
set_option linter.unnecessarySimpa false
namespace Go.Proofs.Ytjekfifnhdoamaa
open Go.RowKit Go.Rg Go.St

theorem bytE : ElT Try.prog 53 5 1 1 := ⟨by kernel_rfl, by kernel_rfl, by decide, by decide⟩
theorem bc_len (l : List UInt8) : (Lib.byteCells l).length = l.length * 1 := by unfold Lib.byteCells; simp
theorem bc_one (l : List UInt8) : ∀ v ∈ Lib.byteCells l, v.oneCell' = true := by
  intro v hv
  unfold Lib.byteCells at hv
  obtain ⟨x, _, rfl⟩ := List.mem_map.1 hv
  rfl
theorem byt_info : ∃ i, Try.prog.info? 5 = some i ∧ i.zero = some (.int .u8 0) ∧ i.size = 1 ∧ i.bytes = 1 := by
  have h1 : (Try.prog.info? 5).map (fun i => (i.zero, i.size, i.bytes)) = some (some (.int .u8 0), 1, 1) := by kernel_rfl
  cases hq : Try.prog.info? 5 with
  | none => rw [hq] at h1; cases h1
  | some i =>
    rw [hq] at h1
    simp at h1
    exact ⟨i, rfl, h1⟩
theorem extG_none {w w' : World} (hg : w.grownBy w' none) : Ext w w' := ⟨hg.os, hg.tape, hg.output, hg.size, fun k hk => hg.block k hk (fun e => by cases e)⟩
/-- bytes in a block of the call's own -/
def BytesNew (w : World) (l : List UInt8) (v : Value) (w' : World) : Prop := w'.ownsRow w.heap.size 5 1 v l.length (Lib.byteCells l) ∧ Ext w w'
def ReadPost (M : FsM) (n : ByteArray) (w : World) (e : Ending) (w' : World) : Prop := ∃ v, e = .returned (.tuple #[v, .int .i64 (M.read n).2]) ∧ BytesNew w (M.read n).1 v w'
set_option maxRecDepth 100000 in
set_option maxHeartbeats 4000000 in
theorem fsRead_in (L : FL) (M : FsM) (n : ByteArray) (w : World) (h : FsAt w L M) (ok : M.Ok) :
    Calls Try.prog 29 #[ptrV L.fb, .string n] w (ReadPost M n w) := by
  have hrd : Hid (M.read n = if M.fuse = 0 then (([], 44) : List UInt8 × Int) else
    match fndN M.names n with
    | none => ([], 42)
    | some i => ((M.files i).b, 0)) := hid rfl
  obtain ⟨c0, _, _, _, _, c5, _, ff⟩ := fs_cells h.row
  have hlk := h.now.look ok.rn n
  have H := hid h
  have OK := hid ok
  clear h ok
  by_cases h0 : M.fuse = 0
  · have d0 : (M.fuse == 0) = true := by rw [h0]; rfl
    have e1 : M.read n = ([], 44) := by rw [hrd.out, if_pos h0]
    have EE := hid e1
    clear h0 hrd e1
    go_enter Try.func29, Try.ntmps29
    go_wp2_with fail
    go_ret2
    exact ⟨_, by rw [EE.out]; rfl, by rw [EE.out]; exact World.ownsRow_nil _ _ _ _, Ext.rfl _⟩
  · have d0 : (M.fuse == 0) = false := by rw [beq_eq_false_iff_ne]; exact h0
    cases hq : fndN M.names n with
    | none =>
      have e1 : M.read n = ([], 42) := by rw [hrd.out, if_neg h0, hq]
      have EE := hid e1
      rw [hq] at hlk
      simp only [Option.map_none, Option.elim_none] at hlk
      clear h0 hrd e1 hq
      go_enter Try.func29, Try.ntmps29
      go_wp2_with fail
      go_ret2
      exact ⟨_, by rw [EE.out]; rfl, by rw [EE.out]; exact World.ownsRow_nil _ _ _ _, Ext.rfl _⟩
    | some i =>
      have e1 : M.read n = ((M.files i).b, 0) := by rw [hrd.out, if_neg h0, hq]
      have EE := hid e1
      rw [hq] at hlk
      simp only [Option.map_some, Option.elim_some] at hlk
      have hri := H.out.ref i (.inl ⟨_, fndN_mem hq, rfl⟩)
      have hfi := H.out.fil i hri
      have hlen := hid (OK.out.fl i).2
      obtain ⟨k0, k1, kf⟩ := file_cellsG hfi
      obtain ⟨bi, hbi, hbz, hbs, hbb⟩ := byt_info
      have HBI := hid hbi
      have HBZ := hid hbz
      have HBS := hid hbs
      have HBB := hid hbb
      clear h0 hrd e1 hq hri hbi hbz hbs hbb
      rcases hfi.2.2 with ⟨hv, hl⟩ | ⟨g, cap, cur, hv, hx⟩
      · rw [hv] at k0
        have HL := hid (List.length_eq_zero_iff.1 hl)
        clear hfi hv
        go_enter Try.func29, Try.ntmps29
        go_wp2_with (first | (at_make; refine wpList_make_full _ rfl _ _ 53 rfl w.heap.size 5 bi _ 1 bytE.und HBI.out HBZ.out HBS.out _ _ _ _ 0 rfl rfl rfl rfl (by rw [HBB.out]; have := hlen.out; omega) (by have := hlen.out; unfold maxLen; omega) (Nat.le_refl _) ?_; intro w8 hown8 hg8; have M2 := hid (extG_none hg8); have M3 := hid hown8; clear hown8 hg8; have hcpn := fun (ty : TypeId) => run_copy_nil (P := Try.prog) w8 53 53 ty 5 ⟨w.heap.size, 0, none⟩ 0 0 bytE.und (by kernel_rfl)))
        go_ret2
        refine ⟨_, by rw [EE.out]; rfl, ?_, M2.out⟩
        rw [EE.out]
        show World.ownsRow _ _ _ 1 _ (M.files i).b.length (Lib.byteCells (M.files i).b)
        rw [HL.out]
        have e := List.length_eq_zero_iff.1 (M3.out.1.trans (Nat.zero_mul 1))
        have h := M3.out
        rw [e] at h
        exact h
      · have hown : w.ownsRow 0 5 1 (.slice (some ⟨g, 0, none⟩) (M.files i).b.length cap) (M.files i).b.length (Lib.byteCells (M.files i).b) := by rw [← hv]; exact hfi.2
        rw [hv] at k0
        have HO := hid hown
        clear hfi hv hown hx
        go_enter Try.func29, Try.ntmps29
        go_wp2_with (first | (at_make; refine wpList_make_full _ rfl _ _ 53 rfl w.heap.size 5 bi _ 1 bytE.und HBI.out HBZ.out HBS.out _ _ _ _ (M.files i).b.length rfl rfl rfl rfl (by rw [HBB.out]; have := hlen.out; omega) (by have := hlen.out; unfold maxLen; omega) (Nat.le_refl _) ?_; intro w8 hown8 hg8; obtain ⟨cur8, hc8, hs8, _⟩ := owns_atG hown8; have M2 := hid (extG_none hg8); have M3 := hid hc8; have M4 := hid hs8; clear hown8 hg8 hc8 hs8) | (refine wpList_copyG rfl (.tmp 37) (.tmp 38) 53 53 rfl 5 1 bytE.und (by kernel_rfl) w.heap.size (M.files i).b.length (M.files i).b.length ⟨g, 0, none⟩ (M.files i).b.length cap rfl rfl cur8 5 M3.out (Lib.byteCells (M.files i).b) (M.files i).b.length (Nat.min_self _).symm (bc_len _) (owns_srcG (owns_ext HO.out M2.out)) (by rw [bc_len, M4.out]; exact Nat.le_refl _) (bc_one _) ?_))
        go_ret2
        have hcp := copy_ownsG (base := w.heap.size) (Nat.le_refl _) M3.out (bc_len (M.files i).b) M4.out (by have := hlen.out; unfold maxLen; omega)
        refine ⟨_, by rw [EE.out]; rfl, ?_, ((Ch.of_ext (F := fun k => k = w.heap.size) M2.out).tr hcp.2).ext fun k hk e => by omega⟩
        rw [EE.out]
        exact hcp.1
end Go.Proofs.Ytjekfifnhdoamaa
