/- Files that a crash cuts: Damage; one of picks. -/
import Derived.Test.YtjekfifnhdoamaaSf8
set_option linter.unusedSimpArgs false
set_option linter.unusedVariables false
set_option linter.unnecessarySimpa false
namespace Go.Proofs.Ytjekfifnhdoamaa
open Go.RowKit Go.Rg Go.St

theorem bc_set (l : List UInt8) (i : Nat) (x : UInt8) : Lib.byteCells (l.set i x) = (Lib.byteCells l).set i (.int .u8 x.toNat) := by
  unfold Lib.byteCells
  rw [List.map_set]
theorem owns_setB {w : World} {g n cap i : Nat} {l : List UInt8} {x : UInt8} (h : w.ownsRow 0 5 1 (.slice (some ⟨g, 0, none⟩) n cap) n (Lib.byteCells l)) (hi : i < n) :
    (w.setCell ⟨g, i, none⟩ (.int .u8 x.toNat)).ownsRow 0 5 1 (.slice (some ⟨g, 0, none⟩) n cap) n (Lib.byteCells (l.set i x)) := by
  obtain ⟨cur, hg, hcs, htk, _, hn, hm⟩ := owns_atG h
  refine ⟨by rw [bc_set, List.length_set]; exact h.1, .inr ⟨g, cap, _, rfl, Nat.zero_le _, heap_setCell_same _ _ _ _ _ _ hg, hn, hm, by simpa using hcs, ?_⟩⟩
  rw [bc_set, ← htk, Array.toList_setIfInBounds, List.take_set]
theorem bits_xor8 (x t : UInt8) : bits .xor .u8 (x.toNat : Int) (t.toNat : Int) = ((x ^^^ t).toNat : Int) := by
  have hx := x.toNat_lt
  have ht := t.toNat_lt
  have e : (BitVec.ofInt 8 (x.toNat : Int) ^^^ BitVec.ofInt 8 (t.toNat : Int)).toNat = (x ^^^ t).toNat := by
    rw [BitVec.toNat_xor, BitVec.ofInt_natCast, BitVec.ofInt_natCast, BitVec.toNat_ofNat, BitVec.toNat_ofNat, Nat.mod_eq_of_lt hx, Nat.mod_eq_of_lt ht, UInt8.toNat_xor]
  show IntKind.u8.wrap ((BitVec.ofInt 8 (x.toNat : Int) ^^^ BitVec.ofInt 8 (t.toNat : Int)).toNat : Int) = _
  rw [e]
  have hy := (x ^^^ t).toNat_lt
  have e2 : ∀ n : Int, IntKind.u8.wrap n = n % 256 := fun n => by simp [IntKind.wrap, IntKind.bits, IntKind.signed]
  rw [e2]
  omega
set_option maxRecDepth 100000 in
set_option maxHeartbeats 4000000 in
theorem fsDamage_in (L : FL) (M : FsM) (n : ByteArray) (i : Int) (t : UInt8) (w : World) (h : FsAt w L M) (ok : M.Ok) :
    Calls Try.prog 43 #[ptrV L.fb, .string n, .int .i64 i, .int .u8 t.toNat] w (FsPost L w (.int .i64 (M.damage n i t).1) (M.damage n i t).2) := by
  have hrd : Hid (M.damage n i t = match fndN M.names n with
  | none => ((1 : Int) * 42, M)
  | some k => if i < 0 ∨ ((M.files k).b.length : Int) ≤ i then (1, M) else (0, { M with files := updF M.files k ⟨(M.files k).b.set i.toNat ((M.files k).b.getD i.toNat 0 ^^^ t), (M.files k).last⟩ })) := hid rfl
  obtain ⟨c0, _, _, _, _, _, _, ff⟩ := fs_cells h.row
  have hlk := h.now.look ok.rn n
  have H := hid h
  clear h ok
  cases hq : fndN M.names n with
  | none =>
    have EE := hid (show M.damage n i t = (42, M) by rw [hrd.out, hq]; rfl)
    rw [hq] at hlk
    simp only [Option.map_none, Option.elim_none] at hlk
    clear hrd hq
    go_enter Try.func43, Try.ntmps43
    go_wp2_with fail
    go_ret
    exact FsPost.of EE.out rfl (FsRes.same H.out (ch0 L.fb w))
  | some k =>
    rw [hq] at hlk
    simp only [Option.map_some, Option.elim_some] at hlk
    have hri := hid (H.out.ref k (.inl ⟨_, fndN_mem hq, rfl⟩))
    have hfi := H.out.fil k hri.out
    obtain ⟨k0, k1, kf⟩ := file_cellsG hfi
    by_cases hb : i < 0 ∨ ((M.files k).b.length : Int) ≤ i
    · have EE := hid (show M.damage n i t = (1, M) by rw [hrd.out, hq]; exact if_pos hb)
      obtain ⟨a1, cap1, hv, _⟩ := slice_ofG hfi.2
      rw [hv] at k0
      clear hrd hq hfi hv
      by_cases h1 : i < 0
      · have d1 : decide (i < 0) = true := decide_eq_true h1
        clear hb h1
        go_enter Try.func43, Try.ntmps43
        go_wp2_with fail
        go_ret
        exact FsPost.of EE.out rfl (FsRes.same H.out (ch0 L.fb w))
      · have d1 : decide (i < 0) = false := decide_eq_false h1
        have d2 : decide (((M.files k).b.length : Int) ≤ i) = true := decide_eq_true (by omega)
        clear hb h1
        go_enter Try.func43, Try.ntmps43
        go_wp2_with fail
        go_ret
        exact FsPost.of EE.out rfl (FsRes.same H.out (ch0 L.fb w))
    · obtain ⟨j, rfl⟩ : ∃ j : Nat, i = j := ⟨i.toNat, by omega⟩
      have hj : j < (M.files k).b.length := by omega
      have EE := hid (show M.damage n (j : Int) t = (0, { M with files := updF M.files k ⟨(M.files k).b.set j ((M.files k).b.getD j 0 ^^^ t), (M.files k).last⟩ }) by rw [hrd.out, hq]; exact if_neg hb)
      have d1 : decide ((j : Int) < 0) = false := decide_eq_false (by omega)
      have d2 : decide (((M.files k).b.length : Int) ≤ (j : Int)) = false := decide_eq_false (by omega)
      rcases hfi.2.2 with ⟨hv, hl⟩ | ⟨g, cap, cur, hv, _, hg, hnc, hcm, hcs, htk⟩
      · omega
      · have hown : w.ownsRow 0 5 1 (.slice (some ⟨g, 0, none⟩) (M.files k).b.length cap) (M.files k).b.length (Lib.byteCells (M.files k).b) := by rw [← hv]; exact hfi.2
        rw [hv] at k0
        have x0 : w.cell? ⟨g, j, none⟩ = some (.int .u8 (nth (M.files k).b j).toNat) := by
          have hs := owns_srcG hown j (.int .u8 (nth (M.files k).b j).toNat) (by rw [bc_nth, if_pos hj])
          rw [Addr.add_lit, Nat.zero_add] at hs
          exact hs
        have xf : ∀ o, w.frozen? ⟨g, o, none⟩ = false := fun o => frozen_of_row _ _ _ _ _ hg
        have HV := hid hv
        have HF := hid hfi
        have HO := hid hown
        have HJ := hid hj
        clear hrd hq hfi hv hown hg hnc hcm hcs htk hb
        go_enter Try.func43, Try.ntmps43
        go_wp2_with fail
        go_ret
        refine FsPost.of EE.out rfl ?_
        have ev : (Value.int IntKind.u8 (bits .xor .u8 ((nth (M.files k).b j).toNat : Int) (t.toNat : Int))) = .int .u8 (((M.files k).b.getD j 0 ^^^ t).toNat : Nat) := by
          rw [bits_xor8]
          rfl
        rw [ev]
        refine H.out.file_res hri.out (v := L.bv k) ((Ch.rfl (FileF L k) w).setC (.inr (by rw [HV.out]; rfl))) ⟨(heap_setCell_other _ _ _ _ ?_).trans HF.out.1, ?_⟩ (fun q hq => .inl hq)
        · exact fun e => own_neG HF.out.2 HF.out.1 (by simp) (by rw [HV.out, e]; rfl)
        · rw [HV.out, List.length_set]
          exact owns_setB HO.out HJ.out
end Go.Proofs.Ytjekfifnhdoamaa
