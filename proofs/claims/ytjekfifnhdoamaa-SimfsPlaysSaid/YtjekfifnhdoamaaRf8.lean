/- The document's files: one of picks; Damage. -/
import Derived.Test.YtjekfifnhdoamaaRf7
import Derived.Test.YtjekfifnhdoamaaSfA
set_option linter.unusedSimpArgs false
set_option linter.unusedVariables false
set_option linter.unnecessarySimpa false
namespace Go.Proofs.Ytjekfifnhdoamaa
open Go.RowKit Go.Rg Go.St

set_option maxRecDepth 100000 in
set_option maxHeartbeats 1000000 in
theorem rpick_in (v : Value) (l : List Int) (i most : Nat) (w : World) (h : SlI w v l) (hm : most < 4611686018427387904) :
    Calls Try.prog 78 #[v, .int .i64 i, .int .i64 most] w (fun e w' => e = .returned (.int .i64 (pickN l i most)) ∧ w = w') := by
  obtain ⟨a, cap, rfl, hcap, hmx, hc⟩ := h.1.ex
  have hr := h.2
  have wm : IntKind.i64.wrap ((most : Int) + 1) = (most : Int) + 1 := by simp [IntKind.wrap_i64]; omega
  have hp : Hid (pickN l i most = (if l.getD i 0 < 0 then -1 - l.getD i 0 else l.getD i 0).toNat % (most + 1)) := hid rfl
  clear h
  by_cases hi : i < l.length
  · have d1 : decide ((i : Int) < (l.length : Int)) = true := decide_eq_true (by omega)
    obtain ⟨b, off, rfl, hcell⟩ := hc (by omega)
    have hck := hcell i hi
    have hn := hr _ (nth_mem l i hi)
    have e0 : l.getD i 0 = nth l i := by simp [nth, hi]
    rw [e0] at hp
    generalize nth l i = n at *
    clear hc hcell hr e0
    by_cases h0 : n < 0
    · have d2 : decide (n < 0) = true := decide_eq_true h0
      go_enter Try.func78, Try.ntmps78
      go_wp2_with fail
      go_ret
      refine ⟨?_, rfl⟩
      show Ending.returned (.int .i64 ((-1 - n) % ((most : Int) + 1))) = _
      rw [hp.out, if_pos h0]
      congr 2
      rw [Int.natCast_emod]
      congr 1
      omega
    · have d2 : decide (n < 0) = false := decide_eq_false h0
      go_enter Try.func78, Try.ntmps78
      go_wp2_with fail
      go_ret
      refine ⟨?_, rfl⟩
      show Ending.returned (.int .i64 (n % ((most : Int) + 1))) = _
      rw [hp.out, if_neg (by omega)]
      congr 2
      rw [Int.natCast_emod]
      congr 1
      omega
  · have d1 : decide ((i : Int) < (l.length : Int)) = false := decide_eq_false (by omega)
    have e0 : l.getD i 0 = 0 := by simp [List.getElem?_eq_none (by omega : l.length ≤ i)]
    rw [e0] at hp
    clear hc hr e0
    go_enter Try.func78, Try.ntmps78
    go_wp2_with fail
    go_ret
    refine ⟨?_, rfl⟩
    rw [hp.out, if_neg (by decide)]
    show Ending.returned (.int .i64 0) = _
    rw [show (0 : Int).toNat = 0 from rfl, Nat.zero_mod]
    rfl
set_option maxRecDepth 100000 in
set_option maxHeartbeats 4000000 in
theorem rdamage_in (L : RL) (M : FsM) (n : ByteArray) (i : Int) (t : UInt8) (w : World) (h : RefAt w L M) (ok : M.Ok) :
    Calls Try.prog 66 #[ptrV L.rb, .string n, .int .i64 i, .int .u8 t.toNat] w (RPost L M.nf w (.int .i64 (M.damage n i t).1) (M.damage n i t).2) := by
  have hrd : Hid (M.damage n i t = match fndN M.names n with
  | none => ((1 : Int) * 42, M)
  | some k => if i < 0 ∨ ((M.files k).b.length : Int) ≤ i then (1, M) else (0, { M with files := updF M.files k ⟨(M.files k).b.set i.toNat ((M.files k).b.getD i.toNat 0 ^^^ t), (M.files k).last⟩ })) := hid rfl
  have H := hid h
  have OK := hid ok
  have SAME := hid (show RRes L M.nf w M w from ⟨L, rfl, h, Ch.rfl _ _, fun k hk => .inl hk⟩)
  obtain ⟨-, k1, -⟩ := rfc h L.rb rfl
  clear h ok
  go_enter Try.func66, Try.ntmps66
  go_wp2_with fail
  refine (rfind_in _ M.names n w H.out.nam.sl).mono ?_
  rintro e w2 ⟨rfl, ⟨hn, rfl⟩ | ⟨x, hx, hn, hni, rfl⟩⟩
  · have EE := hid (show M.damage n i t = (42, M) by rw [hrd.out, hn]; rfl)
    clear hrd hn
    go_wp2_with fail
    go_ret
    exact RPost.of EE.out rfl SAME.out
  · have hpi := (OK.out.on _ (nth_mem _ x hx)).2
    obtain ⟨b, off, cN, bf, of, cF, aB, cB, F⟩ := H.out.found L.rb rfl hx hpi
    obtain ⟨f0, f1, f2, f3, f4, f5, f6, fc, fv, fm⟩ := id F
    have hrd2 : Hid (M.damage n i t = if i < 0 ∨ ((M.files (nth M.names x).2).b.length : Int) ≤ i then (1, M) else (0, { M with files := updF M.files (nth M.names x).2 ⟨(M.files (nth M.names x).2).b.set i.toNat ((M.files (nth M.names x).2).b.getD i.toNat 0 ^^^ t), (M.files (nth M.names x).2).last⟩ })) := hid (by rw [hrd.out, hn])
    have hx0 : ¬ ((x : Int) < 0) := by omega
    have hx2 : x < M.names.length := hx
    have hpi2 : (nth M.names x).2 < M.nf := hpi
    have hbl := (OK.out.fl (nth M.names x).2).2
    have FIN := hid (fun (bs : List UInt8) (v : Value) (w' : World) (hx : Ext w w') (hv : w'.ownsRow w.heap.size 5 1 v bs.length (Lib.byteCells bs)) => RefAt.setBytes H.out hpi fc hx hv)
    have SBF := hid (fun w' (hx : Ext w w') => SlB.go (show SlB w (.slice aB (M.files (nth M.names x).2).b.length cB) (M.files (nth M.names x).2).b by rw [← fv]; exact owns_slB (H.out.byt _ hpi)) hx)
    have FX := hid (fun w' (hx : Ext w w') => And.intro (ext_cell hx f0) (And.intro (ext_cell hx f4) (fc.ext hx).f))
    clear hrd hn hni F fc fv fm hx hpi k1
    generalize (M.files (nth M.names x).2).b = fb at *
    generalize (nth M.names x).2 = p at *
    by_cases hb : i < 0 ∨ (fb.length : Int) ≤ i
    · have EE := hid (show M.damage n i t = (1, M) by rw [hrd2.out]; exact if_pos hb)
      clear hrd2
      by_cases h1 : i < 0
      · have d1 : decide (i < 0) = true := decide_eq_true h1
        clear hb h1
        go_wp2_with fail
        go_ret
        exact RPost.of EE.out rfl SAME.out
      · have d1 : decide (i < 0) = false := decide_eq_false h1
        have d2 : decide ((fb.length : Int) ≤ i) = true := decide_eq_true (by omega)
        clear hb h1
        go_wp2_with fail
        go_ret
        exact RPost.of EE.out rfl SAME.out
    · obtain ⟨j, rfl⟩ : ∃ j : Nat, i = j := ⟨i.toNat, by omega⟩
      have hj : j < fb.length := by omega
      have EE := hid (show M.damage n (j : Int) t = (0, { M with files := updF M.files p ⟨fb.set j (fb.getD j 0 ^^^ t), (M.files p).last⟩ }) by rw [hrd2.out]; exact if_neg hb)
      have d1 : decide ((j : Int) < 0) = false := decide_eq_false (by omega)
      have d2 : decide ((fb.length : Int) ≤ (j : Int)) = false := decide_eq_false (by omega)
      have d3 : ¬ fb.length ≤ j := by omega
      have hj0 : ¬ (j : Int) < 0 := by omega
      obtain ⟨v4, w4, hap, hp4⟩ := app_bytes (xs := []) (own_new0 w _ _) (SBF.out _ ((Ext.rfl w).al (.cells #[] 5))) (by simp; omega) 53
      obtain ⟨a4, c4, rfl, _⟩ := slice_ofG hp4.own
      have X4 := hid (app_ext ((Ext.rfl w).al (.cells #[] 5)) hp4 (fun k hk => by cases hk; exact Nat.le_refl _))
      have HAP := hid hap
      have hown : w4.ownsRow w.heap.size 5 1 (.slice a4 fb.length c4) fb.length (Lib.byteCells fb) := owns_up hp4.own X4.out.2
      obtain ⟨x0, x1, xf⟩ := FX.out w4 X4.out.1
      rcases hown.2 with ⟨hv, hl⟩ | ⟨g, cap, cur, hv, hlo, hg, hnc, hcm, hcs, htk⟩
      · omega
      · simp only [Value.slice.injEq] at hv
        obtain ⟨rfl, _, rfl⟩ := hv
        have y0 : w4.cell? ⟨g, j, none⟩ = some (.int .u8 (nth fb j).toNat) := by
          have hs := owns_srcG hown j (.int .u8 (nth fb j).toNat) (by rw [bc_nth, if_pos hj])
          rw [Addr.add_lit, Nat.zero_add] at hs
          exact hs
        have yf : ∀ o, w4.frozen? ⟨g, o, none⟩ = false := fun o => frozen_of_row _ _ _ _ _ hg
        have HO := hid hown
        have HJ := hid hj
        have HLO := hid hlo
        have HG := hid hg
        have hq0 : L.rb < w.heap.size := cell_lt f0
        have hq1 : w.heap.size ≠ L.rb := Nat.ne_of_gt hq0
        have hq2 : bf < w.heap.size := cell_lt f4
        have hq3 : w.heap.size ≠ bf := Nat.ne_of_gt hq2
        have hgb : g ≠ bf := by omega
        have hgr : g ≠ L.rb := by omega
        clear hown hg hnc hcm hcs htk hp4 hap hb hrd2 hlo
        go_wp2_with (at_builtin; refine wpList_app_eq rfl rfl HAP.out ?_)
        go_ret
        have ev : (Value.int IntKind.u8 (bits .xor .u8 ((nth fb j).toNat : Int) (t.toNat : Int))) = .int .u8 ((fb.getD j 0 ^^^ t).toNat : Nat) := by
          rw [bits_xor8]
          rfl
        rw [ev]
        refine RPost.of EE.out rfl (FIN.out (fb.set j (fb.getD j 0 ^^^ t)) _ _ (((Ch.of_ext (F := fun k => k = g) X4.out.1).setC rfl).ext fun k hk hf => by have := HLO.out; omega) ?_)
        have hb := owns_setB (x := fb.getD j 0 ^^^ t) (owns_base HO.out (Nat.zero_le _)) HJ.out
        rw [List.length_set]
        exact owns_up hb fun k hk => by cases hk; exact HLO.out
end Go.Proofs.Ytjekfifnhdoamaa
