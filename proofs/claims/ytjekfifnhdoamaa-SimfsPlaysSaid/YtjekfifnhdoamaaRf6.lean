/- The document's files: Append, Read, List, Damage. -/
import Derived.Test.YtjekfifnhdoamaaRf5
import Derived.Test.YtjekfifnhdoamaaSfB
import Derived.BigRegion
set_option linter.unusedSimpArgs false
set_option linter.unusedVariables false
set_option linter.unnecessarySimpa false
namespace Go.Proofs.Ytjekfifnhdoamaa
open Go.RowKit Go.Rg Go.St

/-- the box of the document's files holds no bytes -/
theorem SlB.rbox {w w' : World} {L : RL} {M : FsM} {v : Value} {bs : List UInt8} (h : SlB w v bs) (hr : RefAt w L M) (hc : Ch (fun k => k = L.rb) w w') : SlB w' v bs := by
  obtain ⟨a, cap, e, h0, h1, h2⟩ := h.ex
  refine ⟨a, cap, e, h0, h1, fun hn => ?_⟩
  obtain ⟨b, off, e2, hcell⟩ := h2 hn
  refine ⟨b, off, e2, fun i hi => ?_⟩
  have hci := hcell i hi
  have hb : b ≠ L.rb := fun e => by
    rw [e, cell_of_row _ _ _ _ _ _ hr.row] at hci
    unfold rfC at hci
    obtain ⟨_, _, hv0, _⟩ := slice_ofG hr.fil
    obtain ⟨_, _, hv1, _⟩ := slice_ofG hr.nam
    obtain ⟨_, _, hv2, _⟩ := slice_ofG hr.las
    obtain ⟨_, _, hv3, _⟩ := slice_ofG hr.sin
    rw [hv0, hv1, hv2, hv3] at hci
    have hlt := (Array.getElem?_eq_some_iff.1 hci).1
    have : off + i < 10 := hlt
    obtain h | h | h | h | h | h | h | h | h | h : off + i = 0 ∨ off + i = 1 ∨ off + i = 2 ∨ off + i = 3 ∨ off + i = 4 ∨ off + i = 5 ∨ off + i = 6 ∨ off + i = 7 ∨ off + i = 8 ∨ off + i = 9 := by omega
    all_goals
      rw [h] at hci
      simp at hci
  have hbl := cell_lt hci
  exact (World.cell?_of_block (a := ⟨b, off + i, none⟩) (hc.block b hbl hb)).trans hci
/-- what is read of a file that is there -/
structure Found (w : World) (rb : Nat) (L : RL) (M : FsM) (i b off cN bf of cF : Nat) (aB : Option Addr) (cB : Nat) : Prop where
  k0 : w.cell? ⟨rb, 0, none⟩ = some (.slice (some ⟨bf, of, none⟩) M.nf cF)
  k1 : w.cell? ⟨rb, 1, none⟩ = some (.slice (some ⟨b, off, none⟩) M.names.length cN)
  q0 : w.cell? ⟨b, off + i * 2, none⟩ = some (.string (nth M.names i).1)
  q1 : w.cell? ⟨b, off + i * 2 + 1, none⟩ = some (.int .i64 ((nth M.names i).2 : Nat))
  r0 : w.cell? ⟨bf, of + (nth M.names i).2 * 2, none⟩ = some (.slice aB (M.files (nth M.names i).2).b.length cB)
  r1 : w.cell? ⟨bf, of + (nth M.names i).2 * 2 + 1, none⟩ = some (.int .i64 ((M.files (nth M.names i).2).last : Nat))
  fr : ∀ j, w.frozen? ⟨bf, j, none⟩ = false
  fc : FCell w L M (nth M.names i).2 bf of cF
  vb : L.vb (nth M.names i).2 = .slice aB (M.files (nth M.names i).2).b.length cB
  mb : (M.files (nth M.names i).2).b.length ≤ maxLen
theorem RefAt.found {w : World} {L : RL} {M : FsM} (H : RefAt w L M) (rb : Nat) (hb : L.rb = rb) {i : Nat} (hi : i < M.names.length) (hp : (nth M.names i).2 < M.nf) : ∃ b off cN bf of cF aB cB, Found w rb L M i b off cN bf of cF aB cB := by
  obtain ⟨k0, k1, -⟩ := rfc H rb hb
  obtain ⟨aN, cN, hvn, hcN, hmN, hcell0⟩ := H.nam.sl.ex
  obtain ⟨b, off, rfl, hcell⟩ := hcell0 (by omega)
  obtain ⟨q0, q1⟩ := at2 (hcell i hi) rfl
  obtain ⟨bf, of, cF, hfc⟩ := H.fcell hp
  obtain ⟨aB, cB, hvb, hmB⟩ := slice_ofG (H.byt _ hp)
  exact ⟨b, off, cN, bf, of, cF, aB, cB, k0.trans (congrArg some hfc.v), k1.trans (congrArg some hvn), q0, q1, hfc.c0.trans (congrArg some hvb), hfc.c1, hfc.f, hfc, hvb, hmB⟩
def ReadR (M : FsM) (n : ByteArray) (w : World) (e : Ending) (w' : World) : Prop := ∃ v, e = .returned (.tuple #[v, .int .i64 (M.read n).2]) ∧ SlB w' v (M.read n).1 ∧ Ext w w'
set_option maxRecDepth 100000 in
set_option maxHeartbeats 4000000 in
theorem rread_in (L : RL) (M : FsM) (n : ByteArray) (w : World) (h : RefAt w L M) (ok : M.Ok) :
    Calls Try.prog 63 #[ptrV L.rb, .string n] w (ReadR M n w) := by
  have H := hid h
  have OK := hid ok
  have hcr : Hid (M.read n = if M.fuse = 0 then (([], 44) : List UInt8 × Int) else match fndN M.names n with | none => ([], 42) | some i => ((M.files i).b, 0)) := hid rfl
  obtain ⟨-, k1, -, -, -, k5, k6, -, -, -, kf⟩ := rfc h L.rb rfl
  have hfu := h.fu
  have hm1 := ok.fu.1
  clear h ok
  by_cases h0 : M.fuse = 0
  · have d5 : decide (0 ≤ M.fuse) = true := decide_eq_true (by omega)
    have d6 : (L.fu == 0) = true := by have := hfu (by omega); rw [this, h0]; rfl
    rw [d5] at k5
    have e1 : M.read n = ([], 44) := by rw [hcr.out, if_pos h0]
    have EE := hid e1
    clear hcr e1 h0 hfu hm1 d5
    go_enter Try.func63, Try.ntmps63
    go_wp2_with fail
    go_ret2
    exact ⟨.slice none 0 0, by rw [EE.out]; rfl, by rw [EE.out]; exact Sl1.nil w _, Ext.rfl w⟩
  · have hcr2 : Hid (M.read n = match fndN M.names n with | none => (([], 42) : List UInt8 × Int) | some i => ((M.files i).b, 0)) := hid (by rw [hcr.out, if_neg h0])
    have hcall : Hid (∀ w', Ext w w' → True) := hid fun _ _ => trivial
    obtain ⟨x5, hx5⟩ : ∃ x, x = decide (0 ≤ M.fuse) := ⟨_, rfl⟩
    rw [← hx5] at k5
    have d6 : x5 = true → (L.fu == 0) = false := fun hx => by
      have h1 : 0 ≤ M.fuse := of_decide_eq_true (by rw [← hx5]; exact hx)
      rw [beq_eq_false_iff_ne, hfu h1]; exact h0
    clear hcr h0 hfu hm1 hx5 hcall
    go_enter Try.func63, Try.ntmps63
    cases x5
    · clear d6
      go_wp2_with fail
      refine (rfind_in _ M.names n w H.out.nam.sl).mono ?_
      rintro e w2 ⟨rfl, ⟨hn, rfl⟩ | ⟨i, hi, hn, hni, rfl⟩⟩
      · have e1 : M.read n = ([], 42) := by rw [hcr2.out, hn]
        have EE := hid e1
        clear hcr2 e1 hn
        go_wp2_with fail
        go_ret2
        exact ⟨.slice none 0 0, by rw [EE.out]; rfl, by rw [EE.out]; exact Sl1.nil w _, Ext.rfl w⟩
      · have e1 : M.read n = ((M.files (nth M.names i).2).b, 0) := by rw [hcr2.out, hn]
        have EE := hid e1
        have hi0 : ¬ ((i : Int) < 0) := by omega
        have hpi := (OK.out.on _ (nth_mem _ i hi)).2
        obtain ⟨b, off, cN, bf, of, cF, aB, cB, F⟩ := H.out.found L.rb rfl hi hpi
        obtain ⟨f0, f1, f2, f3, f4, f5, f6, -, f7, -⟩ := id F
        have HV := hid (show SlB w (.slice aB (M.files (nth M.names i).2).b.length cB) (M.files (nth M.names i).2).b by rw [← f7]; exact owns_slB (H.out.byt _ hpi))
        clear hcr2 e1 hn hni F f7 k1 kf
        generalize (M.files (nth M.names i).2).b = bs at *
        generalize (nth M.names i).2 = p at *
        go_wp2_with fail
        go_quiet (fail)
        go_wp2_with fail
        go_ret2
        exact ⟨_, by rw [EE.out]; rfl, by rw [EE.out]; exact HV.out.go ((Ext.rfl w).drN _), (Ext.rfl w).drN _⟩
    · have d6' := d6 rfl
      clear d6
      go_wp2_with fail
      refine (rfind_in _ M.names n w H.out.nam.sl).mono ?_
      rintro e w2 ⟨rfl, ⟨hn, rfl⟩ | ⟨i, hi, hn, hni, rfl⟩⟩
      · have e1 : M.read n = ([], 42) := by rw [hcr2.out, hn]
        have EE := hid e1
        clear hcr2 e1 hn
        go_wp2_with fail
        go_ret2
        exact ⟨.slice none 0 0, by rw [EE.out]; rfl, by rw [EE.out]; exact Sl1.nil w _, Ext.rfl w⟩
      · have e1 : M.read n = ((M.files (nth M.names i).2).b, 0) := by rw [hcr2.out, hn]
        have EE := hid e1
        have hi0 : ¬ ((i : Int) < 0) := by omega
        have hpi := (OK.out.on _ (nth_mem _ i hi)).2
        obtain ⟨b, off, cN, bf, of, cF, aB, cB, F⟩ := H.out.found L.rb rfl hi hpi
        obtain ⟨f0, f1, f2, f3, f4, f5, f6, -, f7, -⟩ := id F
        have HV := hid (show SlB w (.slice aB (M.files (nth M.names i).2).b.length cB) (M.files (nth M.names i).2).b by rw [← f7]; exact owns_slB (H.out.byt _ hpi))
        clear hcr2 e1 hn hni F f7 k1 kf
        generalize (M.files (nth M.names i).2).b = bs at *
        generalize (nth M.names i).2 = p at *
        go_wp2_with fail
        go_quiet (fail)
        go_wp2_with fail
        go_ret2
        exact ⟨_, by rw [EE.out]; rfl, by rw [EE.out]; exact HV.out.go ((Ext.rfl w).drN _), (Ext.rfl w).drN _⟩

theorem el_strR : ElT Try.prog 62 9 1 16 := ⟨Try.underlying62, by kernel_rfl, by decide, by decide⟩
def ListR (M : FsM) (w : World) (e : Ending) (w' : World) : Prop := ∃ v, e = .returned (.tuple #[v, .int .i64 M.list.2]) ∧ w'.ownsRow 0 9 1 v M.list.1.length (M.list.1.map Value.string) ∧ Ext w w'
theorem one_strR (b : ByteArray) : ∀ u ∈ [Value.string b], u.oneCell' = true := by
  intro u hu
  simp at hu
  subst hu
  rfl
set_option maxRecDepth 100000 in
set_option maxHeartbeats 4000000 in
theorem rlist_in (L : RL) (M : FsM) (w : World) (h : RefAt w L M) (ok : M.Ok) (ho : M.ops ≤ OpsMax) :
    Calls Try.prog 68 #[ptrV L.rb] w (ListR M w) := by
  have H := hid h
  have hcr : Hid (M.list = if M.fuse = 0 then (([], 44) : List ByteArray × Int) else (M.names.map (·.1), 0)) := hid rfl
  obtain ⟨-, k1, -, -, -, k5, k6, -, -, -, kf⟩ := rfc h L.rb rfl
  have hfu := h.fu
  have hm1 := ok.fu.1
  have hln : M.names.length ≤ 1000000000000 := by have := ok.ln; unfold OpsMax at ho; omega
  clear h ok ho
  by_cases h0 : M.fuse = 0
  · have d5 : decide (0 ≤ M.fuse) = true := decide_eq_true (by omega)
    have d6 : (L.fu == 0) = true := by have := hfu (by omega); rw [this, h0]; rfl
    rw [d5] at k5
    have e1 : M.list = ([], 44) := by rw [hcr.out, if_pos h0]
    have EE := hid e1
    clear hcr e1 h0 hfu hm1 d5
    go_enter Try.func68, Try.ntmps68
    go_wp2_with fail
    go_ret2
    exact ⟨.slice none 0 0, by rw [EE.out]; rfl, by rw [EE.out]; exact World.ownsRow_nil _ _ _ _, Ext.rfl w⟩
  · have e1 : M.list = (M.names.map (·.1), 0) := by rw [hcr.out, if_neg h0]
    have EE := hid e1
    obtain ⟨x5, hx5⟩ : ∃ x, x = decide (0 ≤ M.fuse) := ⟨_, rfl⟩
    rw [← hx5] at k5
    have d6 : x5 = true → (L.fu == 0) = false := fun hx => by
      have h1 : 0 ≤ M.fuse := of_decide_eq_true (by rw [← hx5]; exact hx)
      rw [beq_eq_false_iff_ne, hfu h1]; exact h0
    clear hcr h0 hfu hm1 hx5 e1 kf
    have HC1 := hid (fun w' (he : Ext w w') => ext_cell he k1)
    obtain ⟨aN, cN, hvn, hcN, hmN, hcell⟩ := H.out.nam.sl.ex
    have HCELL := hid (fun w' (he : Ext w w') (hn : 0 < M.names.length) => show ∃ b off, aN = some ⟨b, off, none⟩ ∧ ∀ i, i < M.names.length → w'.cell? ⟨b, off + i * 2, none⟩ = some (.string (nth M.names i).1) from by
      obtain ⟨b, off, e, hc⟩ := hcell hn
      exact ⟨b, off, e, fun i hi => ext_cell he (at2 (hc i hi) rfl).1⟩)
    have HVN := hid hvn
    clear hvn hcell k1
    go_enter Try.func68, Try.ntmps68
    cases x5
    · clear d6
      go_wp2_with fail
      clear k5 k6
      go_loopw [4, 5] (fun o t wr => ∃ j : Nat, j ≤ M.names.length ∧ t = .int .i64 j ∧ Ext w wr ∧ wr.ownsRow w.heap.size 9 1 o j ((M.names.take j).map fun p => Value.string p.1)) (fun _ t _ => M.names.length - (intOf t).toNat)
      case atStart => exact ⟨0, Nat.zero_le _, rfl, Ext.rfl _, World.ownsRow_nil _ _ _ _⟩
      case round =>
        obtain ⟨j, hj, rfl, he, hown⟩ := hrel
        have HE := hid he
        have HO := hid hown
        have k1 := HC1.out wr he
        rw [HVN.out] at k1
        clear he hown
        by_cases hlt : j < M.names.length
        · obtain ⟨b, off, rfl, hc⟩ := HCELL.out wr HE.out (by omega)
          have c0 := hc j hlt
          have HTS := hid (take_succ_nth M.names j hlt)
          clear hc
          obtain ⟨ao, co, rfl, _⟩ := slice_ofG HO.out
          go_wp2_with (at_builtin; refine wpList_app el_strR rfl (owns_ext HO.out ((Ext.rfl wr).al _)) rfl rfl (news_atG wr #[.string (nth M.names j).1] _) (one_strR _) (by omega) (HE.out.al _).size ?_; intro v' w4 hown4 hg4 hb4; have O4 := hid hown4; have E4 := hid (Below.trans (HE.out.al _) hb4); clear hown4 hg4 hb4)
          go_roundw
          case rel => exact ⟨j + 1, by omega, by go_num, E4.out, by rw [HTS.out, List.map_append]; exact O4.out⟩
          case measure => simp [intOf]; omega
        · have : j = M.names.length := by omega
          subst this
          rw [List.take_length] at HO
          obtain ⟨ao, co, rfl, _⟩ := slice_ofG HO.out
          go_wp2_with fail
          go_ret2
          exact ⟨_, by rw [EE.out]; rfl, by rw [EE.out]; simp only [List.length_map, List.map_map]; exact owns_base HO.out (Nat.zero_le _), HE.out⟩
    · have d6' := d6 rfl
      clear d6
      go_wp2_with fail
      clear k5 k6
      go_loopw [4, 5] (fun o t wr => ∃ j : Nat, j ≤ M.names.length ∧ t = .int .i64 j ∧ Ext w wr ∧ wr.ownsRow w.heap.size 9 1 o j ((M.names.take j).map fun p => Value.string p.1)) (fun _ t _ => M.names.length - (intOf t).toNat)
      case atStart => exact ⟨0, Nat.zero_le _, rfl, Ext.rfl _, World.ownsRow_nil _ _ _ _⟩
      case round =>
        obtain ⟨j, hj, rfl, he, hown⟩ := hrel
        have HE := hid he
        have HO := hid hown
        have k1 := HC1.out wr he
        rw [HVN.out] at k1
        clear he hown
        by_cases hlt : j < M.names.length
        · obtain ⟨b, off, rfl, hc⟩ := HCELL.out wr HE.out (by omega)
          have c0 := hc j hlt
          have HTS := hid (take_succ_nth M.names j hlt)
          clear hc
          obtain ⟨ao, co, rfl, _⟩ := slice_ofG HO.out
          go_wp2_with (at_builtin; refine wpList_app el_strR rfl (owns_ext HO.out ((Ext.rfl wr).al _)) rfl rfl (news_atG wr #[.string (nth M.names j).1] _) (one_strR _) (by omega) (HE.out.al _).size ?_; intro v' w4 hown4 hg4 hb4; have O4 := hid hown4; have E4 := hid (Below.trans (HE.out.al _) hb4); clear hown4 hg4 hb4)
          go_roundw
          case rel => exact ⟨j + 1, by omega, by go_num, E4.out, by rw [HTS.out, List.map_append]; exact O4.out⟩
          case measure => simp [intOf]; omega
        · have : j = M.names.length := by omega
          subst this
          rw [List.take_length] at HO
          obtain ⟨ao, co, rfl, _⟩ := slice_ofG HO.out
          go_wp2_with fail
          go_ret2
          exact ⟨_, by rw [EE.out]; rfl, by rw [EE.out]; simp only [List.length_map, List.map_map]; exact owns_base HO.out (Nat.zero_le _), HE.out⟩
end Go.Proofs.Ytjekfifnhdoamaa
