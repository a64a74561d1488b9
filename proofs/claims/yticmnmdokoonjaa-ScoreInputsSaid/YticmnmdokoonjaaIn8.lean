/- The walk of the reference's Inputs of level 0. -/
import Derived.Test.YticmnmdokoonjaaIn7
import Derived.Test.YticmnmdokoonjaaSk17
import Derived.OwnWalk
set_option linter.unusedSimpArgs false
set_option linter.unusedVariables false
set_option linter.unnecessarySimpa false
namespace Go.Proofs.Yticmnmdokoonjaa
open Go.RowKit Go.Rg Go.St

theorem boolB : ElT Try.prog 66 4 1 1 := ⟨by kernel_rfl, by kernel_rfl, by decide, by decide⟩
theorem bool_inf : (Try.prog.info? 4).map (fun i => (i.zero, i.size, i.bytes)) = some (some (.bool false), 1, 1) := by kernel_rfl
theorem Row.setE {w0 w : World} {base : Nat} {E : TypeId} {g n : Nat} {f : Nat → Value} (h : Row w base E g n f) (he : Ext w0 w) (hb : w0.heap.size ≤ base) (i : Nat) (u : Value) : Ext w0 (w.setCell ⟨g, i, none⟩ u) :=
  Below.setCell he (Nat.le_trans hb (World.ownsRow.lt h g rfl).1) _

set_option maxRecDepth 100000 in
set_option maxHeartbeats 4000000 in
theorem rinputs_0 (v0 v1 v2 v3 : Value) (V : Nat → List File) (from_ : ByteArray) (w : World) (hV : Ver w v0 v1 v2 v3 V) (hn : ∀ i, i < 4 → (V i).length ≤ 1000000) (hl : 0 < (V 0).length) :
    Calls Try.prog 25 #[.agg #[v0, v1, v2, v3], .int .i64 0, .string from_] w (Two0 (V 0) (V 1) w) := by
  have HV := hid hV
  have HN := hid hn
  obtain ⟨bi, hbi, hbz, hbs, hbb⟩ := info_parts bool_inf
  obtain ⟨a, cap, hp, hcap, hm, hc⟩ := hV.s0.ex
  obtain ⟨b, off, rfl, hcell⟩ := hc hl
  have h00 := hn 0 (by omega)
  unfold maxLen at hm
  generalize V 0 = l at *
  obtain ⟨L, hL⟩ : ∃ L, l.length = L + 1 := ⟨l.length - 1, by omega⟩
  rw [hL] at hp hcap
  subst hp
  have c3 := hcell L (by omega) 0 (by omega)
  have n0 : b < w.heap.size := cell_lt (show w.cell? _ = some _ from c3)
  have n1 : w.heap.size ≠ b := by omega
  have n3 : b ≠ w.heap.size := by omega
  have HC := hid hcell
  have HT := hid (takes_start hl)
  rw [show l.length - 1 = L by omega] at HT
  have HL := hid hL
  have hlb : ((L : Int) + 1 == 0) = false := by simp; omega
  have hL2 : L < 1000000 := by omega
  have HBI := hid hbi
  have HBZ := hid hbz
  have HBS := hid hbs
  have HBB := hid hbb
  clear hcell hc hV hn hL hl c3 hbi hbz hbs hbb
  go_enter Try.func25, Try.ntmps25
  go_wp2_with (at_make; refine wpList_make_full _ rfl _ _ 66 rfl (w.heap.size + 1) 4 bi (.bool false) 1 boolB.und HBI.out HBZ.out HBS.out _ _ _ _ (L + 1) rfl rfl (by omega) (by omega) (by rw [HBB.out]; omega) (by unfold maxLen; omega) (Nat.le_of_eq (alloc_size _ _).symm) ?_; intro w1 hown1 hg1; rw [alloc_size] at hown1; have R1 := hid (row_made hown1); have E1 := hid (ext_grown_none hg1); have k1 := R1.out.cell (show L < L + 1 by omega); have f1 := R1.out.frozen L; clear hown1 hg1)
  generalize hbx : (Obj.cells #[.slice (some ⟨b, off, none⟩) (L + 1) cap, v1, v2, v3] 32) = vb at *
  have RS : Hid (Row (w1.setCell ⟨w.heap.size + 1, L, none⟩ (.bool true)) (w.heap.size + 1) 4 (w.heap.size + 1) (L + 1) (fun i => .bool (i == L))) := hid ((R1.out.set (show L < L + 1 by omega) (.bool true)).cong (fun i hi => by
    unfold upd
    by_cases e : i = L
    · rw [if_pos e]; simp [e]
    · rw [if_neg e]; simp [e]))
  have ES : Hid (Ext (w.alloc vb) (w1.setCell ⟨w.heap.size + 1, L, none⟩ (.bool true))) := hid (R1.out.setE E1.out (Nat.le_of_eq (alloc_size _ _)) _ _)
  have HBX := hid hbx
  clear hbx k1 f1 R1 E1 HBI HBZ HBS HBB
  go_loopw [11] (fun t wr => ∃ r : Nat, r ≤ L + 2 ∧ t = .int .i64 r ∧ ∃ tk, Takes l tk r ∧ Ext (w.alloc vb) wr ∧ Row wr (w.heap.size + 1) 4 (w.heap.size + 1) (L + 1) (fun i => .bool (tk i))) (fun t _ => L + 2 - (intOf t).toNat)
  case atStart => exact ⟨0, by omega, rfl, _, HT.out, ES.out, RS.out⟩
  case round =>
    clear HT ES RS
    obtain ⟨r, hr, rfl, tk, htk, he, hrow⟩ := hrel
    have HT := hid htk
    have HE := hid he
    have HR := hid hrow
    clear htk he hrow
    by_cases hlt : r < L + 2
    · obtain ⟨wo, rfl⟩ : ∃ wo : World, wo = wr := ⟨_, rfl⟩
      have hxx : (r : Int) ≤ L + 1 := by omega
      go_wp2
      go_loopw [12, 13] (fun o t wr => ∃ j : Nat, j ≤ L + 1 ∧ t = .int .i64 j ∧ Ext wo wr ∧ OwnFiles wr wo.heap.size o (selTo l tk j)) (fun _ t _ => L + 1 - (intOf t).toNat)
      case atStart => exact ⟨0, by omega, rfl, Ext.rfl _, World.ownsRow_nil _ _ _ _⟩
      case round =>
        obtain ⟨j, hj, rfl, hi, hown⟩ := hrel
        have HI := hid hi
        have HO := hid hown
        clear hi hown
        have HR' := hid (HR.out.ext HI.out)
        by_cases hlt2 : j < L + 1
        · have d0 := HR'.out.cell hlt2
          have hsucc := hid (selTo_succ l tk j)
          have hle := selTo_le l tk j
          cases htj : tk j
          · rw [htj] at d0
            have HTJ := hid htj
            clear htj
            go_wp2
            go_roundw
            case rel => exact ⟨j + 1, by omega, by go_num, HI.out, by rw [hsucc.out, if_neg (by rw [HTJ.out]; decide), List.append_nil]; exact HO.out⟩
            case measure => simp [intOf]; omega
          · rw [htj] at d0
            have HTJ := hid htj
            clear htj
            obtain ⟨c0, c1, c2, c3, c4, c5, c6, c7, c8⟩ := SlS.at9 (w := wr) (enc := eFile) (xs := l) (k := j) (fun i hi => ext_cellq ((ext_of_new HE.out).tr HI.out) (HC.out j (by rw [HL.out]; omega) i hi) hi rfl) rfl
            go_wp2_with (at_builtin; refine wpList_app el_file rfl (owns_ext HO.out ((Ext.rfl wr).al _)) rfl rfl (news_block wr (eFile (nth l j)).toArray _) (one_file _) (by omega) (HI.out.al _).size ?_; intro v' w4 hown4 hg4 hb4; have O4 := hid (OwnFiles.snoc hown4); have E4 := hid (Below.trans (HI.out.al _) hb4); clear hown4 hg4 hb4)
            go_roundw
            case rel => exact ⟨j + 1, by omega, by go_num, E4.out, by rw [hsucc.out, if_pos HTJ.out]; exact O4.out⟩
            case measure => simp [intOf]; omega
        · have : j = L + 1 := by omega
          subst this
          have hsel : selTo l tk (L + 1) = sel l tk := by unfold sel; rw [HL.out]
          rw [hsel] at HO
          have hpos : 0 < (sel l tk).length := List.length_pos_of_mem (mem_sel.2 ⟨L, by rw [HL.out]; omega, by have := HT.out.last; rwa [HL.out, Nat.add_sub_cancel] at this, rfl⟩)
          have HP := hid hpos
          have HE2 := hid (HE.out.tr HI.out)
          clear hsel hpos HI
          go_wp2_with fail
          refine (rspan_in _ (sel l tk) _ HO.out.sl HP.out).mono ?_
          rintro e w2 ⟨rfl, rfl⟩
          clear HO HP HR HE
          obtain ⟨w2, rfl⟩ : ∃ w2 : World, w2 = wr := ⟨_, rfl⟩
          go_wp2
          go_loopw [16] (fun t wr => ∃ i : Nat, i ≤ L + 1 ∧ t = .int .i64 i ∧ Ext (w.alloc vb) wr ∧ Row wr (w.heap.size + 1) 4 (w.heap.size + 1) (L + 1) (fun x => .bool (if x < i then take1 l tk x else tk x))) (fun t _ => L + 1 - (intOf t).toNat)
          case atStart => exact ⟨0, by omega, rfl, HE2.out, HR'.out.cong (fun i hi => by rw [if_neg (by omega)])⟩
          case round =>
            clear HE2 HR'
            obtain ⟨i, hi, rfl, he, hrow⟩ := hrel
            have HE := hid he
            have HR := hid hrow
            clear he hrow
            by_cases hlt3 : i < L + 1
            · obtain ⟨c0, c1, c2, c3, c4, c5, c6, c7, c8⟩ := SlS.at9 (w := wr) (enc := eFile) (xs := l) (k := i) (fun q hq => ext_cellq (ext_of_new HE.out) (HC.out i (by rw [HL.out]; omega) q hq) hq rfl) rfl
              have ht1 : take1 l tk i = (tk i || ov (span (sel l tk)).1 (span (sel l tk)).2 (nth l i)) := rfl
              have HT1 := hid ht1
              clear ht1
              go_wp2_with fail
              refine (rhas_in (nth l i) _ _ _).mono ?_
              rintro e w3 ⟨rfl, he3⟩
              have HE3 := hid (HE.out.tr he3)
              have HR3 := hid (HR.out.ext he3)
              clear he3
              have k3 := HR3.out.cell hlt3
              have f3 := HR3.out.frozen i
              cases hov : ov (span (sel l tk)).1 (span (sel l tk)).2 (nth l i)
              · have HV3 := hid hov
                clear hov
                go_wp2
                go_roundw
                case rel => exact ⟨i + 1, by omega, by go_num, HE3.out, HR3.out.cong (fun x hx => by
                  by_cases e : x = i
                  · subst e; rw [if_neg (by omega), if_pos (by omega), HT1.out, HV3.out, Bool.or_false]
                  · by_cases e2 : x < i
                    · rw [if_pos e2, if_pos (by omega)]
                    · rw [if_neg e2, if_neg (by omega)])⟩
                case measure => simp [intOf]; omega
              · have HV3 := hid hov
                have RS := hid (HR3.out.set hlt3 (.bool true))
                have ES := hid (HR3.out.setE HE3.out (Nat.le_of_eq (alloc_size _ _)) i (.bool true))
                clear hov
                go_wp2
                go_roundw
                case rel => exact ⟨i + 1, by omega, by go_num, ES.out, RS.out.cong (fun x hx => by
                  by_cases e : x = i
                  · subst e; rw [upd_same, if_pos (by omega), HT1.out, HV3.out, Bool.or_true]
                  · rw [upd_other _ _ _ e]
                    by_cases e2 : x < i
                    · rw [if_pos e2, if_pos (by omega)]
                    · rw [if_neg e2, if_neg (by omega)])⟩
                case measure => simp [intOf]; omega
            · have : i = L + 1 := by omega
              subst this
              have HN2 := hid (HT.out.next (by rw [HL.out]; omega))
              go_wp2
              go_roundw
              case rel => exact ⟨r + 1, by omega, by go_num, _, HN2.out, HE.out, HR.out.cong (fun x hx => by rw [if_pos hx])⟩
              case measure => simp [intOf]; omega
    · have : r = L + 2 := by omega
      subst this
      rw [show ((L + 2 : Nat) : Int) = (L : Int) + 2 by omega]
      have hdn := HT.out
      rw [show L + 2 = l.length + 1 by rw [HL.out]] at hdn
      have HDN := hid hdn.done
      have hlast := HT.out.last
      rw [HL.out, Nat.add_sub_cancel] at hlast
      have HLA := hid hlast
      clear hdn hlast HT
      obtain ⟨wo, rfl⟩ : ∃ wo : World, wo = wr := ⟨_, rfl⟩
      go_wp2
      go_loopw [9, 18] (fun o t wr => ∃ j : Nat, j ≤ L + 1 ∧ t = .int .i64 j ∧ Ext wo wr ∧ OwnFiles wr wo.heap.size o (selTo l tk j)) (fun _ t _ => L + 1 - (intOf t).toNat)
      case atStart => exact ⟨0, by omega, rfl, Ext.rfl _, World.ownsRow_nil _ _ _ _⟩
      case round =>
        obtain ⟨j, hj, rfl, hi, hown⟩ := hrel
        have HI := hid hi
        have HO := hid hown
        clear hi hown
        have HR' := hid (HR.out.ext HI.out)
        by_cases hlt2 : j < L + 1
        · have d0 := HR'.out.cell hlt2
          have hsucc := hid (selTo_succ l tk j)
          have hle := selTo_le l tk j
          cases htj : tk j
          · rw [htj] at d0
            have HTJ := hid htj
            clear htj
            go_wp2
            go_roundw
            case rel => exact ⟨j + 1, by omega, by go_num, HI.out, by rw [hsucc.out, if_neg (by rw [HTJ.out]; decide), List.append_nil]; exact HO.out⟩
            case measure => simp [intOf]; omega
          · rw [htj] at d0
            have HTJ := hid htj
            clear htj
            obtain ⟨c0, c1, c2, c3, c4, c5, c6, c7, c8⟩ := SlS.at9 (w := wr) (enc := eFile) (xs := l) (k := j) (fun i hi => ext_cellq ((ext_of_new HE.out).tr HI.out) (HC.out j (by rw [HL.out]; omega) i hi) hi rfl) rfl
            go_wp2_with (at_builtin; refine wpList_app el_file rfl (owns_ext HO.out ((Ext.rfl wr).al _)) rfl rfl (news_block wr (eFile (nth l j)).toArray _) (one_file _) (by omega) (HI.out.al _).size ?_; intro v' w4 hown4 hg4 hb4; have O4 := hid (OwnFiles.snoc hown4); have E4 := hid (Below.trans (HI.out.al _) hb4); clear hown4 hg4 hb4)
            go_roundw
            case rel => exact ⟨j + 1, by omega, by go_num, E4.out, by rw [hsucc.out, if_pos HTJ.out]; exact O4.out⟩
            case measure => simp [intOf]; omega
        · have : j = L + 1 := by omega
          subst this
          have hsel : selTo l tk (L + 1) = sel l tk := by unfold sel; rw [HL.out]
          rw [hsel] at HO
          have hpos : 0 < (sel l tk).length := List.length_pos_of_mem (mem_sel.2 ⟨L, by rw [HL.out]; omega, HLA.out, rfl⟩)
          have HP := hid hpos
          have HE2 := hid (HE.out.tr HI.out)
          have hb := HBX.out
          subst hb
          have q0 := ext_new HE2.out 0 rfl
          have q1 := ext_new HE2.out 1 rfl
          have q2 := ext_new HE2.out 2 rfl
          have q3 := ext_new HE2.out 3 rfl
          clear hsel hpos HI
          go_wp2_with fail
          refine (rspan_in _ (sel l tk) _ HO.out.sl HP.out).mono ?_
          rintro e w2 ⟨rfl, rfl⟩
          go_wp2_with fail
          refine (rover_in _ v1 v2 v3 V 1 1 rfl (by omega) _ _ _ (HV.out.go (ext_of_new HE2.out)) (HN.out 1 (by omega))).mono ?_
          rintro e w3 ⟨u, rfl, ho, he3⟩
          have SL3 := hid (HO.out.sl.file he3)
          have E3 := hid (ext_of_new (HE2.out.tr he3))
          have O3 := hid ho.sl
          clear he3 ho q0 q1 q2 q3
          go_wp2
          go_ret2
          exact ⟨sel l tk, ⟨tk, HDN.out.1, HDN.out.2, rfl⟩, _, _, rfl, SL3.out, O3.out, E3.out⟩
end Go.Proofs.Yticmnmdokoonjaa
