/- The walk of a table's All. -/
import Derived.Test.YtoonhcmeklmnlaaMtL
import Derived.Deep.CutRange
set_option linter.unusedSimpArgs false
set_option linter.unusedVariables false
set_option linter.unnecessarySimpa false
namespace Go.Proofs.Ytoonhcmeklmnlaa
open Go.RowKit Go.Rg Go.St

set_option maxRecDepth 100000 in
set_option maxHeartbeats 4000000 in
theorem all_in {w : World} {T : TLoc} {M : MT} (h : TRep w T M) (hM : MFull M) (hl : M.es.length ≤ 3000000000000) :
    Calls Try.prog 29 #[.pointer (some ⟨T.tb, 0, none⟩)] w (AllPost M w) := by
  have c0 : w.cell? ⟨T.tb, 0, none⟩ = some T.lv := cell_of_row _ _ _ _ _ _ h.tb
  have c1 : w.cell? ⟨T.tb, 1, none⟩ = some (.map (some T.kb)) := cell_of_row _ _ _ _ _ _ h.tb
  have c2 : w.cell? ⟨T.tb, 2, none⟩ = some (.map (some T.vb)) := cell_of_row _ _ _ _ _ _ h.tb
  have hrow := h.row
  obtain ⟨al, cl, hlv, hmx⟩ := slice_of hrow
  rw [hlv] at c0 hrow
  obtain ⟨J, hJ⟩ := owns_ex hM
  have hnle : M.ls.length ≤ 3000000000000 := by have := hM.gt; omega
  have HR := hid (owns_sl1 hrow)
  have H := hid h
  have HM := hid hM
  have HJ := hid hJ
  have HL := hid hl
  have HN := hid hnle
  have C1 := hid c1
  have C2 := hid c2
  unfold maxLen at hmx
  clear h hM hJ hl hnle hlv hrow c1 c2
  go_enter Try.func29, Try.ntmps29
  go_wp2_with fail
  go_loopw [3, 4, 21] (fun tv av t wr => ∃ i : Nat, i ≤ M.ls.length ∧ t = .int .i64 i ∧ av = .int .i64 (totR (rowsOf M J) i : Nat) ∧ Ext w wr ∧ TX w.heap.size wr tv i (rowsOf M J)) (fun _ _ t _ => M.ls.length - (intOf t).toNat)
  case atStart => exact ⟨0, Nat.zero_le _, rfl, rfl, Ext.rfl w, TX.zero _ _ _⟩
  case round =>
    obtain ⟨i, hi, rfl, rfl, he, htx⟩ := hrel
    have HE := hid he
    have HT := hid htx
    clear he htx
    by_cases hlt : i < M.ls.length
    · obtain ⟨a', c', hes, _, _, hc⟩ := (HR.out.go HE.out).ex
      simp only [Value.slice.injEq] at hes
      obtain ⟨rfl, _, rfl⟩ := hes
      obtain ⟨b1, off, rfl, hcell⟩ := hc (by omega)
      have k0 := hcell i hlt
      simp [hlt] at k0
      clear hc hcell
      have hK := keys_rep ((H.out.ls i hlt).ext HE.out) (l := 0) (by decide) (HJ.out i hlt).lvl.ch (fun j hj => ((HJ.out i hlt).mem j).1 hj) (by rw [(HJ.out i hlt).le, HM.out.cnt i hlt]; omega)
      have HK := hid hK
      clear hK
      go_wp2_with fail
      refine HK.out.mono ?_
      rintro e w2 ⟨v, rfl, ho, he2⟩
      obtain ⟨ak, ck, rfl, _⟩ := slice_of ho
      have HO := hid (slT_owns ho)
      have E2 := hid (HE.out.tr he2)
      obtain ⟨f, hto, hts⟩ := HT.out.ext he2
      have HTO := hid hto
      have HTS := hid hts
      have hkl : (keysOf (nthK M i) (J i)).length = (rowsOf M J i).length := rfl
      have htot : totR (rowsOf M J) i + (rowsOf M J i).length = totR (rowsOf M J) (i + 1) := rfl
      have hbd : totR (rowsOf M J) (i + 1) ≤ 3000000000000 := by
        rw [tot_rows HM.out HJ.out (i + 1) hlt]
        exact Nat.le_trans (Nat.min_le_right _ _) HL.out
      rw [hkl]
      have hn3 : i ≤ 3000000000000 := Nat.le_trans hi HN.out
      have HTOT := hid htot
      have hb2 : totR (rowsOf M J) i + (rowsOf M J i).length ≤ 3000000000000 := htot ▸ hbd
      clear ho he2 hto hts hkl htot hbd
      generalize hta : totR (rowsOf M J) i = ta at *
      generalize hrl : (rowsOf M J i).length = rl at *
      have HRL := hid hrl
      clear hta hrl
      go_wp2_with (at_builtin; refine wpList_app rowsE rfl (owns_ext HTO.out ((Ext.rfl _).al _)) rfl rfl (news_one _ _ _) (by simp [Value.oneCell']) (by omega) (E2.out.al _).size ?_; intro v' w4 hown4 hg4 hb4; have M1 := hid hown4; have M2 := hid hg4; have M3 := hid (ext_via E2.out ((Ext.rfl _).al _) hb4); clear hown4 hg4 hb4)
      go_roundw
      case rel =>
        refine ⟨i + 1, hlt, by go_num, by rw [← HTOT.out]; go_num, M3.out, ?_⟩
        exact TX.push HTO.out HTS.out (by have := HO.out; rw [show (keysOf (nthK M i) (J i)).length = rl from HRL.out] at this; exact this) M2.out M1.out
      case measure => simp [intOf]; omega
    · have : i = M.ls.length := by omega
      subst this
      have hN : totR (rowsOf M J) M.ls.length = M.es.length := tot_all HM.out HJ.out
      rw [hN]
      have HN' := hid hN
      have hle := HL.out
      obtain ⟨ki, hki, hkz, hks, hkb⟩ := info_parts kv_info
      have HKI := hid hki
      have HKZ := hid hkz
      have HKS := hid hks
      have HKB := hid hkb
      clear hN hki hkz hks hkb
      generalize hes : M.es.length = N at *
      have HES := hid hes
      clear hes
      go_wp2_with (at_make; refine wpList_make_own _ rfl _ _ 35 rfl w.heap.size 44 ki _ 4 el_kv.und HKI.out HKZ.out HKS.out _ _ _ N rfl rfl rfl (by rw [HKB.out]; omega) (by unfold maxLen; omega) HE.out.size ?_; intro w1 hown1 hg1; have M1 := hid hown1; have M2 := hid (ext_none hg1); clear hown1 hg1)
      have G := hid (show w.heap.size ≤ wr.heap.size from HE.out.size)
      have R1 := hid (show AllR w M M.ls.length N u3 wr.heap.size (rowsOf M J) [] w1 from ⟨mrg0 HM.out HJ.out, HE.out.tr M2.out, HT.out.ext M2.out, M1.out, by rw [HN'.out]; exact Nat.zero_add _⟩)
      generalize wr.heap.size = g at *
      obtain ⟨at_, ct, rfl, _⟩ : ∃ a c, u3 = .slice a M.ls.length c ∧ True := by obtain ⟨f, h1, _⟩ := HT.out; obtain ⟨a, c, e, _⟩ := slice_of h1; exact ⟨a, c, e, trivial⟩
      clear M1 M2 HE HT
      go_wp2_with fail
      go_loopw [8] (fun ov wr => ∃ R out, ov = .slice (some ⟨g, 0, none⟩) out.length N ∧ AllR w M M.ls.length N (.slice at_ M.ls.length ct) g R out wr) (fun ov _ => N - slen ov)
      case atStart => exact ⟨_, _, rfl, R1.out⟩
      case round =>
        clear R1
        obtain ⟨R, out, rfl, hr⟩ := hrel
        have HA := hid hr
        clear hr
        by_cases hlt : out.length < N
        · have hNle := HL.out
          have hpos : 0 < M.ls.length := by
            have := HA.out.cnt
            obtain ⟨j, hj, _⟩ := totR_pos (show 0 < totR R M.ls.length by omega)
            omega
          obtain ⟨g2, f, rfl, hgB, hcur, hcl, hsl, hset⟩ := HA.out.tx.use hpos
          have HG := hid hgB
          have HCU := hid hcur
          have HC := hid hcl
          have HSL := hid hsl
          have HSET := hid hset
          clear hgB hcur hcl hsl hset
          go_wp2_with fail
          obtain ⟨wo, hwo⟩ : ∃ wo : World, wo = wr := ⟨_, rfl⟩
          rw [← hwo] at HA HCU HC HSL HSET
          go_loopw [9, 44] (fun b t w3 => ∃ i : Nat, i ≤ M.ls.length ∧ t = .int .i64 i ∧ ∃ bi : Int, b = .int .i64 bi ∧ BestAt R i bi ∧ Ext wo w3) (fun _ t _ => M.ls.length - (intOf t).toNat)
          case atStart => exact ⟨0, Nat.zero_le _, rfl, _, rfl, BestAt.zero R, by rw [hwo]; exact Ext.rfl _⟩
          case round =>
            obtain ⟨i, hi, rfl, bi, rfl, hbest, he3⟩ := hrel
            have HB := hid hbest
            have E3 := hid he3
            clear hbest he3
            by_cases hin : i < M.ls.length
            · have kc := ext_cell E3.out (HC.out i hin)
              have hs := (HSL.out i hin).ext E3.out
              cases hRi : R i with
              | nil =>
                rw [hRi] at hs
                obtain ⟨ai, capi, hfi⟩ := hs.nil
                rw [hfi] at kc
                have HB2 := hid (HB.out.skip hRi)
                clear hs hfi hRi HB
                go_wp2_with fail
                go_quiet (fail)
                go_wp2_with fail
                go_roundw
                case rel => exact ⟨i + 1, hin, by go_num, bi, rfl, HB2.out, E3.out.drN _⟩
                case measure => simp [intOf]; omega
              | cons y ys =>
                rw [hRi] at hs
                obtain ⟨b1, o1, cap1, hfi, hyc, _⟩ := hs.cons
                rw [hfi] at kc
                have hgt : decide ((0 : Int) < (ys.length : Int) + 1) = true := decide_eq_true (by omega)
                clear hs hfi
                rcases HB.out with ⟨hb1, _⟩ | ⟨j, x, xs, hbj, hj, hRj, _⟩
                · subst hb1
                  have HB2 := hid (HB.out.first hRi)
                  clear hRi HB hyc
                  go_wp2_with fail
                  go_quiet (fail)
                  go_wp2_with fail
                  go_roundw
                  case rel => exact ⟨i + 1, hin, by go_num, i, rfl, HB2.out, E3.out.drN _⟩
                  case measure => simp [intOf]; omega
                · subst hbj
                  have hjn : j < M.ls.length := Nat.lt_trans hj hin
                  have kj := ext_cell E3.out (HC.out j hjn)
                  have hsj := (HSL.out j hjn).ext E3.out
                  rw [hRj] at hsj
                  obtain ⟨b2, o2, cap2, hfj, hxc, _⟩ := hsj.cons
                  rw [hfj] at kj
                  clear hsj hfj
                  have hj0 : decide ((j : Int) < 0) = false := by simp
                  cases hk : kl y x
                  · have hk' : Op.bytesLess y.toList x.toList = false := hk
                    have HB2 := hid (HB.out.keep hRj hRi hk)
                    clear hRi hRj HB hk
                    go_wp2_with fail
                    go_quiet (fail)
                    go_wp2_with fail
                    go_roundw
                    case rel => exact ⟨i + 1, hin, by go_num, j, rfl, HB2.out, E3.out.drN _⟩
                    case measure => simp [intOf]; omega
                  · have hk' : Op.bytesLess y.toList x.toList = true := hk
                    have HB2 := hid (HB.out.less hRj hRi hk)
                    clear hRi hRj HB hk
                    go_wp2_with fail
                    go_quiet (fail)
                    go_wp2_with fail
                    go_roundw
                    case rel => exact ⟨i + 1, hin, by go_num, i, rfl, HB2.out, E3.out.drN _⟩
                    case measure => simp [intOf]; omega
            · have : i = M.ls.length := by omega
              subst this
              have hne : bi ≠ -1 := by
                rintro rfl
                rcases HB.out with ⟨_, h0⟩ | ⟨j, _, _, e, _⟩
                · have := HA.out.cnt
                  obtain ⟨j, hj, hr⟩ := totR_pos (show 0 < totR R M.ls.length by omega)
                  exact hr (h0 j hj)
                · omega
              obtain ⟨j, x, xs, rfl, hj, hRj⟩ := HB.out.has hne
              obtain ⟨e, he, hke⟩ := HA.out.mrg.src j hj x (by rw [hRj]; exact List.mem_cons_self ..)
              have kj := ext_cell E3.out (HC.out j hj)
              have hsj := (HSL.out j hj).ext E3.out
              rw [hRj] at hsj
              obtain ⟨b2, o2, cap2, hfj, hxc, hcap2⟩ := hsj.cons
              rw [hfj] at kj
              have HFJ := hid hfj
              have HSJ := hid hsj
              have HX := hid hke
              have HME := hid he
              have HRJ := hid hRj
              have HJ2 := hid hj
              have E4 := hid (HA.out.ext.tr E3.out)
              have t1 := ext_cell E4.out C1.out
              have t2 := ext_cell E4.out C2.out
              have hlk := look_keys (H.out.ext E4.out).km x
              rw [← hke, kmap_has HM.out.toMInv he, hke] at hlk
              have hlk2 := fun o => look_keys (w := (wr.alloc o).drew) (T := T) (M := M) ((H.out.ext E4.out).km.go (((Ext.rfl wr).al o).block _ (H.out.ext E4.out).km.lt)) x
              rw [← hke, kmap_has HM.out.toMInv he, hke] at hlk2
              have hlk3 := look_keys (w := wr.drew) (T := T) (M := M) (H.out.ext E4.out).km x
              rw [← hke, kmap_has HM.out.toMInv he, hke] at hlk3
              have l1 := cell_lt t1
              have l2 := cell_lt kj
              have l3 := cell_lt hxc
              have hjd : (j : Int) < (M.ls.length : Int) := Int.ofNat_lt.2 hj
              clear hne hsj hfj hke he hRj hj
              go_wp2_with fail
              go_region
              clear hlk hlk2 hlk3 hxc kj t1 t2 l1 l2 l3
              have E5 := hid (show Ext w ((wr.alloc (.cells #[.string e.1.user, .int .u64 e.1.seq, .int .i64 e.1.kind] 42)).drew) from E4.out.tr (((Ext.rfl wr).al (.cells #[.string e.1.user, .int .u64 e.1.seq, .int .i64 e.1.kind] 42)).dr))
              have EX5 := hid (show Ext wo ((wr.alloc (.cells #[.string e.1.user, .int .u64 e.1.seq, .int .i64 e.1.kind] 42)).drew) from E3.out.tr (((Ext.rfl wr).al (.cells #[.string e.1.user, .int .u64 e.1.seq, .int .i64 e.1.kind] 42)).dr))
              have B5 := hid (show ((wr.alloc (.cells #[.string e.1.user, .int .u64 e.1.seq, .int .i64 e.1.kind] 42)).drew).heap[wr.heap.size]? = some (.cells #[.string e.1.user, .int .u64 e.1.seq, .int .i64 e.1.kind] 42 (0, 0)) from heap_alloc_new wr _)
              generalize (wr.alloc (.cells #[.string e.1.user, .int .u64 e.1.seq, .int .i64 e.1.kind] 42)).drew = w5 at *
              generalize wr.heap.size = bx at *
              have t2 := ext_cell E5.out C2.out
              have x0 : w5.cell? ⟨bx, 0, none⟩ = some (.string e.1.user) := cell_of_row _ _ _ _ _ _ B5.out
              have x1 : w5.cell? ⟨bx, 1, none⟩ = some (.int .u64 e.1.seq) := cell_of_row _ _ _ _ _ _ B5.out
              have x2 : w5.cell? ⟨bx, 2, none⟩ = some (.int .i64 e.1.kind) := cell_of_row _ _ _ _ _ _ B5.out
              have hlv := look_vals (w := w5.drew) (T := T) (M := M) (H.out.ext E5.out).vm e.1
              rw [vmap_has HM.out.toMInv HME.out] at hlv
              have RW := hid (owns_ext HA.out.row EX5.out)
              go_wp2_with fail
              go_cut [8] from 81 to 91 (fun ov w6 => ov = .slice (some ⟨g, 0, none⟩) (out.length + 1) N ∧ w6.ownsRow w.heap.size 44 4 (.slice (some ⟨g, 0, none⟩) (out.length + 1) N) (out.length + 1) (out.flatMap eKV ++ eKV e) ∧ Ch (fun b => some g = some b) w5 w6)
              case first =>
                go_region_law (refine step_append_fits rfl (.tmp 81) (.tmp 90) 35 rfl w.heap.size 44 ki 4 el_kv.und HKI.out HKS.out g out.length N (out.flatMap eKV) (by simp [Act.eval, Act.put]) (owns_ext RW.out (show Ext w5 (w5.drew.alloc _) from (Ext.rfl w5).dr.al _)) ⟨w5.heap.size, 0, none⟩ 1 1 (eKV e) (by simp [Act.eval, Act.put]) rfl (news_at w5.drew #[.string e.1.user, .int .u64 e.1.seq, .int .i64 e.1.kind, .string e.2] 44) (eKV_one e) (by omega) ?_; intro w6 hown6 hg6)
                all_goals
                  have M1 := hid hown6
                  have M2 := hid ((Ch.of_ext (show Ext w5 (w5.drew.alloc _) from (Ext.rfl w5).dr.al _)).tr (grown_ch hg6))
                  clear hown6 hg6
                  go_wp2_with fail
                  go_meet
                  case rel => exact ⟨rfl, M1.out, M2.out⟩
              case rest =>
                obtain ⟨rfl, ho6, hc6⟩ := hcut
                obtain ⟨cur, hcur⟩ := HCU.out
                have hgg : some g ≠ some g2 := own_ne' HA.out.row hcur (by decide)
                have hstr : ∀ b cs fr, w5.heap[b]? = some (.cells cs 9 fr) → ¬ some g = some b := fun b cs fr hb => own_ne' RW.out hb (by decide)
                have hstr2 : ∀ b cs, w5.heap[b]? = some (.cells cs 32 (0, 0)) → ¬ some g = some b := fun b cs hb => own_ne' RW.out hb (by decide)
                have htx := (HA.out.tx.ext EX5.out).ch hc6 hstr2 hstr
                obtain ⟨g3, f3, hg3, _, hcur3, hcl3, hsl3, hset3⟩ := htx.use hpos
                obtain rfl : g3 = g2 := by simpa using hg3.symm
                have hs3 := hsl3 j HJ2.out
                rw [HRJ.out] at hs3
                obtain ⟨b3, o3, cap3, hf3, _, hcap3⟩ := hs3.cons
                have kj := hcl3 j HJ2.out
                rw [hf3] at kj
                have ff : ∀ i, wc.frozen? ⟨g3, i, none⟩ = false := fun i => by
                  obtain ⟨c3, hc3⟩ := hcur3
                  exact frozen_of_row _ _ _ _ _ hc3
                have HO6 := hid ho6
                have HC6 := hid hc6
                have K1 := hid hcur3
                have K2 := hid hsl3
                have K3 := hid hset3
                have K4 := hid hf3
                have K5 := hid hcap3
                have hjd2 : (j : Int) < (M.ls.length : Int) := hjd
                clear hcur hgg hstr hstr2 htx hg3 hcl3 hs3 hcur3 hsl3 hset3 hf3 ho6 hc6 t2 x0 x1 x2 hlv hcap3
                go_wp2_with fail
                go_roundw
                case rel => exact ⟨popR R j, out ++ [e], by rw [List.length_append]; rfl, AllR.step HM.out HA.out G.out HG.out HB.out HRJ.out HME.out HX.out HJ2.out E5.out HC6.out HO6.out K1.out K2.out K3.out K4.out (fun hp => if_neg (by have := K5.out; omega))⟩
                case measure => simp [slen]; omega
        · have hNle := HL.out
          have hout : out.length = N := by have := HA.out.cnt; omega
          rw [hout]
          have HO := hid hout
          have ho := HA.out.row
          rw [hout] at ho
          have HRW := hid ho
          have E1 := hid HA.out.ext
          clear hout ho
          go_wp2_with (first | (at_make; refine wpList_make_full _ rfl _ _ 35 rfl w.heap.size 44 ki _ 4 el_kv.und HKI.out HKZ.out HKS.out _ _ _ _ N rfl rfl rfl rfl (by rw [HKB.out]; omega) (by unfold maxLen; omega) E1.out.size ?_; intro w8 hown8 hg8; obtain ⟨cur8, hc8, hs8, _⟩ := owns_at hown8; have M2 := hid (ext_none hg8); have M3 := hid hc8; have M4 := hid hs8; clear hown8 hg8 hc8 hs8) | (refine wpList_copy_sz rfl (.tmp 102) (.tmp 103) 35 35 rfl 44 4 el_kv.und (by kernel_rfl) wr.heap.size N N ⟨g, 0, none⟩ N N rfl rfl cur8 44 M3.out (out.flatMap eKV) N (Nat.min_self N).symm HRW.out.1 (owns_src (owns_ext HRW.out M2.out)) (by rw [HRW.out.1, M4.out]; exact Nat.le_refl _) (flat_one out) ?_))
          go_ret
          obtain ⟨c1, c2⟩ := copy_owns (base := w.heap.size) E1.out.size M3.out HRW.out.1 M4.out (by unfold maxLen; omega)
          rw [List.length_flatMap] at c1 c2
          refine ⟨_, out, rfl, HA.out.mrg.done (by have := HA.out.cnt; have := HO.out; omega), ?_, ext_far (E1.out.tr M2.out) c2 ?_, ?_⟩
          · rw [HO.out]; exact c1
          · rintro b rfl; exact E1.out.size
          · rw [HO.out, HES.out]
end Go.Proofs.Ytoonhcmeklmnlaa
