/- The references' files: without one, with one; two versions the same. -/
import Derived.Test.YtoonhcmeklmnlaaVrE
set_option linter.unusedSimpArgs false
set_option linter.unusedVariables false
set_option linter.unnecessarySimpa false
namespace Go.Proofs.Ytoonhcmeklmnlaa
open Go.RowKit Go.Rg Go.St

theorem remF_succ (n : Int) (l : List File) (k : Nat) (h : k < l.length) : remF n (l.take (k + 1)) = remF n (l.take k) ++ (if (nth l k).num ≠ n then [nth l k] else []) := by
  unfold remF
  rw [take_succ_nth l k h, List.filter_append]
  by_cases e : (nth l k).num = n
  · simp [e]
  · simp [e]
def TwoB (xs : List File) (b : Bool) (w : World) (e : Ending) (w' : World) : Prop := ∃ v, e = .returned (.tuple #[v, .bool b]) ∧ OwnFiles w' w.heap.size v xs ∧ Ext w w'
set_option maxRecDepth 100000 in
set_option maxHeartbeats 2000000 in
theorem without_in (v : Value) (l : List File) (num : Int) (w : World) (hs : SlFile w v l) (hn : l.length ≤ 1000000) :
    Calls Try.prog 78 #[v, .int .u64 num] w (TwoB (remF num l) (hasNum num l) w) := by
  obtain ⟨ad, cap, rfl, hcap, hm, hc⟩ := hs.ex
  have HC := hid hc
  have HB := hid (hasNum_rem num l)
  clear hs hc
  unfold maxLen at hm
  generalize hasNum num l = hb at *
  go_enter Try.func78, Try.ntmps78
  go_wp2
  go_loopw [6, 7] (fun o t wr => ∃ j : Nat, j ≤ l.length ∧ t = .int .i64 j ∧ Ext w wr ∧ OwnFiles wr w.heap.size o (remF num (l.take j))) (fun _ t _ => l.length - (intOf t).toNat)
  case atStart => exact ⟨0, Nat.zero_le _, rfl, Ext.rfl _, World.ownsRow_nil _ _ _ _⟩
  case round =>
    obtain ⟨j, hj, rfl, he, hown⟩ := hrel
    have HE := hid he
    have HO := hid hown
    clear he hown
    by_cases hlt : j < l.length
    · obtain ⟨b1, off, rfl, hcell⟩ := HC.out (by omega)
      obtain ⟨c0, c1, c2, c3, c4, c5, c6, c7, c8⟩ := SlS.at9 (w := wr) (enc := eFile) (xs := l) (k := j) (fun i hi => ext_cellq HE.out (hcell j hlt i hi) hi rfl) rfl
      have hsucc := hid (remF_succ num l j hlt)
      have hle := remF_length num (l.take j)
      rw [List.length_take] at hle
      clear hcell
      by_cases hov : (nth l j).num = num
      · have d1 : ((nth l j).num != num) = false := by simp [hov]
        have HV := hid hov
        clear hov
        go_wp2_with fail
        go_roundw
        case rel => exact ⟨j + 1, by omega, by go_num, HE.out, by rw [hsucc.out, if_neg (by rw [HV.out]; simp), List.append_nil]; exact HO.out⟩
        case measure => simp [intOf]; omega
      · have d1 : ((nth l j).num != num) = true := by simp [hov]
        have HV := hid hov
        clear hov
        go_wp2_with (at_builtin; refine wpList_app el_file rfl (owns_ext HO.out ((Ext.rfl wr).al _)) rfl rfl (news_block wr (eFile (nth l j)).toArray _) (one_file _) (by omega) (HE.out.al _).size ?_; intro v' w4 hown4 hg4 hb4; have O4 := hid (OwnFiles.snoc hown4); have E4 := hid (Below.trans (HE.out.al _) hb4); clear hown4 hg4 hb4)
        go_roundw
        case rel => exact ⟨j + 1, by omega, by go_num, E4.out, by rw [hsucc.out, if_pos HV.out]; exact O4.out⟩
        case measure => simp [intOf]; omega
    · have : j = l.length := by omega
      subst this
      rw [List.take_length] at HO
      obtain ⟨a6, n6, c6, hv6⟩ := isSl_of HO.out.sl
      have hlen : n6 = (remF num l).length := by
        obtain ⟨_, _, e, _⟩ := HO.out.sl.ex
        rw [hv6] at e
        simp only [Value.slice.injEq] at e
        exact e.2.1
      subst hv6
      subst hlen
      go_wp2
      go_ret2
      refine ⟨_, ?_, HO.out, HE.out⟩
      have : hb = decide ((remF num l).length < l.length) := by
        by_cases h : (remF num l).length < l.length
        · rw [decide_eq_true h, HB.out.1 h]
        · rw [decide_eq_false h]; cases hb with
          | false => rfl
          | true => exact absurd (HB.out.2 rfl) h
      rw [this]
      simp
set_option maxHeartbeats 1000000 in
theorem apart_in (a b : File) (w : World) : Calls Try.prog 82 #[aFile a, aFile b] w (ValExt (.bool (kl a.large.user b.small.user)) w) := by
  go_enter Try.func82, Try.ntmps82
  go_wp2
  go_ret
  exact ⟨rfl, ((Ext.rfl w).al _).al _⟩
theorem insF_hit (f x : File) : ∀ l : List File, l.any (aheadF f) = true → insF f (l ++ [x]) = insF f l ++ [x]
  | [], h => by simp at h
  | o :: l, h => by
    rw [List.cons_append]
    unfold insF
    by_cases ho : aheadF f o = true
    · rw [if_pos ho, if_pos ho]; rfl
    · rw [if_neg ho, if_neg ho]
      rw [List.any_cons] at h
      have : l.any (aheadF f) = true := by cases hh : aheadF f o with
        | true => exact absurd hh ho
        | false => rw [hh] at h; simpa using h
      rw [insF_hit f x l this]; rfl
theorem insF_none (f : File) (m : List File) : ∀ l : List File, l.any (aheadF f) = false → insF f (l ++ m) = l ++ insF f m
  | [], _ => rfl
  | o :: l, h => by
    rw [List.any_cons, Bool.or_eq_false_iff] at h
    rw [List.cons_append]
    conv => lhs; unfold insF
    rw [if_neg (by rw [h.1]; decide), insF_none f m l h.2]
    rfl
/-- files with one more, so far -/
def insTo (f : File) (l : List File) : List File := if l.any (aheadF f) = true then insF f l else l
theorem insTo_len (f : File) (l : List File) : (insTo f l).length ≤ l.length + 1 := by
  unfold insTo
  split
  · rw [insF_length]; exact Nat.le_refl _
  · omega
theorem insTo_hit {f x : File} {l : List File} (h : l.any (aheadF f) = true) : insTo f (l ++ [x]) = insTo f l ++ [x] := by
  unfold insTo
  rw [if_pos h, if_pos (by rw [List.any_append, h]; rfl), insF_hit f x l h]
theorem insTo_now {f x : File} {l : List File} (h : l.any (aheadF f) = false) (hx : aheadF f x = true) : insTo f (l ++ [x]) = insTo f l ++ [f] ++ [x] := by
  have ha : (l ++ [x]).any (aheadF f) = true := by rw [List.any_append]; simp [hx]
  unfold insTo
  rw [if_pos ha, if_neg (by rw [h]; decide), insF_none f [x] l h]
  unfold insF
  rw [if_pos hx, List.append_assoc]; rfl
theorem insTo_not {f x : File} {l : List File} (h : l.any (aheadF f) = false) (hx : aheadF f x = false) : insTo f (l ++ [x]) = insTo f l ++ [x] := by
  have ha : ¬ (l ++ [x]).any (aheadF f) = true := by rw [List.any_append, h]; simp [hx]
  unfold insTo
  rw [if_neg ha, if_neg (by rw [h]; decide)]
theorem cf_apart (args : Array Value) (w : World) : (callFunc 82 args).run Try.prog w = .ok (.enter 82 args) w := by kernel_rfl
set_option maxRecDepth 100000 in
set_option maxHeartbeats 4000000 in
theorem rwith_in (v : Value) (l : List File) (f : File) (w : World) (hs : SlFile w v l) (hn : l.length ≤ 1000000) :
    Calls Try.prog 80 #[v, aFile f] w (FilesExt (insF f l) w) := by
  obtain ⟨ad, cap, rfl, hcap, hm, hc⟩ := hs.ex
  have HC := hid hc
  clear hs hc
  unfold maxLen at hm
  go_enter Try.func80, Try.ntmps80
  go_wp2_with fail
  obtain ⟨B, HBB, HB0⟩ : ∃ B, Hid (∀ w', Below B w w' → Ext w w') ∧ Hid (B = w.heap.size) := ⟨_, fun _ h => h, rfl⟩
  have HBX0 := hid (heap_alloc_new w (Obj.cells (fileCells f) 80))
  have E1 := hid (show Below B w (w.alloc (Obj.cells (fileCells f) 80)) by rw [HB0.out]; exact (Ext.rfl w).al _)
  have hB1 : B ≤ (w.alloc (Obj.cells (fileCells f) 80)).heap.size := by rw [HB0.out, alloc_size]; omega
  generalize w.alloc (Obj.cells (fileCells f) 80) = w1 at *
  generalize hgq : w.heap.size = g0 at *
  have HGQ := hid hgq
  clear hgq
  go_loopw [5, 6, 7] (fun o d t wr => ∃ j : Nat, j ≤ l.length ∧ t = .int .i64 j ∧ Ext w1 wr ∧ d = .bool ((l.take j).any (aheadF f)) ∧ OwnFiles wr w1.heap.size o (insTo f (l.take j))) (fun _ _ t _ => l.length - (intOf t).toNat)
  case atStart => exact ⟨0, Nat.zero_le _, rfl, Ext.rfl _, rfl, World.ownsRow_nil _ _ _ _⟩
  case round =>
    obtain ⟨j, hj, rfl, he, rfl, hown⟩ := hrel
    have HE := hid he
    have HO := hid hown
    clear he hown
    have HBX := hid ((HE.out.block _ (vblk_lt HBX0.out)).trans HBX0.out)
    have HEW := hid (show Below B w wr from Below.trans E1.out (Below.mono HE.out hB1))
    have hBr : B ≤ wr.heap.size := Nat.le_trans hB1 HE.out.size
    by_cases hlt : j < l.length
    · obtain ⟨b1, off, rfl, hcell⟩ := HC.out (by omega)
      have HCE := hid (fun i hi => ext_cellq (HBB.out _ HEW.out) (hcell j hlt i hi) hi rfl)
      have HRA := hid (show ∀ w', Ext wr w' → w'.rangeAt b1 (off + j * 9) (eFile (nth l j)) from fun w' he i v hv => by
        have hi : i < 9 := (List.getElem?_eq_some_iff.1 hv).1
        exact (ext_cellq he (HCE.out i hi) hi rfl).trans hv)
      have hlen := insTo_len f (l.take j)
      rw [List.length_take] at hlen
      have hts := take_succ_nth l j hlt
      have HTS := hid hts
      have hcell0 := hid (hcell j hlt)
      clear hts hcell
      generalize hda : (l.take j).any (aheadF f) = da at *
      have HDA := hid hda
      clear hda
      go_wp2_with fail
      refine wp_draw (by kernel_rfl) (by kernel_rfl) ?_
      refine rg_step 15 (ob_loadrow (cs := fileCells f) (by rfl) (by rfl) (fun w' he => (he.block _ (vblk_lt HBX.out)).trans HBX.out) Try.underlying80 rfl (by kernel_rfl)) rfl (by rfl) ?_
      refine rg_step 16 (ob_move (by rfl) (by rfl)) rfl (by rfl) ?_
      refine rg_step 17 (ob_move (by rfl) (by rfl)) rfl (by rfl) ?_
      refine rg_step 18 (ob_index 9 (off + j * 9) (by rfl) (by rfl) (by rfl) Try.underlying64 (by kernel_rfl) (Int.natCast_nonneg j) (Int.ofNat_lt.2 hlt) (by rw [Int.toNat_natCast])) rfl (by rfl) ?_
      refine rg_step 19 (ob_loadmid (cs := eFile (nth l j)) (by rfl) (by rfl) (fun w' he => HRA.out w' he) Try.underlying80 rfl (by kernel_rfl)) rfl (by rfl) ?_
      refine rg_step 20 (ob_call (.ex (.bool (kl f.large.user (nth l j).small.user))) (by rfl) cf_apart (fun w he => gives_ex (apart_in f (nth l j) w))) rfl (by rfl) ?_
      refine rg_step 8 (ob_assign (by rfl) (by rfl)) rfl (by rfl) ?_
      refine rg_end ?_
      intro w4 he4
      simp only [asg, List.set_cons_zero, List.set_cons_succ, List.map_cons, List.map_nil, opens]
      have E4 := hid he4
      have BF4 := hid ((he4.block _ (vblk_lt HBX.out)).trans HBX.out)
      have HO4 := hid (owns_ext HO.out he4)
      have HCE4 := hid (fun i hi => (ext_cellq he4 (HCE.out i hi) hi rfl))
      clear he4
      obtain ⟨c0, c1, c2, c3, c4, c5, c6, c7, c8⟩ := file_cells BF4.out
      go_upto_if 23 with fail
      go_cut [8] from 24 to 31 (fun v wx => v = .bool (aheadF f (nth l j)) ∧ Ext w4 wx)
      case first =>
        obtain ⟨q0, q1, q2, q3, q4, q5, q6, q7, q8⟩ := SlS.at9 (w := w4) (enc := eFile) (xs := l) (k := j) HCE4.out rfl
        by_cases hl0 : f.level = 0
        · have d1 : (f.level == 0) = true := by simpa using hl0
          have hah := hid (show aheadF f (nth l j) = decide ((nth l j).num < f.num) by unfold aheadF; rw [if_pos hl0])
          clear hl0
          go_wp2_with fail
          go_quiet (fail)
          go_wp2_with fail
          go_meet
          case rel => exact ⟨by rw [hah.out], (Ext.rfl w4).drN _⟩
        · have d1 : (f.level == 0) = false := by simpa using hl0
          have hah := hid (show aheadF f (nth l j) = kl f.large.user (nth l j).small.user by unfold aheadF; rw [if_neg hl0])
          clear hl0
          go_wp2_with fail
          go_meet
          case rel => exact ⟨by rw [hah.out], Ext.rfl w4⟩
      case rest =>
        obtain ⟨rfl, hec⟩ := hcut
        have O4c := hid (owns_ext HO4.out hec)
        have HEc := hid ((HE.out.tr E4.out).tr hec)
        have hBc : w1.heap.size ≤ wc.heap.size := HEc.out.size
        have BFc := hid ((hec.block _ (vblk_lt BF4.out)).trans BF4.out)
        have HCc := hid (fun i hi => (ext_cellq hec (HCE4.out i hi) hi rfl))
        clear c0 c1 c2 c3 c4 c5 c6 c7 c8 hec
        obtain ⟨q0, q1, q2, q3, q4, q5, q6, q7, q8⟩ := SlS.at9 (w := wc) (enc := eFile) (xs := l) (k := j) HCc.out rfl
        cases da
        · cases hah : aheadF f (nth l j)
          · have HAH := hid hah
            clear hah
            go_wp2_with (at_builtin; refine wpList_app el_file rfl (owns_ext O4c.out ((Ext.rfl wc).al _)) rfl rfl (news_block wc (eFile (nth l j)).toArray _) (one_file _) (by omega) (Nat.le_trans hBc ((Ext.rfl wc).al _).size) ?_; intro v' w6 hown6 hg6 hb6; have O6 := hid (OwnFiles.snoc hown6); have B6 := hid (Below.trans (HEc.out.al _) hb6); clear hown6 hg6 hb6)
            go_roundw
            case rel => exact ⟨j + 1, by omega, by go_num, B6.out, by rw [HTS.out, List.any_append, HDA.out]; simp [HAH.out], by rw [HTS.out, insTo_not HDA.out HAH.out]; exact O6.out⟩
            case measure => simp [intOf]; omega
          · have HAH := hid hah
            clear hah
            obtain ⟨c0, c1, c2, c3, c4, c5, c6, c7, c8⟩ := file_cells BFc.out
            go_upto_region 12 with (at_builtin; refine wpList_app el_file rfl (owns_ext O4c.out ((Ext.rfl wc).al _)) rfl rfl (news_block wc (eFile f).toArray _) (one_file _) (by omega) (Nat.le_trans hBc ((Ext.rfl wc).al _).size) ?_; intro v' w6 hown6 hg6 hb6; have O6 := hid (OwnFiles.snoc hown6); have B6 := hid (Below.trans (HEc.out.al _) hb6); obtain ⟨q0, q1, q2, q3, q4, q5, q6, q7, q8⟩ := SlS.at9 (w := w6) (enc := eFile) (xs := l) (k := j) (fun i hi => ext_cellq (HBB.out _ (Below.trans E1.out (Below.mono B6.out hB1))) (hcell0.out i hi) hi rfl) rfl; clear hown6 hg6 hb6)
            go_wp2_with (at_builtin; refine wpList_app el_file rfl (owns_ext O6.out ((Ext.rfl w6).al _)) rfl rfl (news_block w6 (eFile (nth l j)).toArray _) (one_file _) (by simp only [List.length_append, List.length_cons, List.length_nil]; omega) (Nat.le_trans B6.out.size ((Ext.rfl w6).al _).size) ?_; intro v7 w7 hown7 hg7 hb7; have O7 := hid (OwnFiles.snoc hown7); have B7 := hid (Below.trans (Ext.tr B6.out ((Ext.rfl w6).al _)) hb7); clear hown7 hg7 hb7)
            go_roundw
            case rel => exact ⟨j + 1, by omega, by go_num, B7.out, by rw [HTS.out, List.any_append, HDA.out]; simp [HAH.out], by rw [HTS.out, insTo_now HDA.out HAH.out]; exact O7.out⟩
            case measure => simp [intOf]; omega
        · go_wp2_with (at_builtin; refine wpList_app el_file rfl (owns_ext O4c.out ((Ext.rfl wc).al _)) rfl rfl (news_block wc (eFile (nth l j)).toArray _) (one_file _) (by omega) (Nat.le_trans hBc ((Ext.rfl wc).al _).size) ?_; intro v' w6 hown6 hg6 hb6; have O6 := hid (OwnFiles.snoc hown6); have B6 := hid (Below.trans (HEc.out.al _) hb6); clear hown6 hg6 hb6)
          go_roundw
          case rel => exact ⟨j + 1, by omega, by go_num, B6.out, by rw [HTS.out, List.any_append, HDA.out]; rfl, by rw [HTS.out, insTo_hit HDA.out]; exact O6.out⟩
          case measure => simp [intOf]; omega
    · have : j = l.length := by omega
      subst this
      rw [List.take_length] at HO
      have hlen := insTo_len f l
      obtain ⟨c0, c1, c2, c3, c4, c5, c6, c7, c8⟩ := file_cells HBX.out
      cases hda : l.any (aheadF f)
      · have HDA := hid hda
        have hins : insF f l = insTo f l ++ [f] := by
          have := insF_none f [] l hda
          rw [List.append_nil] at this
          rw [this]; unfold insTo; rw [if_neg (by rw [hda]; decide)]; rfl
        have HI := hid hins
        clear hda hins
        rw [List.take_length, HDA.out]
        go_wp2_with (at_builtin; refine wpList_app el_file rfl (owns_ext HO.out ((Ext.rfl wr).al _)) rfl rfl (news_block wr (eFile f).toArray _) (one_file _) (by omega) (HE.out.al _).size ?_; intro v' w6 hown6 hg6 hb6; have O6 := hid (OwnFiles.snoc hown6); have B6 := hid (Below.trans (HE.out.al _) hb6); clear hown6 hg6 hb6)
        go_ret
        exact ⟨_, rfl, by rw [HGQ.out, ← HB0.out, HI.out]; exact owns_base O6.out hB1, HBB.out _ (Below.trans E1.out (Below.mono B6.out hB1))⟩
      · have HDA := hid hda
        have HI := hid (show insF f l = insTo f l by unfold insTo; rw [if_pos hda])
        clear hda
        rw [List.take_length, HDA.out]
        go_wp2_with fail
        go_ret
        exact ⟨_, rfl, by rw [HGQ.out, ← HB0.out, HI.out]; exact owns_base HO.out hB1, HBB.out _ HEW.out⟩
end Go.Proofs.Ytoonhcmeklmnlaa
