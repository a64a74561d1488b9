/- The walk of the law VersionAsks. -/
import Derived.Test.YtoonhcmeklmnlaaVrC
import Derived.Test.YtoonhcmeklmnlaaVrL
set_option linter.unusedSimpArgs false
set_option linter.unusedVariables false
set_option linter.unnecessarySimpa false
namespace Go.Proofs.Ytoonhcmeklmnlaa
open Go.RowKit Go.Rg Go.St

def ovAny (V : Lv) (k : Int) (a b : ByteArray) : List File := if 0 ≤ k ∧ k < 4 then ovs a b (V k.toNat) else []
def sumAny (V : Lv) (k : Int) : Int := if 0 ≤ k ∧ k < 4 then sumTo (V k.toNat) (V k.toNat).length else 0
theorem nil_files {w w' : World} {e : Ending} (h : NilP w e w') : FilesExt [] w e w' := ⟨_, h.1, World.ownsRow_nil _ _ _ _, h.2⟩
theorem over_any (v0 v1 v2 v3 : Value) (V : Lv) (k : Int) (a b : ByteArray) (w : World) (hV : Ver w v0 v1 v2 v3 V) (hn : ∀ n, n < 4 → (V n).length ≤ 1000) :
    Calls Try.prog 45 #[.agg #[v0, v1, v2, v3], .int .i64 k, .string a, .string b] w (FilesExt (ovAny V k a b) w) := by
  unfold ovAny
  by_cases h : 0 ≤ k ∧ k < 4
  · rw [if_pos h]
    exact vover_in v0 v1 v2 v3 V k.toNat k (by omega) (by omega) a b w hV (by have := hn k.toNat (by omega); omega)
  · rw [if_neg h]
    exact (over_out v0 v1 v2 v3 k (by omega) a b w).mono fun e w' h => nil_files h
theorem rover_any (v0 v1 v2 v3 : Value) (V : Lv) (k : Int) (a b : ByteArray) (w : World) (hV : Ver w v0 v1 v2 v3 V) (hn : ∀ n, n < 4 → (V n).length ≤ 1000) :
    Calls Try.prog 46 #[.agg #[v0, v1, v2, v3], .int .i64 k, .string a, .string b] w (FilesExt (ovAny V k a b) w) := by
  unfold ovAny
  by_cases h : 0 ≤ k ∧ k < 4
  · rw [if_pos h]
    exact rover_in v0 v1 v2 v3 V k.toNat k (by omega) (by omega) a b w hV (by have := hn k.toNat (by omega); omega)
  · rw [if_neg h]
    exact (rover_out v0 v1 v2 v3 k (by omega) a b w).mono fun e w' h => nil_files h
theorem size_any (v0 v1 v2 v3 : Value) (V : Lv) (k : Int) (w : World) (hV : Ver w v0 v1 v2 v3 V) : Calls Try.prog 51 #[.agg #[v0, v1, v2, v3], .int .i64 k] w (SizePost (sumAny V k) w) := by
  unfold sumAny
  by_cases h : 0 ≤ k ∧ k < 4
  · rw [if_pos h]
    have := size_in v0 v1 v2 v3 V k.toNat (by omega) w hV
    rwa [show ((k.toNat : Nat) : Int) = k by omega] at this
  · rw [if_neg h]
    exact size_out v0 v1 v2 v3 k (by omega) w
theorem rsize_any (v0 v1 v2 v3 : Value) (V : Lv) (k : Int) (w : World) (hV : Ver w v0 v1 v2 v3 V) : Calls Try.prog 52 #[.agg #[v0, v1, v2, v3], .int .i64 k] w (SizePost (sumAny V k) w) := by
  unfold sumAny
  by_cases h : 0 ≤ k ∧ k < 4
  · rw [if_pos h]
    have := rsize_in v0 v1 v2 v3 V k.toNat (by omega) w hV
    rwa [show ((k.toNat : Nat) : Int) = k by omega] at this
  · rw [if_neg h]
    exact rsize_out v0 v1 v2 v3 k (by omega) w
theorem cf_vsize (args : Array Value) (w : World) : (callFunc 51 args).run Try.prog w = .ok (.enter 51 args) w := by kernel_rfl
theorem cf_rvsize (args : Array Value) (w : World) : (callFunc 52 args).run Try.prog w = .ok (.enter 52 args) w := by kernel_rfl
theorem own_sl {w w' : World} {base : Nat} {v : Value} {xs : List File} (h : OwnFiles w base v xs) (he : Ext w w') : SlFile w' v xs := (owns_slS h rfl eFile_length (by decide)).file he
set_option maxRecDepth 100000 in
set_option maxHeartbeats 16000000 in
theorem versionAsks_walk (v0 v1 v2 v3 : Value) (V : Lv) (k : Int) (a b : ByteArray) (w : World) (hV : Ver w v0 v1 v2 v3 V) (hn : ∀ i, i < 4 → (V i).length ≤ 140737488351232) :
    Calls Try.prog 13 #[.agg #[v0, v1, v2, v3], .int .i64 k, .string a, .string b] w (AwakeP w) := by
  have HN := hid hn
  obtain ⟨va0, vb0, vc0, rfl⟩ := isSl_of hV.s0
  obtain ⟨va1, vb1, vc1, rfl⟩ := isSl_of hV.s1
  obtain ⟨va2, vb2, vc2, rfl⟩ := isSl_of hV.s2
  obtain ⟨va3, vb3, vc3, rfl⟩ := isSl_of hV.s3
  have HV := hid hV
  clear hV hn
  go_enter Try.func13, Try.ntmps13
  go_wp2_with fail
  have G1 := hid (heap_alloc_new w (Obj.cells #[.slice va0 vb0 vc0, .slice va1 vb1 vc1, .slice va2 vb2 vc2, .slice va3 vb3 vc3] 67))
  have E1 := hid ((Ext.rfl w).al (Obj.cells #[.slice va0 vb0 vc0, .slice va1 vb1 vc1, .slice va2 vb2 vc2, .slice va3 vb3 vc3] 67))
  generalize w.alloc (Obj.cells #[.slice va0 vb0 vc0, .slice va1 vb1 vc1, .slice va2 vb2 vc2, .slice va3 vb3 vc3] 67) = w1 at *
  have HC := hid (fun (w' : World) (h : Ext w1 w') => ver_cells ((h.block _ (vblk_lt G1.out)).trans G1.out))
  have HG := hid (fun (w' : World) (h : Ext w1 w') => (h.block _ (vblk_lt G1.out)).trans G1.out)
  have HVX := hid (fun (w' : World) (h : Ext w1 w') => HV.out.go (E1.out.tr h))
  clear G1 HV
  generalize w.heap.size = g0 at *
  refine (awake14 _).mono ?_
  rintro e wa ⟨rfl, he⟩
  have Ewa := hid he
  clear he
  obtain ⟨c0, c1, c2, c3⟩ := HC.out _ Ewa.out
  go_wp2_with fail
  refine (many14_in _ _ _ _ V _ (HVX.out _ Ewa.out) HN.out).mono ?_
  rintro e w2 ⟨rfl, he⟩
  have Ew2 := hid (Ewa.out.tr he)
  clear he c0 c1 c2 c3
  by_cases hm : 1000 < sumL V 4
  · have dm : decide (1000 < sumL V 4) = true := decide_eq_true hm
    rw [dm]
    go_wp2_with fail
    go_ret
    exact ⟨rfl, E1.out.tr Ew2.out⟩
  have dm : decide (1000 < sumL V 4) = false := decide_eq_false hm
  rw [dm]
  have HNV := hid (sumL_each (Nat.le_of_not_lt hm))
  clear hm dm
  obtain ⟨c0, c1, c2, c3⟩ := HC.out _ Ew2.out
  go_wp2_with fail
  refine (over_any _ _ _ _ V k a b _ (HVX.out _ Ew2.out) HNV.out).mono ?_
  rintro e w3 ⟨va, rfl, ho, he⟩
  have Ew3 := hid (Ew2.out.tr he)
  have HA := hid ho
  clear ho
  clear he c0 c1 c2 c3
  obtain ⟨c0, c1, c2, c3⟩ := HC.out _ Ew3.out
  go_wp2_with fail
  refine (rover_any _ _ _ _ V k a b _ (HVX.out _ Ew3.out) HNV.out).mono ?_
  rintro e w4 ⟨vb, rfl, ho, he⟩
  have Ew4 := hid (Ew3.out.tr he)
  have HB := hid ho
  have he4 := hid he
  clear ho
  clear he c0 c1 c2 c3
  obtain ⟨c0, c1, c2, c3⟩ := HC.out _ Ew4.out
  go_wp2_with fail
  refine (ask_in _ _ _ _ V a _ (HVX.out _ Ew4.out) (fun n hn => Nat.le_trans (HNV.out n hn) (by decide))).mono ?_
  rintro e w5 ⟨vc, rfl, ho, he⟩
  have Ew5 := hid (Ew4.out.tr he)
  have HCC := hid ho
  have he5 := hid he
  clear ho
  clear he c0 c1 c2 c3
  obtain ⟨c0, c1, c2, c3⟩ := HC.out _ Ew5.out
  go_wp2_with fail
  refine (rask_in _ _ _ _ V a _ (HVX.out _ Ew5.out) (fun n hn => Nat.le_trans (HNV.out n hn) (by decide))).mono ?_
  rintro e w6 ⟨vd, rfl, ho, he⟩
  have Ew6 := hid (Ew5.out.tr he)
  have HD := hid ho
  have he6 := hid he
  clear ho
  clear he c0 c1 c2 c3
  go_wp2_with fail
  refine (samefiles_yes va vb _ _ (own_sl HA.out ((he4.out.tr he5.out).tr he6.out)) (own_sl HB.out (he5.out.tr he6.out))).mono ?_
  rintro e w7 ⟨rfl, he⟩
  have Ew7 := hid (Ew6.out.tr he)
  have he7 := hid he
  clear he
  go_wp2_with fail
  refine (samefiles_yes vc vd _ _ (own_sl HCC.out (he6.out.tr he7.out)) (own_sl HD.out he7.out)).mono ?_
  rintro e w8 ⟨rfl, he⟩
  have Ew8 := hid (Ew7.out.tr he)
  clear he HA HB HCC HD he4 he5 he6 he7
  obtain ⟨c0, c1, c2, c3⟩ := HC.out _ Ew8.out
  go_wp2_with fail
  refine (nums_in _ _ _ _ V _ (HVX.out _ Ew8.out) (fun n hn => Nat.le_trans (HNV.out n hn) (by decide))).mono ?_
  rintro e w9 ⟨vm, mo, rfl, hp, hs, hsl, he⟩
  have Ew9 := hid (Ew8.out.tr he)
  have HM := hid hsl
  have HMP := hid hp
  have HMS := hid hs
  clear hp hs hsl
  clear he c0 c1 c2 c3
  obtain ⟨c0, c1, c2, c3⟩ := HC.out _ Ew9.out
  go_wp2_with fail
  refine (rnums_in _ _ _ _ V _ (HVX.out _ Ew9.out) (fun n hn => Nat.le_trans (HNV.out n hn) (by decide))).mono ?_
  rintro e w10 ⟨vn, no, rfl, hp, hs, hsl, he⟩
  have Ew10 := hid (Ew9.out.tr he)
  obtain rfl : mo = no := (sorted_perm hs HMS.out (hp.trans HMP.out.symm)).symm
  have HNN := hid hsl
  have he10 := hid he
  clear hp hs hsl
  clear he c0 c1 c2 c3
  obtain ⟨am, cm, rfl, hcm, hmm, hcellm⟩ := (HM.out.go he10.out).ex
  obtain ⟨an, cn, rfl, hcn, hmn, hcelln⟩ := HNN.out.ex
  have HCM := hid hcellm
  have HCN := hid hcelln
  have HLL := hid (show mo.length ≤ 1000000 by rw [HMP.out.length_eq]; have := seenL_len HNV.out 4 (by omega) 0 (Nat.zero_le _); omega)
  have hll := HLL.out
  clear hcellm hcelln HM HNN
  go_wp2_with fail
  go_loopw [18] (fun t wr => ∃ i : Nat, i ≤ mo.length ∧ t = .int .i64 i ∧ Ext w10 wr) (fun t _ => mo.length - (intOf t).toNat)
  case atStart => exact ⟨0, Nat.zero_le _, rfl, Ext.rfl _⟩
  case round =>
    obtain ⟨i, hi, rfl, he⟩ := hrel
    have HE := hid he
    clear he
    by_cases hil : i < mo.length
    · obtain ⟨bm, om, rfl, hcm2⟩ := HCM.out (by omega)
      obtain ⟨bn, on_, rfl, hcn2⟩ := HCN.out (by omega)
      have q1 := ext_cell HE.out (hcm2 i hil)
      have q2 := ext_cell HE.out (hcn2 i hil)
      clear hcm2 hcn2
      go_wp2_with fail
      go_quiet (fail)
      go_wp2_with fail
      go_roundw
      case rel => exact ⟨i + 1, by omega, by go_num, HE.out.tr ((Ext.rfl wr).drN _)⟩
      case measure => first | (simp [intOf]; done) | (simp [intOf]; omega)
    · have EWR := hid (Ew10.out.tr HE.out)
      clear HE
      go_upto_region 19 with fail
      refine wp_draw (by kernel_rfl) (by kernel_rfl) ?_
      refine rg_step 69 (ob_move (by rfl) (by rfl)) rfl (by rfl) ?_
      refine rg_step 70 (ob_move (by rfl) (by rfl)) rfl (by rfl) ?_
      refine rg_step 71 (ob_move (by rfl) (by rfl)) rfl (by rfl) ?_
      refine rg_step 72 (ob_pick true (by rfl) (by rfl) (by rfl)) rfl (by rfl) ?_
      refine rg_step 73 (ob_move (by rfl) (by rfl)) rfl (by rfl) ?_
      refine rg_step 74 (ob_move (by rfl) (by rfl)) rfl (by rfl) ?_
      refine rg_step 75 (ob_pick true (by rfl) (by rfl) (by rfl)) rfl (by rfl) ?_
      refine rg_step 76 (ob_move (by rfl) (by rfl)) rfl (by rfl) ?_
      refine rg_step 77 (ob_loadrow (cs := #[.slice va0 vb0 vc0, .slice va1 vb1 vc1, .slice va2 vb2 vc2, .slice va3 vb3 vc3]) (by rfl) (by rfl) (fun w' he => HG.out _ (EWR.out.tr he)) Try.underlying67 rfl (by kernel_rfl)) rfl (by rfl) ?_
      refine rg_step 78 (ob_move (by rfl) (by rfl)) rfl (by rfl) ?_
      refine rg_step 79 (ob_call (.ex (.int .i64 (sumAny V k))) (by rfl) cf_vsize (fun w' he => gives_ex (size_any _ _ _ _ V k w' (HVX.out _ (EWR.out.tr he))))) rfl (by rfl) ?_
      refine rg_step 80 (ob_loadrow (cs := #[.slice va0 vb0 vc0, .slice va1 vb1 vc1, .slice va2 vb2 vc2, .slice va3 vb3 vc3]) (by rfl) (by rfl) (fun w' he => HG.out _ (EWR.out.tr he)) Try.underlying67 rfl (by kernel_rfl)) rfl (by rfl) ?_
      refine rg_step 81 (ob_move (by rfl) (by rfl)) rfl (by rfl) ?_
      refine rg_step 82 (ob_call (.ex (.int .i64 (sumAny V k))) (by rfl) cf_rvsize (fun w' he => gives_ex (rsize_any _ _ _ _ V k w' (HVX.out _ (EWR.out.tr he))))) rfl (by rfl) ?_
      refine rg_step 83 (ob_icmp true (by rfl) (by rfl) (by rfl) (by unfold icmp; simp)) rfl (by rfl) ?_
      refine rg_step 84 (ob_pick true (by rfl) (by rfl) (by rfl)) rfl (by rfl) ?_
      refine rg_step 8 (ob_assign (by rfl) (by rfl)) rfl (by rfl) ?_
      refine rg_end ?_
      intro wz hez
      simp only [asg, List.set_cons_zero, List.set_cons_succ, List.map_cons, List.map_nil, opens]
      have EZ := hid (EWR.out.tr hez)
      clear hez
      go_wp2_with fail
      go_ret
      exact ⟨rfl, E1.out.tr EZ.out⟩
end Go.Proofs.Ytoonhcmeklmnlaa
