/- Files that may be together: their numbers, sorted. -/
import Derived.Test.YtoonhcmeklmnlaaVrH
import Derived.Test.YtoonhcmeklmnlaaSo12
set_option linter.unusedSimpArgs false
set_option linter.unusedVariables false
set_option linter.unnecessarySimpa false
namespace Go.Proofs.Ytoonhcmeklmnlaa
open Go.RowKit Go.Rg Go.St

/-- numbers of a call's own that are read -/
def NumsP (L : List Int) (w : World) (e : Ending) (w' : World) : Prop :=
  ∃ (v : Value) (out : List Int), e = .returned v ∧ out.Perm L ∧ out.Pairwise (· ≤ ·) ∧ Sl1 w' v out.length (fun i => .int .u64 ((out[i]?).getD 0)) ∧ Ext w w'
theorem RowU.sl1 {b cap n : Nat} {f : Nat → Int} {w : World} (h : RowU b cap n f w) (hc : cap ≤ maxLen) : Sl1 w (.slice (some ⟨b, 0, none⟩) n cap) n (fun i => .int .u64 (f i)) := by
  refine ⟨_, _, rfl, ?_, hc, fun _ => ⟨b, 0, rfl, fun i hi => by rw [Nat.zero_add]; exact h.cell hi⟩⟩
  obtain ⟨_, _, h1, h2, _⟩ := h
  exact h2
theorem lvix_0 (v0 v1 v2 v3 : Value) (w : World) : (Instr.index 65 (.agg #[v0, v1, v2, v3]) (.int .i64 0)).run Try.prog w = .ok v0 w := by kernel_rfl
theorem lvix_1 (v0 v1 v2 v3 : Value) (w : World) : (Instr.index 65 (.agg #[v0, v1, v2, v3]) (.int .i64 1)).run Try.prog w = .ok v1 w := by kernel_rfl
theorem lvix_2 (v0 v1 v2 v3 : Value) (w : World) : (Instr.index 65 (.agg #[v0, v1, v2, v3]) (.int .i64 2)).run Try.prog w = .ok v2 w := by kernel_rfl
theorem lvix_3 (v0 v1 v2 v3 : Value) (w : World) : (Instr.index 65 (.agg #[v0, v1, v2, v3]) (.int .i64 3)).run Try.prog w = .ok v3 w := by kernel_rfl
set_option maxRecDepth 100000 in
set_option maxHeartbeats 4000000 in
theorem nums_in (v0 v1 v2 v3 : Value) (V : Lv) (w : World) (hV : Ver w v0 v1 v2 v3 V) (hn : ∀ n, n < 4 → (V n).length ≤ 200000) :
    Calls Try.prog 44 #[.agg #[v0, v1, v2, v3]] w (NumsP (seenL V 4 0) w) := by
  have HV := hid hV
  have HN := hid hn
  clear hV hn
  go_enter Try.func44, Try.ntmps44
  go_wp2_with fail
  obtain ⟨B, HBX, HB1⟩ : ∃ B, Hid (∀ w', Below B w w' → Ext w w') ∧ Hid (B = w.heap.size) := ⟨_, fun _ h => h, rfl⟩
  have HBR := hid (fun (w' : World) (h : Below B w w') => (show B ≤ w'.heap.size by rw [HB1.out]; exact h.size))
  have E1 := hid (show Below B w (w.alloc (Obj.cells #[v0, v1, v2, v3] 67)) by rw [HB1.out]; exact (Ext.rfl w).al _)
  generalize w.alloc (Obj.cells #[v0, v1, v2, v3] 67) = w1 at *
  go_loopw [3, 10] (fun o t wr => ∃ (n : Nat) (z : Int), z = n ∧ n ≤ 4 ∧ t = .int .i64 z ∧ Below B w wr ∧ OwnU wr B o (seenL V n 0)) (fun _ t _ => 4 - (intOf t).toNat)
  case atStart => exact ⟨0, 0, rfl, by omega, rfl, E1.out, World.ownsRow_nil _ _ _ _⟩
  case round =>
    clear E1
    obtain ⟨n, z, hz, hn, rfl, he, hown⟩ := hrel
    have HE := hid he
    have HO := hid hown
    clear he hown
    by_cases hlt : n < 4
    · have hs := HV.out.at hlt
      have hvn := HN.out n hlt
      have hsl := seenL_len HN.out n (by omega) 0 (Nat.zero_le _)
      obtain ⟨rfl, rfl⟩ | ⟨rfl, rfl⟩ | ⟨rfl, rfl⟩ | ⟨rfl, rfl⟩ : (n = 0 ∧ z = 0) ∨ (n = 1 ∧ z = 1) ∨ (n = 2 ∧ z = 2) ∨ (n = 3 ∧ z = 3) := by omega
      · clear hz hn hlt
        have HSLN := hid hsl
        clear hsl
        simp only [pick4] at hs
        obtain ⟨a, cap, rfl, hcap, hm, hc⟩ := hs.ex
        unfold maxLen at hm
        have HC := hid hc
        have hix := fun w => lvix_0 (.slice a (V 0).length cap) v1 v2 v3 w
        clear hs hc
        go_wp2_with fail
        clear hix
        go_loopw [3, 15] (fun o t wz => ∃ i : Nat, i ≤ (V 0).length ∧ t = .int .i64 i ∧ Below B w wz ∧ OwnU wz B o (seenL V 0 i)) (fun _ t _ => (V 0).length - (intOf t).toNat)
        case atStart => exact ⟨0, Nat.zero_le _, rfl, HE.out, HO.out⟩
        case round =>
          clear HE HO
          obtain ⟨i, hi, rfl, he, ho⟩ := hrel
          have HE := hid he
          have HO := hid ho
          clear he ho
          by_cases hil : i < (V 0).length
          · obtain ⟨b, off, rfl, hcell⟩ := HC.out (by omega)
            obtain ⟨c0, c1, c2, c3, c4, c5, c6, c7, c8⟩ := SlS.at9 (w := wr) (enc := eFile) (xs := V 0) (k := i) (fun k hk => ext_cellq (HBX.out _ HE.out) (hcell i hil k hk) hk rfl) rfl
            have HNX := hid (seenL_next V 0 i hil)
            have hll := seenL_len HN.out 0 (by omega) i (Nat.le_trans hi hvn)
            clear hcell
            generalize nth (V 0) i = f at *
            generalize seenL V 0 i = L at *
            have hb5 : B ≤ wr.heap.size := HBR.out _ HE.out
            go_upto_region 8 with fail
            have E2 := hid (show Below B w (wr.alloc (Obj.cells (fileCells f) 80)) from Below.trans HE.out (Below.mono ((Ext.rfl wr).al _) hb5))
            have O2 := hid (owns_ext HO.out ((Ext.rfl wr).al (Obj.cells (fileCells f) 80)))
            have B2 := hid (heap_alloc_new wr (Obj.cells (fileCells f) 80))
            have hb6 : B ≤ (wr.alloc (Obj.cells (fileCells f) 80)).heap.size := HBR.out _ E2.out
            clear c0 c1 c2 c3 c4 c5 c6 c7 c8 HE HO hb5
            generalize wr.alloc (Obj.cells (fileCells f) 80) = w5 at *
            generalize wr.heap.size = gf at *
            obtain ⟨c0, c1, c2, c3, c4, c5, c6, c7, c8⟩ := file_cells B2.out
            go_wp2_with (at_builtin; refine wpList_app el_u64 rfl (owns_ext O2.out ((Ext.rfl w5).al _)) rfl rfl (news_one w5 (eU f.num) _) (by simp [Value.oneCell']) (by omega) (Nat.le_trans hb6 ((Ext.rfl w5).al _).size) ?_; intro v' w6 hown6 hg6 hb7; have O6 := hid (OwnU.snoc hown6); have E6 := hid (show Below B w w6 from Below.trans E2.out (Below.trans (Below.mono ((Ext.rfl w5).al (Obj.cells #[eU f.num] 36)) hb6) hb7)); clear hown6 hg6 hb7)
            go_roundw
            case rel => exact ⟨i + 1, hil, by go_num, E6.out, by rw [HNX.out]; exact O6.out⟩
            case measure => first | (simp [intOf]; done) | (simp [intOf]; omega)
          · have hii : i = (V 0).length := by omega
            have HNX := hid (seenL_level V 0)
            subst hii
            go_wp2_with fail
            go_roundw
            case rel => exact ⟨0 + 1, 0 + 1, rfl, by omega, by go_num, HE.out, by rw [HNX.out]; exact HO.out⟩
            case measure => simp [intOf]
      · clear hz hn hlt
        have HSLN := hid hsl
        clear hsl
        simp only [pick4] at hs
        obtain ⟨a, cap, rfl, hcap, hm, hc⟩ := hs.ex
        unfold maxLen at hm
        have HC := hid hc
        have hix := fun w => lvix_1 v0 (.slice a (V 1).length cap) v2 v3 w
        clear hs hc
        go_wp2_with fail
        clear hix
        go_loopw [3, 15] (fun o t wz => ∃ i : Nat, i ≤ (V 1).length ∧ t = .int .i64 i ∧ Below B w wz ∧ OwnU wz B o (seenL V 1 i)) (fun _ t _ => (V 1).length - (intOf t).toNat)
        case atStart => exact ⟨0, Nat.zero_le _, rfl, HE.out, HO.out⟩
        case round =>
          clear HE HO
          obtain ⟨i, hi, rfl, he, ho⟩ := hrel
          have HE := hid he
          have HO := hid ho
          clear he ho
          by_cases hil : i < (V 1).length
          · obtain ⟨b, off, rfl, hcell⟩ := HC.out (by omega)
            obtain ⟨c0, c1, c2, c3, c4, c5, c6, c7, c8⟩ := SlS.at9 (w := wr) (enc := eFile) (xs := V 1) (k := i) (fun k hk => ext_cellq (HBX.out _ HE.out) (hcell i hil k hk) hk rfl) rfl
            have HNX := hid (seenL_next V 1 i hil)
            have hll := seenL_len HN.out 1 (by omega) i (Nat.le_trans hi hvn)
            clear hcell
            generalize nth (V 1) i = f at *
            generalize seenL V 1 i = L at *
            have hb5 : B ≤ wr.heap.size := HBR.out _ HE.out
            go_upto_region 8 with fail
            have E2 := hid (show Below B w (wr.alloc (Obj.cells (fileCells f) 80)) from Below.trans HE.out (Below.mono ((Ext.rfl wr).al _) hb5))
            have O2 := hid (owns_ext HO.out ((Ext.rfl wr).al (Obj.cells (fileCells f) 80)))
            have B2 := hid (heap_alloc_new wr (Obj.cells (fileCells f) 80))
            have hb6 : B ≤ (wr.alloc (Obj.cells (fileCells f) 80)).heap.size := HBR.out _ E2.out
            clear c0 c1 c2 c3 c4 c5 c6 c7 c8 HE HO hb5
            generalize wr.alloc (Obj.cells (fileCells f) 80) = w5 at *
            generalize wr.heap.size = gf at *
            obtain ⟨c0, c1, c2, c3, c4, c5, c6, c7, c8⟩ := file_cells B2.out
            go_wp2_with (at_builtin; refine wpList_app el_u64 rfl (owns_ext O2.out ((Ext.rfl w5).al _)) rfl rfl (news_one w5 (eU f.num) _) (by simp [Value.oneCell']) (by omega) (Nat.le_trans hb6 ((Ext.rfl w5).al _).size) ?_; intro v' w6 hown6 hg6 hb7; have O6 := hid (OwnU.snoc hown6); have E6 := hid (show Below B w w6 from Below.trans E2.out (Below.trans (Below.mono ((Ext.rfl w5).al (Obj.cells #[eU f.num] 36)) hb6) hb7)); clear hown6 hg6 hb7)
            go_roundw
            case rel => exact ⟨i + 1, hil, by go_num, E6.out, by rw [HNX.out]; exact O6.out⟩
            case measure => first | (simp [intOf]; done) | (simp [intOf]; omega)
          · have hii : i = (V 1).length := by omega
            have HNX := hid (seenL_level V 1)
            subst hii
            go_wp2_with fail
            go_roundw
            case rel => exact ⟨1 + 1, 1 + 1, rfl, by omega, by go_num, HE.out, by rw [HNX.out]; exact HO.out⟩
            case measure => simp [intOf]
      · clear hz hn hlt
        have HSLN := hid hsl
        clear hsl
        simp only [pick4] at hs
        obtain ⟨a, cap, rfl, hcap, hm, hc⟩ := hs.ex
        unfold maxLen at hm
        have HC := hid hc
        have hix := fun w => lvix_2 v0 v1 (.slice a (V 2).length cap) v3 w
        clear hs hc
        go_wp2_with fail
        clear hix
        go_loopw [3, 15] (fun o t wz => ∃ i : Nat, i ≤ (V 2).length ∧ t = .int .i64 i ∧ Below B w wz ∧ OwnU wz B o (seenL V 2 i)) (fun _ t _ => (V 2).length - (intOf t).toNat)
        case atStart => exact ⟨0, Nat.zero_le _, rfl, HE.out, HO.out⟩
        case round =>
          clear HE HO
          obtain ⟨i, hi, rfl, he, ho⟩ := hrel
          have HE := hid he
          have HO := hid ho
          clear he ho
          by_cases hil : i < (V 2).length
          · obtain ⟨b, off, rfl, hcell⟩ := HC.out (by omega)
            obtain ⟨c0, c1, c2, c3, c4, c5, c6, c7, c8⟩ := SlS.at9 (w := wr) (enc := eFile) (xs := V 2) (k := i) (fun k hk => ext_cellq (HBX.out _ HE.out) (hcell i hil k hk) hk rfl) rfl
            have HNX := hid (seenL_next V 2 i hil)
            have hll := seenL_len HN.out 2 (by omega) i (Nat.le_trans hi hvn)
            clear hcell
            generalize nth (V 2) i = f at *
            generalize seenL V 2 i = L at *
            have hb5 : B ≤ wr.heap.size := HBR.out _ HE.out
            go_upto_region 8 with fail
            have E2 := hid (show Below B w (wr.alloc (Obj.cells (fileCells f) 80)) from Below.trans HE.out (Below.mono ((Ext.rfl wr).al _) hb5))
            have O2 := hid (owns_ext HO.out ((Ext.rfl wr).al (Obj.cells (fileCells f) 80)))
            have B2 := hid (heap_alloc_new wr (Obj.cells (fileCells f) 80))
            have hb6 : B ≤ (wr.alloc (Obj.cells (fileCells f) 80)).heap.size := HBR.out _ E2.out
            clear c0 c1 c2 c3 c4 c5 c6 c7 c8 HE HO hb5
            generalize wr.alloc (Obj.cells (fileCells f) 80) = w5 at *
            generalize wr.heap.size = gf at *
            obtain ⟨c0, c1, c2, c3, c4, c5, c6, c7, c8⟩ := file_cells B2.out
            go_wp2_with (at_builtin; refine wpList_app el_u64 rfl (owns_ext O2.out ((Ext.rfl w5).al _)) rfl rfl (news_one w5 (eU f.num) _) (by simp [Value.oneCell']) (by omega) (Nat.le_trans hb6 ((Ext.rfl w5).al _).size) ?_; intro v' w6 hown6 hg6 hb7; have O6 := hid (OwnU.snoc hown6); have E6 := hid (show Below B w w6 from Below.trans E2.out (Below.trans (Below.mono ((Ext.rfl w5).al (Obj.cells #[eU f.num] 36)) hb6) hb7)); clear hown6 hg6 hb7)
            go_roundw
            case rel => exact ⟨i + 1, hil, by go_num, E6.out, by rw [HNX.out]; exact O6.out⟩
            case measure => first | (simp [intOf]; done) | (simp [intOf]; omega)
          · have hii : i = (V 2).length := by omega
            have HNX := hid (seenL_level V 2)
            subst hii
            go_wp2_with fail
            go_roundw
            case rel => exact ⟨2 + 1, 2 + 1, rfl, by omega, by go_num, HE.out, by rw [HNX.out]; exact HO.out⟩
            case measure => simp [intOf]
      · clear hz hn hlt
        have HSLN := hid hsl
        clear hsl
        simp only [pick4] at hs
        obtain ⟨a, cap, rfl, hcap, hm, hc⟩ := hs.ex
        unfold maxLen at hm
        have HC := hid hc
        have hix := fun w => lvix_3 v0 v1 v2 (.slice a (V 3).length cap) w
        clear hs hc
        go_wp2_with fail
        clear hix
        go_loopw [3, 15] (fun o t wz => ∃ i : Nat, i ≤ (V 3).length ∧ t = .int .i64 i ∧ Below B w wz ∧ OwnU wz B o (seenL V 3 i)) (fun _ t _ => (V 3).length - (intOf t).toNat)
        case atStart => exact ⟨0, Nat.zero_le _, rfl, HE.out, HO.out⟩
        case round =>
          clear HE HO
          obtain ⟨i, hi, rfl, he, ho⟩ := hrel
          have HE := hid he
          have HO := hid ho
          clear he ho
          by_cases hil : i < (V 3).length
          · obtain ⟨b, off, rfl, hcell⟩ := HC.out (by omega)
            obtain ⟨c0, c1, c2, c3, c4, c5, c6, c7, c8⟩ := SlS.at9 (w := wr) (enc := eFile) (xs := V 3) (k := i) (fun k hk => ext_cellq (HBX.out _ HE.out) (hcell i hil k hk) hk rfl) rfl
            have HNX := hid (seenL_next V 3 i hil)
            have hll := seenL_len HN.out 3 (by omega) i (Nat.le_trans hi hvn)
            clear hcell
            generalize nth (V 3) i = f at *
            generalize seenL V 3 i = L at *
            have hb5 : B ≤ wr.heap.size := HBR.out _ HE.out
            go_upto_region 8 with fail
            have E2 := hid (show Below B w (wr.alloc (Obj.cells (fileCells f) 80)) from Below.trans HE.out (Below.mono ((Ext.rfl wr).al _) hb5))
            have O2 := hid (owns_ext HO.out ((Ext.rfl wr).al (Obj.cells (fileCells f) 80)))
            have B2 := hid (heap_alloc_new wr (Obj.cells (fileCells f) 80))
            have hb6 : B ≤ (wr.alloc (Obj.cells (fileCells f) 80)).heap.size := HBR.out _ E2.out
            clear c0 c1 c2 c3 c4 c5 c6 c7 c8 HE HO hb5
            generalize wr.alloc (Obj.cells (fileCells f) 80) = w5 at *
            generalize wr.heap.size = gf at *
            obtain ⟨c0, c1, c2, c3, c4, c5, c6, c7, c8⟩ := file_cells B2.out
            go_wp2_with (at_builtin; refine wpList_app el_u64 rfl (owns_ext O2.out ((Ext.rfl w5).al _)) rfl rfl (news_one w5 (eU f.num) _) (by simp [Value.oneCell']) (by omega) (Nat.le_trans hb6 ((Ext.rfl w5).al _).size) ?_; intro v' w6 hown6 hg6 hb7; have O6 := hid (OwnU.snoc hown6); have E6 := hid (show Below B w w6 from Below.trans E2.out (Below.trans (Below.mono ((Ext.rfl w5).al (Obj.cells #[eU f.num] 36)) hb6) hb7)); clear hown6 hg6 hb7)
            go_roundw
            case rel => exact ⟨i + 1, hil, by go_num, E6.out, by rw [HNX.out]; exact O6.out⟩
            case measure => first | (simp [intOf]; done) | (simp [intOf]; omega)
          · have hii : i = (V 3).length := by omega
            have HNX := hid (seenL_level V 3)
            subst hii
            go_wp2_with fail
            go_roundw
            case rel => exact ⟨3 + 1, 3 + 1, rfl, by omega, by go_num, HE.out, by rw [HNX.out]; exact HO.out⟩
            case measure => simp [intOf]
    · obtain rfl : n = 4 := by omega
      obtain rfl : z = 4 := by omega
      clear hz hn hlt
      have HEX := hid (HBX.out _ HE.out)
      rcases row_of HO.out rfl with ⟨rfl, hnil⟩ | ⟨b, cap, rfl, hrow, hcm, hbb⟩
      · have HNIL := hid hnil
        clear hnil
        go_wp2_with fail
        refine (sort_nil _).mono ?_
        rintro e w2 ⟨rfl, h2⟩
        go_wp2_with fail
        go_ret
        exact ⟨_, [], rfl, by rw [HNIL.out], List.Pairwise.nil, Sl1.nil _ _, HEX.out.tr h2⟩
      · have HLEN := hid (show (seenL V 4 0).length ≤ 2305843009213693952 by have := seenL_len HN.out 4 (by omega) 0 (Nat.zero_le _); omega)
        have HR := hid hrow
        have HBB := hid hbb
        have HCM := hid hcm
        clear hrow hbb hcm HO
        obtain ⟨L, hL⟩ : ∃ L, L = seenL V 4 0 := ⟨_, rfl⟩
        rw [← hL] at HLEN HR ⊢
        have HLQ := hid hL
        clear hL
        obtain ⟨n, hn⟩ : ∃ n, n = L.length := ⟨_, rfl⟩
        rw [← hn] at HLEN HR ⊢
        have HNL := hid hn
        clear hn
        obtain ⟨f0, hf0⟩ : ∃ f0 : Nat → Int, f0 = fun k => (L[k]?).getD 0 := ⟨_, rfl⟩
        rw [← hf0] at HR
        have HF0 := hid hf0
        clear hf0
        go_wp2_with fail
        refine (sort_in b cap n f0 _ HR.out HLEN.out).mono ?_
        rintro e w2 ⟨rfl, g, r2, row2, b2, s2⟩
        have hp := re_perm r2
        rw [HF0.out, HNL.out, list_of_get] at hp
        have HP := hid (show (listOf g n).Perm L by rw [HNL.out]; exact hp)
        have HS := hid (srt_list s2)
        have HSL := hid (Sl1.cong (c' := fun i => .int .u64 (((listOf g n)[i]?).getD 0)) (row2.sl1 HCM.out) fun i hi => by unfold listOf; simp [hi])
        have HE2 := hid (show Ext w w2 from HBX.out _ (Below.trans HE.out (Below.mono b2 HBB.out)))
        clear hp r2 row2 b2 s2
        go_wp2_with fail
        go_ret
        exact ⟨_, listOf g n, rfl, by rw [← HLQ.out]; exact HP.out, HS.out, by rw [listOf_len]; exact HSL.out, HE2.out⟩
end Go.Proofs.Ytoonhcmeklmnlaa
