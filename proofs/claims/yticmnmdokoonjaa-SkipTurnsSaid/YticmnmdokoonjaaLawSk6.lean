/- The walk of the law SkipTurns. -/
import Derived.Test.YticmnmdokoonjaaSk18
import Derived.OwnWalk
set_option linter.unusedSimpArgs false
set_option linter.unusedVariables false
set_option linter.unnecessarySimpa false
namespace Go.Proofs.Yticmnmdokoonjaa
open Go.RowKit Go.Rg Go.St

theorem boolE : ElT Try.prog 66 4 1 1 := ⟨by kernel_rfl, by kernel_rfl, by decide, by decide⟩
theorem bool_info : (Try.prog.info? 4).map (fun i => (i.zero, i.size, i.bytes)) = some (some (.bool false), 1, 1) := by kernel_rfl
theorem strs_info : (Try.prog.info? 63).map (fun i => (i.zero, i.size, i.bytes)) = some (some (.slice none 0 0), 1, 24) := by kernel_rfl

set_option maxRecDepth 20000 in
set_option maxHeartbeats 4000000 in
theorem skipTurns_walk (v0 v1 : Value) (ps : List Put) (picks : List Int) (w : World) (h0 : SlS w v0 2 ePut ps) (hr : ∀ p, p ∈ ps → -9223372036854775808 ≤ p.2 ∧ p.2 ≤ 9223372036854775807) (h1 : SlInt w v1 picks)
    (hr1 : ∀ p, p ∈ picks → -9223372036854775808 ≤ p ∧ p ≤ 9223372036854775807) :
    Calls Try.prog 10 #[v0, v1] w (TrueExt w) := by
  have H0 := hid h0
  have H1 := hid h1
  have HR := hid hr
  have HR1 := hid hr1
  clear h0 h1 hr hr1
  obtain ⟨bi, hbi, hbz, hbs, hbb⟩ := info_parts bool_info
  obtain ⟨si, hsi, hsz, hss, hsb⟩ := info_parts strs_info
  have HBI := hid hbi
  have HBZ := hid hbz
  have HBS := hid hbs
  have HBB := hid hbb
  have HSI := hid hsi
  have HSZ := hid hsz
  have HSS := hid hss
  have HSB := hid hsb
  clear hbi hbz hbs hbb hsi hsz hss hsb
  go_enter Try.func10, Try.ntmps10
  go_wp2_with fail
  refine (awake07 w).mono ?_
  rintro e w1 ⟨rfl, he1⟩
  go_wp2_with fail
  refine (new_ls 1000 (by decide) (by decide) _).mono ?_
  rintro e w2 ⟨lb, rfl, hl2, he2⟩
  go_wp2_with fail
  refine (begun_in w1.heap.size lb w2 v0 ps he2.size hl2 HR.out (fun w' hk => H0.out.go (fun _ => rfl) (ext_keeps (he1.trans (ext_below he2 he1.size)) hk he1.size))).mono ?_
  rintro e w3 ⟨kv, hv, rfl, hbg⟩
  have HD := hid (held_begun hbg (he1.trans (ext_below he2 he1.size)) he1.size)
  have HB2 := hid (Nat.le_trans he1.size he2.size)
  have HB3 := hid hbg.kp.size
  have hn := (begK_n (ps := ps.take 60) (room := 1000) (ps.take 60).length (Nat.le_refl _)).1
  rw [List.take_length] at hn
  have hn60 : (begK (SK.new 1000) (ps.take 60)).n ≤ 60 := by have := List.length_take_le 60 ps; omega
  have hI := hid hbg.li.1
  have hLV := hid (begK_lv (room := 1000) (ps.take 60))
  generalize begK (SK.new 1000) (ps.take 60) = K at *
  generalize w1.heap.size = B at *
  generalize w2.heap.size = B2 at *
  clear hbg he1 he2 hl2 hn
  obtain ⟨ak, ck, rfl, _⟩ := len_of HD.out.ks
  obtain ⟨ap, cp, rfl, _, hmp, hcp⟩ := H1.out.ex
  unfold maxLen at hmp
  clear hcp
  by_cases hz : K.n = 0
  · have hz' : ((K.n : Nat) : Int) = 0 := by omega
    go_wp2
    go_ret
    exact ⟨rfl, HD.out.ex⟩
  have hpos : 0 < K.n := by omega
  have hzb : (((K.n : Nat) : Int) == 0) = false := by simp; omega
  clear hz
  have HI := hid hI
  clear hI
  go_wp2_with (first | (at_make; refine wpList_make_full _ rfl _ _ 66 rfl B2 4 bi (.bool false) 1 boolE.und HBI.out HBZ.out HBS.out _ _ _ _ K.n rfl rfl rfl rfl (by rw [HBB.out]; omega) (by unfold maxLen; omega) HB3.out ?_; intro w4 hown4 hg4; have R4 := hid (row_made hown4); have E4 := hid (ext_grown_none hg4); clear hown4 hg4) | (at_make; refine wpList_make_full _ rfl _ _ 67 rfl B2 63 si (.slice none 0 0) 1 (by kernel_rfl) HSI.out HSZ.out HSS.out _ _ _ _ 8 rfl rfl rfl rfl (by rw [HSB.out]; omega) (by unfold maxLen; omega) (Nat.le_trans HB3.out E4.out.size) ?_; intro w5 hown5 hg5; have R5 := hid (row_made hown5); have E5 := hid (ext_grown_none hg5); clear hown5 hg5))
  have HT : Hid (Turn B B2 lb w3.heap.size w4.heap.size w w5 K K (fun _ => K) (fun i => decide (K.lv i = K.ht i)) (fun _ => .slice none 0 0) (.slice ak K.n ck) hv) := hid
    ⟨HD.out.ext (E4.out.tr E5.out), (R4.out.ext E5.out).cong (fun i hi => by rw [hLV.out i]; have := (HI.out.ht i hi).1; rw [decide_eq_false (by omega)]), R5.out, fun l hl => ⟨[], lvl_none HI.out (fun j _ => hLV.out j) hl, World.ownsRow_nil _ _ _ _⟩, HB2.out⟩
  generalize w3.heap.size = D at *
  generalize w4.heap.size = T at *
  clear R4 R5 E4 E5 HB3 HD HI hLV HBI HBZ HBS HBB HSI HSZ HSS HSB
  go_loopw [13] (fun t wr => ∃ k : Nat, k ≤ picks.length ∧ k ≤ 300 ∧ t = .int .i64 k ∧ ∃ K' f, Turn B B2 lb D T w wr K K' (fun _ => K') (fun i => decide (K'.lv i = K.ht i)) f (.slice ak K.n ck) hv) (fun t _ => picks.length - (intOf t).toNat)
  case atStart => exact ⟨0, Nat.zero_le _, Nat.zero_le _, rfl, K, _, HT.out⟩
  case round =>
    clear HT
    obtain ⟨k, hk, hk50, rfl, K', f, hh⟩ := hrel
    have HH := hid hh
    clear hh
    by_cases hlt : k < picks.length ∧ k < 300
    · obtain ⟨hlt, hlt50⟩ := hlt
      obtain ⟨a', c', he, _, _, hc⟩ := (H1.out.go HH.out.hd.ex).ex
      obtain ⟨b, off, ha, hcell⟩ := hc (by omega)
      subst ha
      simp only [Value.slice.injEq] at he
      obtain ⟨rfl, _, rfl⟩ := he
      have c0 := hcell k hlt
      have hrange := HR1.out _ (nth_mem picks k hlt)
      generalize nth picks k = p at *
      clear hc hcell
      rcases pick_cases p hpos with ⟨hneg, q, hq, hx⟩ | ⟨hneg, q, hq, hx⟩
      all_goals
        go_wp2_with fail
        refine (step_ls HH.out.hd.li (i := q) (by rw [HH.out.hd.sm.n]; exact hq)).mono ?_
        rintro e w4 ⟨rfl, hl4, hk4⟩
        have P1 := hid (HH.out.go hl4 (HH.out.hd.sm.step q) hk4)
        have hdn : decide (K'.lv q = K.ht q) = true → decide ((stepK K' q).lv q = K'.ht q) = true := fun h => by
          rw [HH.out.hd.sm.ht, stepK_done (by rw [HH.out.hd.sm.ht]; exact of_decide_eq_true h)]; exact h
        have hib : decide ((stepK K' q).lv q = K'.ht q) = decide ((stepK K' q).lv q = K.ht q) := by rw [HH.out.hd.sm.ht]
        clear hl4 hk4 c0 hx hneg hrange
        have c1 := P1.out.dr.cell hq
        have f1 := P1.out.dr.frozen q
        obtain ⟨db, hdb⟩ : ∃ db, decide (K'.lv q = K.ht q) = db := ⟨_, rfl⟩
        obtain ⟨isb, hisb⟩ : ∃ isb, decide ((stepK K' q).lv q = K'.ht q) = isb := ⟨_, rfl⟩
        rw [hdb] at c1
        rw [hisb]
        rw [hdb, hisb] at hdn
        rw [hisb] at hib
        have hP2 := (P1.out.setD hq isb).cong (fun _ _ => rfl) (dn' := fun i => decide ((stepK K' q).lv i = K.ht i)) (fun i hi => by
            by_cases e : i = q
            · subst e; rw [upd_same]; exact hib
            · rw [upd_other _ _ _ e, (stepK_lv K' q).1 i e])
        have P2 := hid hP2
        clear hib hP2
        cases db <;> cases isb
        case true.false => exact absurd (hdn rfl) (by decide)
        all_goals
          clear hdn
          go_wp2_with fail
          clear P1 c1 f1
          refine (looks_turn P2.out hn60 (fun i hi => rfl)).mono ?_
          rintro e w5 ⟨rfl, he5⟩
          have P3 := hid (P2.out.ext he5)
          clear he5 P2
          have hq' : q < K'.n := by rw [HH.out.hd.sm.n]; exact hq
          have HQ := hid hq'
          have HN' := hid HH.out.hd.sm.n
          clear hq' HH
          go_wp2
          go_loopw [19, 20] (fun c t wr => ∃ m, m ≤ 8 ∧ t = .int .i64 (m : Nat) ∧ c = .int .i64 (came K' q m : Nat) ∧ ∃ f, Turn B B2 lb D T w wr K (stepK K' q) (fun l => if l < m then stepK K' q else K') (fun i => decide ((stepK K' q).lv i = K.ht i)) f (.slice ak K.n ck) hv) (fun _ t _ => 8 - (intOf t).toNat)
          case atStart => exact ⟨0, by omega, rfl, by unfold came; rw [if_neg (by omega)]; rfl, f, P3.out.cong (fun l hl => by rw [if_neg (by omega)]) (fun _ _ => rfl)⟩
          case round =>
            clear P3
            obtain ⟨m, hm8, rfl, rfl, f, hh⟩ := hrel
            have P4 := hid hh
            clear hh
            have hc1 := came_le K' q m
            by_cases hm : m < 8
            · obtain ⟨js, hjs, hown⟩ := P4.out.lv m hm
              rw [if_neg (Nat.lt_irrefl m)] at hjs hown
              have cT := P4.out.tr.cell hm
              obtain ⟨av, cv, hfm, hmx⟩ := len_of hown
              go_wp2_with fail
              refine (keys_ls P4.out.hd.li (by rw [P4.out.hd.sm.n]; omega) hm).mono ?_
              rintro e w6 ⟨ks, v, hks, rfl, ho, he6⟩
              have P5 := hid (P4.out.ext he6)
              have cT := ext_cell he6 cT
              have S1 := hid (owns_str (xs := keysOf K' js) (owns_ext hown he6) (by simp [keysOf]))
              have S2 := hid (owns_str (xs := keysOf (stepK K' q) ks) ho (by simp [keysOf]))
              have hst : decide (∀ x, x ∈ keysOf K' js → x ∈ keysOf (stepK K' q) ks) = true := decide_eq_true (keys_stay hjs hks)
              have hcame := came_succ K' HQ.out m
              have hkc : cnt K' m < cnt (stepK K' q) m → decide (K.key q ∈ keysOf (stepK K' q) ks) = true := fun h => by
                rw [← P4.out.hd.sm.key, (stepK_n K' q).2.1]; exact decide_eq_true (key_came HQ.out hks h)
              have hck1 := cnt_le K' m
              have hck2 := cnt_le (stepK K' q) m
              have hnn : (stepK K' q).n = K'.n := (stepK_n K' q).1
              have hnn2 := HN'.out
              rw [hjs.len] at hfm
              have P6 := hid ((P5.out.setT hm hks (owns_base ho P4.out.base)).cong (L' := fun l => if l < m + 1 then stepK K' q else K') (fun l hl => by
                by_cases e : l = m
                · subst e; rw [upd_same, if_pos (by omega)]
                · rw [upd_other _ _ _ e]
                  by_cases e2 : l < m
                  · rw [if_pos e2, if_pos (by omega)]
                  · rw [if_neg e2, if_neg (by omega)]) (fun _ _ => rfl))
              obtain ⟨av2, cv2, rfl, hmx2⟩ := len_of ho
              rw [hks.len] at P6 S2 hmx2 ⊢
              have S1' : Hid (SlStr w6 (.slice av (cnt K' m) cv) (keysOf K' js)) := by rw [hfm] at S1; exact S1
              rw [hfm] at cT
              have HST := hid hst
              have HKC := hid hkc
              have HCM := hid hcame
              have HKK := hid P5.out.hd.keyc
              have f6 := P5.out.tr.frozen m
              clear hst hkc hcame S1 hfm hown ho he6 hjs hks P4 P5 hmx hmx2
              have hx1 : came K' q m + cnt (stepK K' q) m = came K' q (m + 1) + cnt K' m := HCM.out
              have hck3 : cnt K' m ≤ 60 := by omega
              have hck4 : cnt (stepK K' q) m ≤ 60 := by omega
              clear hck1 hck2 hnn hnn2
              have HX1 := hid hx1
              clear hx1 HCM
              generalize cnt K' m = n1 at *
              generalize cnt (stepK K' q) m = n2 at *
              generalize came K' q m = c1 at *
              go_wp2_with fail
              refine (within_in _ _ _ _ _ S1'.out S2.out).mono ?_
              rintro e w7 ⟨rfl, rfl⟩
              rw [HST.out]
              by_cases hgt : n1 < n2
              · obtain ⟨ak', ck', ek, _, _, hck⟩ := HKK.out.ex
                obtain ⟨b2, off2, rfl, hcell⟩ := hck (by omega)
                simp only [Value.slice.injEq] at ek
                obtain ⟨rfl, _, rfl⟩ := ek
                have ck := hcell q hq
                have hky := HKC.out hgt
                clear hck hcell
                go_wp2_with fail
                refine (has_yes S2.out hky).mono ?_
                rintro e w8 ⟨rfl, rfl⟩
                go_wp2
                go_roundw
                case rel => exact ⟨m + 1, by omega, by go_num, int_val (by have := HX1.out; omega), _, P6.out⟩
                case measure => simp [intOf]; omega
              · go_wp2
                go_roundw
                case rel => exact ⟨m + 1, by omega, by go_num, int_val (by have := HX1.out; omega), _, P6.out⟩
                case measure => simp [intOf]; omega
            · have : m = 8 := by omega
              subst this
              have P5 := hid (P4.out.cong (L' := fun _ => stepK K' q) (fun l hl => by rw [if_pos hl]) (fun _ _ => rfl))
              have hc2 : ¬ (1 : Int) < (came K' q 8 : Nat) := by omega
              go_wp2
              go_roundw
              case rel => exact ⟨k + 1, by omega, by omega, by go_num, _, _, P5.out⟩
              case measure => simp [intOf]; omega
    · have hlt'' : ¬ k < picks.length ∨ (k < picks.length ∧ ¬ k < 300) := by omega
      clear hlt
      rcases hlt'' with hlt | ⟨hlt, hlt50⟩
      all_goals
        go_wp2
        go_ret
        exact ⟨rfl, HH.out.hd.ex⟩
end Go.Proofs.Yticmnmdokoonjaa
