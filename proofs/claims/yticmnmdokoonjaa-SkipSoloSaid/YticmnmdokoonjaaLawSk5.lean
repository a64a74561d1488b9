/- The walk of the law SkipSolo. -/
import Derived.Test.YticmnmdokoonjaaSk15
import Derived.Test.YticmnmdokoonjaaLawSk3
set_option linter.unusedSimpArgs false
set_option linter.unusedVariables false
set_option linter.unnecessarySimpa false
namespace Go.Proofs.Yticmnmdokoonjaa
open Go.RowKit Go.Rg Go.St

theorem cnt_full {K KL : SK} (h : Same K KL) (hd : ∀ j, j < K.n → KL.lv j = K.ht j) (h1 : ∀ j, j < K.n → 1 ≤ K.ht j) : cnt KL 0 = K.n := by
  rw [cnt_all h hd]
  unfold cntTo
  rw [List.filter_eq_self.2 (fun j hj => by rw [List.mem_range] at hj; have := h1 j hj; simp; omega), List.length_range]

set_option maxRecDepth 20000 in
set_option maxHeartbeats 4000000 in
theorem skipSolo_walk (v0 v1 : Value) (ps : List Put) (picks : List Int) (w : World) (h0 : SlS w v0 2 ePut ps) (hr : ∀ p, p ∈ ps → -9223372036854775808 ≤ p.2 ∧ p.2 ≤ 9223372036854775807) (h1 : SlInt w v1 picks)
    (hr1 : ∀ p, p ∈ picks → -9223372036854775808 ≤ p ∧ p ≤ 9223372036854775807) :
    Calls Try.prog 11 #[v0, v1] w (TrueExt w) := by
  have H0 := hid h0
  have H1 := hid h1
  have HR := hid hr
  have HR1 := hid hr1
  clear h0 h1 hr hr1
  go_enter Try.func11, Try.ntmps11
  go_wp2_with fail
  refine (awake07 w).mono ?_
  rintro e w1 ⟨rfl, he1⟩
  go_wp2_with fail
  refine (new_ls 1000 (by decide) (by decide) _).mono ?_
  rintro e w2 ⟨lb, rfl, hl2, he2⟩
  go_wp2_with fail
  refine (new_ls 1000 (by decide) (by decide) _).mono ?_
  rintro e w3 ⟨mb, rfl, hm3, he3⟩
  obtain ⟨_, L, hLlb, hLr, hLf⟩ := hl2
  obtain ⟨_, M, hMlb, hMr, hMf⟩ := hm3
  have hE3 : Ext w w3 := (he1.trans (ext_below he2 he1.size)).trans (ext_below he3 (he1.trans (ext_below he2 he1.size)).size)
  have hB3 : w1.heap.size ≤ w3.heap.size := Nat.le_trans he2.size he3.size
  have hLo : ∀ b, (b < w1.heap.size ∨ Foot M 0 b) → b < w3.heap.size := fun b hb => by
    rcases hb with h | h
    · omega
    · exact hMr.foot_lt h
  have hLL : ListL (fun b => b < w1.heap.size ∨ Foot M 0 b) lb w3 (SK.new 1000) := ⟨Inv.new 1000, L, hLlb, hLr.ext he3, fun b hb hlo => by
    have h1 := hLf b hb
    have h2 := hLr.foot_lt hb
    rcases hlo with h | h
    · omega
    · have := hMf b h; omega⟩
  go_wp2_with fail
  refine (begun_l2 _ lb w3 v0 ps hLo hLL HR.out (fun w' hk => H0.out.go (fun _ => rfl) (ext_keepL hE3 hk (fun b hb => .inl (Nat.lt_of_lt_of_le hb he1.size))))).mono ?_
  rintro e w4 ⟨kv, hv, rfl, hbg⟩
  obtain ⟨L4, hL4, hLo4, hE4, hTwo⟩ := two_of he1.size hB3 hE3 hMr hMlb (fun b hb => Nat.le_trans he2.size (hMf b hb)) hbg
  have hks := hbg.ks
  obtain ⟨ak, ck, rfl, _⟩ := len_of hks
  have HT := hid hTwo
  have HL4 := hid hL4
  have HLo4 := hid hLo4
  have HE4 := hid hE4
  have HB1 := hid he1.size
  have hn := (begK_n (ps := ps.take 60) (room := 1000) (ps.take 60).length (Nat.le_refl _)).1
  rw [List.take_length] at hn
  have hn60 : (begK (SK.new 1000) (ps.take 60)).n ≤ 60 := by have := List.length_take_le 60 ps; omega
  have hI := hid hbg.li.1
  clear hbg hks hTwo hL4 hLo4 hE4 hLL hLo hB3 hE3 hLr hLf hMr hMf hLlb hMlb he1 he2 he3 hn
  go_wp2_with fail
  refine (begun_l2 _ mb w4 v0 ps HLo4.out HL4.out HR.out (fun w' hk => H0.out.go (fun _ => rfl) (ext_keepL HE4.out hk (fun b hb => .inl (Nat.lt_of_lt_of_le hb HB1.out))))).mono ?_
  rintro e w5 ⟨kv2, hv2, rfl, hbg2⟩
  have HD := hid (HT.out _ _ _ hbg2)
  clear hbg2 HT HLo4 HL4 HE4 HB1
  generalize begK (SK.new 1000) (ps.take 60) = K at *
  generalize w1.heap.size = B at *
  generalize w3.heap.size = B2 at *
  obtain ⟨ap, cp, rfl, _, hmp, hcp⟩ := H1.out.ex
  unfold maxLen at hmp
  clear hcp
  go_wp2
  go_loopw [16] (fun t wr => ∃ k : Nat, k ≤ picks.length ∧ k ≤ 300 ∧ t = .int .i64 k ∧ ∃ KL, Two B B2 lb mb w wr K KL K (.slice ak K.n ck) hv) (fun t _ => picks.length - (intOf t).toNat)
  case atStart => exact ⟨0, Nat.zero_le _, Nat.zero_le _, rfl, K, HD.out⟩
  case round =>
    clear HD
    obtain ⟨k, hk, hk50, rfl, KL, hh⟩ := hrel
    have HH := hid hh
    clear hh
    by_cases hlt : k < picks.length ∧ k < 300 ∧ 0 < K.n
    · obtain ⟨hlt, hlt50, hpos⟩ := hlt
      obtain ⟨a', c', he, _, _, hc⟩ := (H1.out.go HH.out.ex).ex
      obtain ⟨b, off, ha, hcell⟩ := hc (by omega)
      subst ha
      simp only [Value.slice.injEq] at he
      obtain ⟨rfl, _, rfl⟩ := he
      have c0 := hcell k hlt
      have hrange := HR1.out _ (nth_mem picks k hlt)
      generalize nth picks k = p at *
      clear hc hcell
      rcases pick_cases p hpos with ⟨hneg, q, hq, hx⟩ | ⟨hneg, q, hq, hx⟩
      all_goals
        go_wp2_with fail
        refine (two_step HH.out hq).mono ?_
        rintro e w4 ⟨rfl, ht⟩
        have P1 := hid ht
        clear ht
        go_wp2
        go_roundw
        case rel => exact ⟨k + 1, by omega, by omega, by go_num, _, P1.out⟩
        case measure => simp [intOf]; omega
    · have hlt'' : ¬ k < picks.length ∨ (k < picks.length ∧ ¬ k < 300) ∨ (k < picks.length ∧ k < 300 ∧ ¬ 0 < K.n) := by omega
      clear hlt
      rcases hlt'' with hlt | ⟨hlt, hlt50⟩ | ⟨hlt, hlt50, hz⟩
      all_goals
        go_wp2
        try clear hz
        go_loopw [18] (fun t wr => ∃ k : Nat, k ≤ K.n ∧ t = .int .i64 ((k : Int) - 1) ∧ ∃ KL, Two B B2 lb mb w wr K KL K (.slice ak K.n ck) hv ∧ ∀ j, k ≤ j → j < K.n → KL.lv j = K.ht j) (fun t _ => (intOf t + 1).toNat)
        case atStart => exact ⟨K.n, Nat.le_refl _, rfl, KL, HH.out, fun j h1 h2 => by omega⟩
        case round =>
          clear HH
          obtain ⟨k2, hk2, rfl, KL, hh, hdn⟩ := hrel
          have HH := hid hh
          have HN := hid hdn
          clear hh hdn
          by_cases hlt0 : k2 = 0
          · subst hlt0
            rw [show ((0 : Nat) : Int) - 1 = -1 from rfl]
            go_wp2
            go_loopw [21] (fun t wr => ∃ k : Nat, k ≤ K.n ∧ t = .int .i64 k ∧ ∃ KM, Two B B2 lb mb w wr K KL KM (.slice ak K.n ck) hv ∧ ∀ j, j < k → KM.lv j = K.ht j) (fun t _ => K.n - (intOf t).toNat)
            case atStart => exact ⟨0, Nat.zero_le _, rfl, K, HH.out, fun j hj => absurd hj (Nat.not_lt_zero _)⟩
            case round =>
              clear HH
              obtain ⟨k3, hk3, rfl, KM, hh, hdn⟩ := hrel
              have HH := hid hh
              have HM := hid hdn
              clear hh hdn
              by_cases hlt3 : k3 < K.n
              · obtain ⟨ah, ch, rfl, _, _, hc⟩ := HH.out.keyc.ex
                obtain ⟨b, off, rfl, hcell⟩ := hc (by omega)
                have c0 := hcell k3 hlt3
                have hht := hI.out.ht k3 hlt3
                clear hc hcell
                go_wp2_with fail
                rw [most_eq hht.2 hn60]
                refine (two_wholeM HH.out hlt3 _ (by have := most_le (K.ht k3) K.n; omega) (by have := most_hi hht.2 hn60; omega)).mono ?_
                rintro e w4 ⟨d, _, hdd, rfl, ht⟩
                have P1 := hid ht
                have P2 : Hid (∀ j, j < k3 + 1 → (runK KM k3 (d + 1)).lv j = K.ht j) := hid fun j hj => (if e : j = k3 then (by rw [e, hdd]) else (by rw [runK_lv _ _ e]; exact HM.out j (by omega)))
                clear ht hdd
                go_wp2
                go_roundw
                case rel => exact ⟨k3 + 1, by omega, by go_num, _, P1.out, P2.out⟩
                case measure => simp [intOf]; omega
              · have : k3 = K.n := by omega
                subst this
                clear hlt3 hk3
                go_wp2
                go_loopw [23] (fun t wr => ∃ m : Nat, m ≤ 9 ∧ t = .int .i64 m ∧ Two B B2 lb mb w wr K KL KM (.slice ak K.n ck) hv) (fun t _ => 9 - (intOf t).toNat)
                case atStart => exact ⟨0, by omega, rfl, HH.out⟩
                case round =>
                  clear HH
                  obtain ⟨m, hm9, rfl, hh⟩ := hrel
                  have HH := hid hh
                  clear hh
                  by_cases hm : m < 8
                  · go_wp2_with fail
                    refine (keys_ls HH.out.la (by rw [HH.out.sl.n]; omega) hm).mono ?_
                    rintro e w6 ⟨js, v, hl, rfl, ho, he⟩
                    have T1 := hid (HH.out.ext he)
                    have S1 := hid (owns_str (xs := keysOf KL js) ho (by simp [keysOf]))
                    go_wp2_with fail
                    refine (keys_ls T1.out.ma (by rw [T1.out.sm.n]; omega) hm).mono ?_
                    rintro e w7 ⟨ks, v', hl', rfl, ho', he'⟩
                    have T2 := hid (T1.out.ext he')
                    have S2 := hid (owns_str (xs := keysOf KM ks) ho' (by simp [keysOf]))
                    have S1' := hid (S1.out.go he')
                    have hsame := same_levels HH.out.sl HH.out.sm (fun j hj => HN.out j (Nat.zero_le _) hj) HM.out hl hl'
                    have hd : decide (keysOf KL js = keysOf KM ks) = true := decide_eq_true hsame
                    clear hl hl' ho ho' he he' hsame
                    go_wp2_with fail
                    refine (names_in _ _ _ _ _ S1'.out S2.out).mono ?_
                    rintro e w8 ⟨rfl, he8⟩
                    rw [hd]
                    have T3 := hid (T2.out.ext he8)
                    clear he8
                    go_wp2
                    go_roundw
                    case rel => exact ⟨m + 1, by omega, by go_num, T3.out⟩
                    case measure => simp [intOf]; omega
                  · by_cases hm8 : m = 8
                    · subst hm8
                      go_wp2_with fail
                      refine (keys_bad lb 8 (.inr (by decide)) _).mono ?_
                      rintro e w6 ⟨v, rfl, ho, he⟩
                      have T1 := hid (HH.out.ext he)
                      have S1 : Hid (SlStr w6 v []) := hid (owns_str (xs := []) ho rfl)
                      go_wp2_with fail
                      refine (keys_bad mb 8 (.inr (by decide)) _).mono ?_
                      rintro e w7 ⟨v', rfl, ho', he'⟩
                      have T2 := hid (T1.out.ext he')
                      have S2 : Hid (SlStr w7 v' []) := hid (owns_str (xs := []) ho' rfl)
                      have S1' := hid (S1.out.go he')
                      clear ho ho' he he'
                      go_wp2_with fail
                      refine (names_in _ _ _ _ _ S1'.out S2.out).mono ?_
                      rintro e w8 ⟨rfl, he8⟩
                      rw [show decide (([] : List ByteArray) = []) = true from rfl]
                      have T3 := hid (T2.out.ext he8)
                      clear he8
                      go_wp2
                      go_roundw
                      case rel => exact ⟨9, by omega, by go_num, T3.out⟩
                      case measure => simp [intOf]
                    · have : m = 9 := by omega
                      subst this
                      have hc0 : cnt KL 0 = K.n := cnt_full HH.out.sl (fun j hj => HN.out j (Nat.zero_le _) hj) (fun j hj => (hI.out.ht j hj).1)
                      go_wp2_with fail
                      refine (keys_ls HH.out.la (by rw [HH.out.sl.n]; omega) (l := 0) (by decide)).mono ?_
                      rintro e w6 ⟨js, v, hl, rfl, ho, he⟩
                      obtain ⟨av, cv, rfl, _⟩ := len_of ho
                      rw [hl.len, hc0]
                      have T1 := hid (HH.out.ext he)
                      clear hl ho he
                      go_wp2_with fail
                      refine (keys_bad lb 8 (.inr (by decide)) _).mono ?_
                      rintro e w7 ⟨v, rfl, ho, he⟩
                      obtain ⟨av, cv, rfl, _⟩ := len_of ho
                      have T2 := hid (T1.out.ext he)
                      clear ho he
                      go_wp2
                      go_ret
                      exact ⟨rfl, T2.out.ex⟩
          · obtain ⟨m, rfl⟩ : ∃ m, k2 = m + 1 := ⟨k2 - 1, by omega⟩
            rw [show ((m + 1 : Nat) : Int) - 1 = (m : Int) by omega]
            have hm : m < K.n := by omega
            obtain ⟨ah, ch, rfl, _, _, hc⟩ := HH.out.keyc.ex
            obtain ⟨b, off, rfl, hcell⟩ := hc (by omega)
            have c0 := hcell m hm
            have hht := hI.out.ht m hm
            clear hc hcell
            go_wp2_with fail
            rw [most_eq hht.2 hn60]
            refine (two_wholeL HH.out hm _ (by have := most_le (K.ht m) K.n; omega) (by have := most_hi hht.2 hn60; omega)).mono ?_
            rintro e w4 ⟨d, hdl, hdd, rfl, ht⟩
            have P1 := hid ht
            have P2 : Hid (∀ j, m ≤ j → j < K.n → (runK KL m (d + 1)).lv j = K.ht j) := hid fun j h1 h2 => (if e : j = m then (by rw [e, hdd]) else (by rw [runK_lv _ _ e]; exact HN.out j (by omega) h2))
            have hX1 : d + 1 ≤ K.ht m * (K.n + 16) + 16 := by have := most_le (K.ht m) K.n; omega
            clear ht hdd hdl
            generalize K.ht m * (K.n + 16) + 16 = X at *
            go_wp2
            go_roundw
            case rel => exact ⟨m, by omega, by go_num, _, P1.out, P2.out⟩
            case measure => simp [intOf]
end Go.Proofs.Yticmnmdokoonjaa
