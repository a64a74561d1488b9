/- The walk of the law SkipLevels. -/
import Derived.Test.YticmnmdokoonjaaSk12
set_option linter.unusedSimpArgs false
set_option linter.unusedVariables false
set_option linter.unnecessarySimpa false
namespace Go.Proofs.Yticmnmdokoonjaa
open Go.RowKit Go.Rg Go.St

/-- a slice of whole numbers -/
def SlInt (w : World) (v : Value) (xs : List Int) : Prop := Sl1 w v xs.length (fun i => .int .i64 (nth xs i))
theorem SlInt.go {w w' : World} {v : Value} {xs : List Int} (h : SlInt w v xs) (he : Ext w w') : SlInt w' v xs := Sl1.go h he
theorem ext_keeps {B : Nat} {w w2 w' : World} (h : Ext w w2) (k : Keeps B w2 w') (hB : w.heap.size ≤ B) : Ext w w' :=
  h.trans ⟨k.os, k.tape, k.output, k.size, fun b hb => k.low b (Nat.lt_of_lt_of_le hb h.size) (by omega)⟩

/-- as it was, but for how far each has come -/
structure Same (K K' : SK) : Prop where
  n : K'.n = K.n
  key : K'.key = K.key
  ht : K'.ht = K.ht
theorem Same.keys {K K' : SK} (h : Same K K') : keysK K' = keysK K := by unfold keysK; rw [h.n, h.key]
theorem Same.hts {K K' : SK} (h : Same K K') : htsK K' = htsK K := by unfold htsK; rw [h.n, h.ht]
theorem Same.rfl (K : SK) : Same K K := ⟨Eq.refl _, Eq.refl _, Eq.refl _⟩
theorem Same.run {K K' : SK} (h : Same K K') (hI : Inv K') {i : Nat} (hi : i < K'.n) (m : Nat) : Same K (runK K' i m) := by
  obtain ⟨_, h2, h3, h4, _⟩ := runK_inv hI hi m
  exact ⟨h2.trans h.n, h3.trans h.key, h4.trans h.ht⟩

/-- behind begun: all that is held -/
structure Held (B B2 lb : Nat) (w0 wr : World) (K K' : SK) (kv hv : Value) : Prop where
  li : ListAt B lb wr K'
  sm : Same K K'
  ks : wr.ownsRow B2 9 1 kv K.n ((keysK K).map .string)
  hs : wr.ownsRow B2 3 1 hv K.n ((htsK K).map fun h => .int .i64 (h : Nat))
  ex : Ext w0 wr
  le : w0.heap.size ≤ B
theorem Held.go {B B2 lb : Nat} {w0 wr w' : World} {K K' K'' : SK} {kv hv : Value} (h : Held B B2 lb w0 wr K K' kv hv) (hl : ListAt B lb w' K'') (hs : Same K K'') (hk : Keeps B wr w') : Held B B2 lb w0 w' K K'' kv hv :=
  ⟨hl, hs, owns_keeps h.ks hk (by simp [skipTy]), owns_keeps h.hs hk (by simp [skipTy]), ext_keeps h.ex hk h.le, h.le⟩
theorem Held.ext {B B2 lb : Nat} {w0 wr w' : World} {K K' : SK} {kv hv : Value} (h : Held B B2 lb w0 wr K K' kv hv) (he : Ext wr w') : Held B B2 lb w0 w' K K' kv hv :=
  h.go (h.li.ext he) h.sm (Keeps.of_ext he)
theorem Held.keys {B B2 lb : Nat} {w0 wr : World} {K K' : SK} {kv hv : Value} (h : Held B B2 lb w0 wr K K' kv hv) : SlStr wr kv (keysK K) := owns_str h.ks (by simp [keysK])
theorem nth_keysK {K : SK} {i : Nat} (hi : i < K.n) : nth (keysK K) i = K.key i := by rw [nth_eq _ _ (by simpa [keysK] using hi)]; simp [keysK]
theorem Held.keyc {B B2 lb : Nat} {w0 wr : World} {K K' : SK} {kv hv : Value} (h : Held B B2 lb w0 wr K K' kv hv) : Sl1 wr kv K.n (fun i => .string (K.key i)) := by
  have := h.keys
  unfold SlStr at this
  rw [show (keysK K).length = K.n by simp [keysK]] at this
  exact Sl1.cong this fun i hi => by rw [nth_keysK hi]
theorem Held.htc {B B2 lb : Nat} {w0 wr : World} {K K' : SK} {kv hv : Value} (h : Held B B2 lb w0 wr K K' kv hv) : Sl1 wr hv K.n (fun i => .int .i64 (K.ht i : Nat)) :=
  Sl1.cong (owns_sl1 h.hs) fun i hi => by simp [htsK, hi]

theorem held_begun {B lb : Nat} {w0 w2 wr : World} {K : SK} {kv hv : Value} (h : Begun B lb w2 wr K kv hv) (he : Ext w0 w2) (hB : w0.heap.size ≤ B) : Held B w2.heap.size lb w0 wr K K kv hv :=
  ⟨h.li, Same.rfl K, h.ks, h.hs, ext_keeps he h.kp hB, hB⟩

theorem pick_rem {x : Int} {n : Nat} (hn : 0 < n) (hx : 0 ≤ x) : ∃ q : Nat, q < n ∧ x.tmod (n : Int) = (q : Int) := by
  obtain ⟨m, rfl⟩ := Int.eq_ofNat_of_zero_le hx
  exact ⟨m % n, Nat.mod_lt _ hn, by rw [Int.tmod_eq_emod_of_nonneg hx]; rfl⟩

/-- so many of the first stand higher than a level -/
def cntTo (K : SK) (l i : Nat) : Nat := ((List.range i).filter fun j => decide (l < K.ht j)).length
theorem cntTo_succ (K : SK) (l i : Nat) : cntTo K l (i + 1) = cntTo K l i + (if l < K.ht i then 1 else 0) := by
  unfold cntTo
  rw [List.range_succ, List.filter_append, List.length_append]
  by_cases h : l < K.ht i
  · simp [h]
  · simp [h]
theorem cntTo_le (K : SK) (l i : Nat) : cntTo K l i ≤ i := by
  have := List.length_filter_le (fun j => decide (l < K.ht j)) (List.range i)
  simpa [cntTo] using this
theorem cnt_all {K K' : SK} (h : Same K K') (hd : ∀ j, j < K.n → K'.lv j = K.ht j) (l : Nat) : cnt K' l = cntTo K l K.n := by
  unfold cnt cntTo
  rw [h.n]
  congr 1
  refine List.filter_congr fun j hj => ?_
  rw [List.mem_range] at hj
  rw [hd j hj]

theorem done_step {K K' : SK} (h : Same K K') (hd : ∀ j, j < K.n → K'.lv j = K.ht j) {q : Nat} (hq : q < K.n) : stepK K' q = K' ∧ decide ((stepK K' q).lv q = K'.ht q) = true := by
  have e : stepK K' q = K' := stepK_done (by rw [hd q hq, h.ht])
  exact ⟨e, by rw [e]; exact decide_eq_true (by rw [hd q hq, h.ht])⟩

theorem most_hi {h n : Nat} (hh : h ≤ 8) (hn : n ≤ 60) : h * (n + 16) ≤ 608 := Nat.mul_le_mul hh (by omega : n + 16 ≤ 76)
theorem most_le (h n : Nat) : h * (n + 10) ≤ h * (n + 16) := Nat.mul_le_mul_left _ (by omega)
theorem most_eq {h n : Nat} (hh : h ≤ 8) (hn : n ≤ 60) : wrap64 (wrap64 ((h : Int) * ((n : Int) + 16)) + 16) = ((h * (n + 16) + 16 : Nat) : Int) := by
  have e : (h : Int) * ((n : Int) + 16) = ((h * (n + 16) : Nat) : Int) := by rw [Int.natCast_mul, Int.natCast_add]; rfl
  have := most_hi hh hn
  rw [e]
  unfold wrap64
  omega

set_option maxRecDepth 20000 in
set_option maxHeartbeats 2000000 in
theorem skipLevels_walk (v0 v1 : Value) (ps : List Put) (picks : List Int) (w : World) (h0 : SlS w v0 2 ePut ps) (hr : ∀ p, p ∈ ps → -9223372036854775808 ≤ p.2 ∧ p.2 ≤ 9223372036854775807) (h1 : SlInt w v1 picks)
    (hr1 : ∀ p, p ∈ picks → -9223372036854775808 ≤ p ∧ p ≤ 9223372036854775807) :
    Calls Try.prog 13 #[v0, v1] w (TrueExt w) := by
  have H0 := hid h0
  have H1 := hid h1
  have HR := hid hr
  have HR1 := hid hr1
  clear h0 h1 hr hr1
  go_enter Try.func13, Try.ntmps13
  go_wp2_with fail
  refine (awake07 w).mono ?_
  rintro e w1 ⟨rfl, he1⟩
  go_wp2_with fail
  refine (new_ls 1000 (by decide) (by decide) _).mono ?_
  rintro e w2 ⟨lb, rfl, hl2, he2⟩
  go_wp2_with fail
  refine (begun_in w1.heap.size lb w2 v0 ps he2.size hl2 HR.out (fun w' hk => H0.out.go (fun _ => rfl) (ext_keeps (he1.trans (ext_below he2 he1.size)) hk he1.size))).mono ?_
  rintro e w3 ⟨kv, hv, rfl, hbg⟩
  have HD := hid (held_begun hbg (he1.trans (ext_below he2 he1.size)) he1.size)
  have hn := (begK_n (ps := ps.take 60) (room := 1000) (ps.take 60).length (Nat.le_refl _)).1
  rw [List.take_length] at hn
  have hn60 : (begK (SK.new 1000) (ps.take 60)).n ≤ 60 := by have := List.length_take_le 60 ps; omega
  have hI := hid hbg.li.1
  generalize begK (SK.new 1000) (ps.take 60) = K at *
  generalize w1.heap.size = B at *
  generalize w2.heap.size = B2 at *
  clear hbg he1 he2 hl2 hn
  obtain ⟨ak, ck, rfl, _⟩ := len_of HD.out.ks
  go_wp2
  go_loopw [11] (fun t wr => ∃ k : Nat, k ≤ K.n ∧ t = .int .i64 k ∧ ∃ K', Held B B2 lb w wr K K' (.slice ak K.n ck) hv ∧ ∀ j, j < k → K'.lv j = K.ht j) (fun t _ => K.n - (intOf t).toNat)
  case atStart => exact ⟨0, Nat.zero_le _, rfl, K, HD.out, fun j hj => absurd hj (Nat.not_lt_zero _)⟩
  case round =>
    clear HD
    obtain ⟨k, hk, rfl, K', hh, hdn⟩ := hrel
    have HH := hid hh
    have HN := hid hdn
    clear hh hdn
    by_cases hlt : k < K.n
    · obtain ⟨ah, ch, rfl, _, _, hc⟩ := HH.out.htc.ex
      obtain ⟨b, off, rfl, hcell⟩ := hc (by omega)
      have c0 := hcell k hlt
      have hht := hI.out.ht k hlt
      clear hc hcell
      go_wp2_with fail
      rw [most_eq hht.2 hn60]
      refine (whole_ls HH.out.li (i := k) (by rw [HH.out.sm.n]; exact hlt) _ (by rw [HH.out.sm.n, HH.out.sm.ht]; have := most_le (K.ht k) K.n; omega) (by have := most_hi hht.2 hn60; omega)).mono ?_
      rintro e w4 ⟨d, _, hdd, rfl, hl4, hk4⟩
      have P1 := hid (HH.out.go hl4 (HH.out.sm.run HH.out.li.1 (by rw [HH.out.sm.n]; exact hlt) (d + 1)) hk4)
      have P2 : Hid (∀ j, j < k + 1 → (runK K' k (d + 1)).lv j = K.ht j) := hid fun j hj => (if e : j = k then (by rw [e, hdd, HH.out.sm.ht]) else (by rw [runK_lv _ _ e]; exact HN.out j (by omega)))
      clear hl4 hk4 hdd
      go_wp2
      go_roundw
      case rel => exact ⟨k + 1, by omega, by go_num, _, P1.out, P2.out⟩
      case measure => simp [intOf]; omega
    · have : k = K.n := by omega
      subst this
      clear hlt hk
      obtain ⟨ap, cp, rfl, _, hmp, hcp⟩ := (H1.out.go HH.out.ex).ex
      unfold maxLen at hmp
      clear hcp
      go_wp2
      go_loopw [13] (fun t wr => ∃ k : Nat, k ≤ picks.length ∧ k ≤ 50 ∧ t = .int .i64 k ∧ ∃ K', Held B B2 lb w wr K K' (.slice ak K.n ck) hv ∧ ∀ j, j < K.n → K'.lv j = K.ht j) (fun t _ => picks.length - (intOf t).toNat)
      case atStart => exact ⟨0, Nat.zero_le _, Nat.zero_le _, rfl, K', HH.out, HN.out⟩
      case round =>
        clear HH HN
        obtain ⟨k, hk, hk50, rfl, K', hh, hdn⟩ := hrel
        have HH := hid hh
        have HN := hid hdn
        clear hh hdn
        by_cases hlt : k < picks.length ∧ k < 50 ∧ 0 < K.n
        · obtain ⟨hlt, hlt50, hpos⟩ := hlt
          obtain ⟨a', c', he, _, _, hc⟩ := (H1.out.go HH.out.ex).ex
          obtain ⟨b, off, ha, hcell⟩ := hc (by omega)
          subst ha
          simp only [Value.slice.injEq] at he
          obtain ⟨rfl, _, rfl⟩ := he
          have c0 := hcell k hlt
          have hrange := HR1.out _ (nth_mem picks k hlt)
          generalize nth picks k = p at *
          clear hc hcell
          have hfr := fold_range p hrange
          by_cases hneg : p < 0
          · obtain ⟨q, hq, hx⟩ := pick_rem (x := -(p + 1)) hpos (by omega)
            have hst := hid (done_step (HH.out.sm) HN.out hq)
            clear hfr
            go_wp2_with fail
            refine (step_ls HH.out.li (i := q) (by rw [HH.out.sm.n]; exact hq)).mono ?_
            rintro e w4 ⟨rfl, hl4, hk4⟩
            rw [hst.out.1] at hl4
            rw [hst.out.2]
            have P1 := hid (HH.out.go hl4 HH.out.sm hk4)
            clear hl4 hk4
            go_wp2
            go_roundw
            case rel => exact ⟨k + 1, by omega, by omega, by go_num, _, P1.out, HN.out⟩
            case measure => simp [intOf]; omega
          · obtain ⟨q, hq, hx⟩ := pick_rem (x := p) hpos (by omega)
            have hst := hid (done_step (HH.out.sm) HN.out hq)
            clear hfr
            go_wp2_with fail
            refine (step_ls HH.out.li (i := q) (by rw [HH.out.sm.n]; exact hq)).mono ?_
            rintro e w4 ⟨rfl, hl4, hk4⟩
            rw [hst.out.1] at hl4
            rw [hst.out.2]
            have P1 := hid (HH.out.go hl4 HH.out.sm hk4)
            clear hl4 hk4
            go_wp2
            go_roundw
            case rel => exact ⟨k + 1, by omega, by omega, by go_num, _, P1.out, HN.out⟩
            case measure => simp [intOf]; omega
        · have HX := hid hlt
          have hlt' : ¬ (k < picks.length ∧ k < 50) ∨ (k < picks.length ∧ k < 50 ∧ K.n = 0) := by omega
          clear hlt
          have hlt'' : ¬ k < picks.length ∨ (k < picks.length ∧ ¬ k < 50) ∨ (k < picks.length ∧ k < 50 ∧ ¬ 0 < K.n) := by omega
          clear hlt'
          rcases hlt'' with hlt | ⟨hlt, hlt50⟩ | ⟨hlt, hlt50, hz⟩
          all_goals
            go_wp2
            go_loopw [17] (fun t wr => ∃ m : Nat, m ≤ 8 ∧ t = .int .i64 m ∧ ∃ K', Held B B2 lb w wr K K' (.slice ak K.n ck) hv ∧ ∀ j, j < K.n → K'.lv j = K.ht j) (fun t _ => 8 - (intOf t).toNat)
            case atStart => exact ⟨0, by omega, rfl, K', HH.out, HN.out⟩
            case round =>
              clear HH HN
              obtain ⟨m, hm8, rfl, K', hh, hdn⟩ := hrel
              have HH := hid hh
              have HN := hid hdn
              clear hh hdn
              by_cases hlt8 : m < 8
              · go_wp2_with fail
                refine (keys_ls HH.out.li (by rw [HH.out.sm.n]; omega) hlt8).mono ?_
                rintro e w4 ⟨js, v, hl, rfl, ho, he⟩
                have HE := hid (HH.out.ext he)
                have HS := hid (owns_str (xs := keysOf K' js) ho (by simp [keysOf]))
                have hlen : js.length = cntTo K m K.n := hl.len.trans (cnt_all HH.out.sm HN.out m)
                have HM : Hid (∀ i, i < K.n → m < K.ht i → K.key i ∈ keysOf K' js) := hid fun i hi hm => by
                  rw [← HH.out.sm.key]
                  exact List.mem_map.2 ⟨i, (hl.mem i).2 ⟨by rw [HH.out.sm.n]; exact hi, by rw [HN.out i hi]; exact hm⟩, rfl⟩
                obtain ⟨av, cv, rfl, _⟩ := len_of ho
                rw [hlen] at HS ⊢
                have hcl := cntTo_le K m K.n
                clear hl ho he hlen HH
                go_wp2
                go_loopw [19, 20] (fun x t wr => ∃ i : Nat, i ≤ K.n ∧ t = .int .i64 i ∧ x = .int .i64 (cntTo K m i : Nat) ∧ Hid (w4 = wr)) (fun _ t _ => K.n - (intOf t).toNat)
                case atStart => exact ⟨0, Nat.zero_le _, rfl, rfl, hid (by trivial)⟩
                case round =>
                  obtain ⟨i, hi, rfl, rfl, hw⟩ := hrel
                  cases hw.out
                  have hci := cntTo_le K m i
                  by_cases hil : i < K.n
                  · have hsc := cntTo_succ K m i
                    obtain ⟨ah, ch, rfl, _, _, hc⟩ := HE.out.htc.ex
                    obtain ⟨b, off, rfl, hcell⟩ := hc (by omega)
                    have c0 := hcell i hil
                    clear hc hcell
                    by_cases hmi : m < K.ht i
                    · rw [if_pos hmi] at hsc
                      have hd : decide (K.key i ∈ keysOf K' js) = true := decide_eq_true (HM.out i hil hmi)
                      obtain ⟨ak', ck', ek, _, _, hc⟩ := HE.out.keyc.ex
                      obtain ⟨b2, off2, rfl, hcell⟩ := hc (by omega)
                      simp only [Value.slice.injEq] at ek
                      obtain ⟨rfl, _, rfl⟩ := ek
                      have c1 := hcell i hil
                      have HC := hid hsc
                      clear hc hcell hsc
                      go_wp2_with fail
                      refine (has_in _ _ _ _ HS.out).mono ?_
                      rintro e w5 ⟨rfl, rfl⟩
                      rw [hd]
                      go_wp2
                      go_roundw
                      case rel => exact ⟨i + 1, by omega, by go_num, by rw [HC.out]; go_num, hid (by trivial)⟩
                      case measure => simp [intOf]; omega
                    · rw [if_neg hmi] at hsc
                      have HC := hid hsc
                      clear hsc
                      go_wp2
                      go_roundw
                      case rel => exact ⟨i + 1, by omega, by go_num, by rw [HC.out]; rfl, hid (by trivial)⟩
                      case measure => simp [intOf]; omega
                  · have : i = K.n := by omega
                    subst this
                    go_wp2
                    go_roundw
                    case rel => exact ⟨m + 1, by omega, by go_num, K', HE.out, HN.out⟩
                    case measure => simp [intOf]; omega
              · have : m = 8 := by omega
                subst this
                go_wp2
                go_ret
                exact ⟨rfl, HH.out.ex⟩
end Go.Proofs.Yticmnmdokoonjaa
