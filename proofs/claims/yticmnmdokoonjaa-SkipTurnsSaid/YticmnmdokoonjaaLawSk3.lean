/- The walk of the law SkipSeeks. -/
import Derived.Test.YticmnmdokoonjaaLawSk2
set_option linter.unusedSimpArgs false
set_option linter.unusedVariables false
set_option linter.unnecessarySimpa false
namespace Go.Proofs.Yticmnmdokoonjaa
open Go.RowKit Go.Rg Go.St

/-- a rising list is cut where a bound stands -/
theorem split_ex {key : Nat → ByteArray} {p : ByteArray → Bool} (hp : ∀ a b, kl a b = true → p b = true → p a = true) : ∀ {js : List Nat}, Rises key js → ∃ us vs, js = us ++ vs ∧ (∀ j, j ∈ us → p (key j) = true) ∧ ∀ j, j ∈ vs → p (key j) = false
  | [], _ => ⟨[], [], rfl, (fun j h => by cases h), fun j h => by cases h⟩
  | a :: js, h => by
    have h' := List.pairwise_cons.1 h
    cases hpa : p (key a) with
    | true =>
      obtain ⟨us, vs, rfl, h1, h2⟩ := split_ex hp (js := js) h'.2
      refine ⟨a :: us, vs, rfl, fun j hj => ?_, h2⟩
      rcases List.mem_cons.1 hj with rfl | hj
      · exact hpa
      · exact h1 j hj
    | false =>
      refine ⟨[], a :: js, rfl, (fun j h => by cases h), fun j hj => ?_⟩
      rcases List.mem_cons.1 hj with rfl | hj
      · exact hpa
      · cases hq : p (key j) with
        | false => rfl
        | true => rw [hp _ _ (h'.1 j hj) hq] at hpa; cases hpa
theorem split_one {q : Nat → Bool} : ∀ {us vs us' vs' : List Nat}, us ++ vs = us' ++ vs' → (∀ j, j ∈ us → q j = true) → (∀ j, j ∈ vs → q j = false) → (∀ j, j ∈ us' → q j = true) → (∀ j, j ∈ vs' → q j = false) → us = us' ∧ vs = vs'
  | [], vs, [], vs', h, _, _, _, _ => ⟨rfl, h⟩
  | [], vs, b :: us', vs', h, _, h2, h3, _ => by
    have := h2 b (by simp only [List.nil_append] at h; rw [h]; simp)
    rw [h3 b (by simp)] at this; cases this
  | a :: us, vs, [], vs', h, h1, _, _, h4 => by
    have := h4 a (by simp only [List.nil_append] at h; rw [← h]; simp)
    rw [h1 a (by simp)] at this; cases this
  | a :: us, vs, b :: us', vs', h, h1, h2, h3, h4 => by
    simp only [List.cons_append, List.cons.injEq] at h
    obtain ⟨rfl, h⟩ := h
    obtain ⟨rfl, rfl⟩ := split_one h (fun j hj => h1 j (List.mem_cons_of_mem _ hj)) h2 (fun j hj => h3 j (List.mem_cons_of_mem _ hj)) h4
    exact ⟨rfl, rfl⟩

/-- what is sought, where level 0 is cut in two -/
theorem seek_cut {K : SK} (hI : Inv K) {key : ByteArray} {us vs : List Nat} (hl : Lvl K 0 (us ++ vs)) (h1 : ∀ j, j ∈ us → kl (K.key j) key = true) (h2 : ∀ j, j ∈ vs → kl (K.key j) key = false) {r : Option Nat} (hs : Stop K (fun k => kl k key) r) : r = us.getLast? ∧ K.nxt r 0 = vs.head? := by
  obtain ⟨us', vs', he, h3, h4, h5, h6⟩ := sought hI (kl_down key) hs hl
  obtain ⟨rfl, rfl⟩ := split_one (q := fun j => kl (K.key j) key) he h1 h2 h3 h4
  exact ⟨h5, h6⟩
theorem last_cut {K : SK} (hI : Inv K) {js : List Nat} (hl : Lvl K 0 js) {r : Option Nat} (hs : Stop K (fun _ => true) r) : r = js.getLast? := by
  obtain ⟨us', vs', rfl, h3, h4, h5, h6⟩ := sought hI (fun _ _ _ _ => rfl) hs hl
  cases vs' with
  | nil => rw [List.append_nil]; exact h5
  | cons v vs' => have := h4 v (by simp); cases this

theorem lvl_cells {w : World} {base : Nat} {v : Value} {K : SK} {js : List Nat} {n : Nat} (h : w.ownsRow base 9 1 v n ((keysOf K js).map .string)) (hn : n = js.length) : Sl1 w v js.length (fun i => .string (K.key (nth js i))) := by
  subst hn
  have := owns_str (xs := keysOf K js) h (by simp [keysOf])
  unfold SlStr at this
  rw [show (keysOf K js).length = js.length by simp [keysOf]] at this
  exact Sl1.cong this fun i hi => by
    rw [nth_eq _ _ (by simpa [keysOf] using hi), nth_eq js i hi]; simp [keysOf]

theorem tellO_get {K : SK} {js : List Nat} (i : Nat) : tellO K js[i]? = if i < js.length then (K.key (nth js i), true) else (ByteArray.empty, false) := by
  by_cases h : i < js.length
  · rw [if_pos h, List.getElem?_eq_getElem h, nth_eq js i h]; rfl
  · rw [if_neg h, List.getElem?_eq_none (by omega)]; rfl

theorem lvl_facts {K : SK} (hI : Inv K) {js : List Nat} (hl : Lvl K 0 js) (key : ByteArray) : ∃ n : Nat, n ≤ js.length ∧ (∀ i, i < n → kl (K.key (nth js i)) key = true) ∧ (n < js.length → kl (K.key (nth js n)) key = false) ∧
    (∀ r, Stop K (fun k => kl k key) r → tellO K (K.nxt r 0) = if n < js.length then (K.key (nth js n), true) else (ByteArray.empty, false)) ∧
    (∀ r, Stop K (fun k => kl k key) r → tellO K r = if 0 < n then (K.key (nth js (n - 1)), true) else (ByteArray.empty, false)) ∧
    (∀ r, Stop K (fun _ => true) r → tellO K r = if 0 < js.length then (K.key (nth js (js.length - 1)), true) else (ByteArray.empty, false)) := by
  obtain ⟨us, vs, rfl, h1, h2⟩ := split_ex (kl_down key) hl.up
  have hlen : (us ++ vs).length = us.length + vs.length := List.length_append
  have e1 : ∀ i, i < us.length → nth (us ++ vs) i = nth us i := fun i hi => by
    rw [nth_eq _ _ (by omega), nth_eq _ _ hi, List.getElem_append_left hi]
  refine ⟨us.length, by omega, fun i hi => ?_, fun hn => ?_, fun r hs => ?_, fun r hs => ?_, fun r hs => ?_⟩
  · rw [e1 i hi]; exact h1 _ (nth_mem us i hi)
  · refine h2 _ ?_
    rw [nth_eq _ _ hn, List.getElem_append_right (by omega)]
    exact List.getElem_mem _
  · rw [(seek_cut hI hl h1 h2 hs).2, ← tellO_get]
    congr 1
    rw [List.getElem?_append_right (by omega), Nat.sub_self, List.head?_eq_getElem?]
  · rw [(seek_cut hI hl h1 h2 hs).1, List.getLast?_eq_getElem?, tellO_get]
    by_cases h : 0 < us.length
    · rw [if_pos h, if_pos (by omega), e1 _ (by omega)]
    · rw [if_neg h, if_neg (by omega)]
  · rw [last_cut hI hl hs, List.getLast?_eq_getElem?, tellO_get]
    by_cases h : 0 < (us ++ vs).length
    · rw [if_pos h, if_pos (by omega)]
    · rw [if_neg h, if_neg (by omega)]

theorem pick_cases (p : Int) {n : Nat} (hn : 0 < n) : (p < 0 ∧ ∃ q : Nat, q < n ∧ (-(p + 1)).tmod (n : Int) = (q : Int)) ∨ (¬ p < 0 ∧ ∃ q : Nat, q < n ∧ p.tmod (n : Int) = (q : Int)) := by
  by_cases h : p < 0
  · exact .inl ⟨h, pick_rem hn (by omega)⟩
  · exact .inr ⟨h, pick_rem hn (by omega)⟩
theorem Same.step {K K' : SK} (h : Same K K') (q : Nat) : Same K (stepK K' q) := by
  obtain ⟨h1, h2, h3, h4⟩ := stepK_n K' q
  exact ⟨h1.trans h.n, h2.trans h.key, h3.trans h.ht⟩

set_option maxRecDepth 20000 in
set_option maxHeartbeats 4000000 in
theorem skipSeeks_walk (v0 v1 : Value) (key : ByteArray) (ps : List Put) (picks : List Int) (w : World) (h0 : SlS w v0 2 ePut ps) (hr : ∀ p, p ∈ ps → -9223372036854775808 ≤ p.2 ∧ p.2 ≤ 9223372036854775807) (h1 : SlInt w v1 picks)
    (hr1 : ∀ p, p ∈ picks → -9223372036854775808 ≤ p ∧ p ≤ 9223372036854775807) :
    Calls Try.prog 14 #[v0, v1, .string key] w (TrueExt w) := by
  have H0 := hid h0
  have H1 := hid h1
  have HR := hid hr
  have HR1 := hid hr1
  clear h0 h1 hr hr1
  go_enter Try.func14, Try.ntmps14
  go_wp2_with fail
  refine (awake07 w).mono ?_
  rintro e w1 ⟨rfl, he1⟩
  go_wp2_with fail
  refine (new_ls 1000 (by decide) (by decide) _).mono ?_
  rintro e w2 ⟨lb, rfl, hl2, he2⟩
  go_wp2_with fail
  refine (begun_in w1.heap.size lb w2 v0 ps he2.size hl2 HR.out (fun w' hk => H0.out.go (fun _ => rfl) (ext_keeps (he1.trans (ext_below he2 he1.size)) hk he1.size))).mono ?_
  rintro e w3 ⟨kv, hv, rfl, hbg⟩
  have HD := hid (held_begun hbg (he1.trans (ext_below he2 he1.size)) he1.size)
  have hn := (begK_n (ps := ps.take 60) (room := 1000) (ps.take 60).length (Nat.le_refl _)).1
  rw [List.take_length] at hn
  have hn60 : (begK (SK.new 1000) (ps.take 60)).n ≤ 60 := by have := List.length_take_le 60 ps; omega
  generalize begK (SK.new 1000) (ps.take 60) = K at *
  generalize w1.heap.size = B at *
  generalize w2.heap.size = B2 at *
  clear hbg he1 he2 hl2 hn
  obtain ⟨ak, ck, rfl, _⟩ := len_of HD.out.ks
  obtain ⟨ap, cp, rfl, _, hmp, hcp⟩ := H1.out.ex
  unfold maxLen at hmp
  clear hcp
  go_wp2
  go_loopw [13] (fun t wr => ∃ k : Nat, k ≤ picks.length ∧ k ≤ 200 ∧ t = .int .i64 k ∧ ∃ K', Held B B2 lb w wr K K' (.slice ak K.n ck) hv) (fun t _ => picks.length - (intOf t).toNat)
  case atStart => exact ⟨0, Nat.zero_le _, Nat.zero_le _, rfl, K, HD.out⟩
  case round =>
    clear HD
    obtain ⟨k, hk, hk50, rfl, K', hh⟩ := hrel
    have HH := hid hh
    clear hh
    by_cases hlt : k < picks.length ∧ k < 200 ∧ 0 < K.n
    · obtain ⟨hlt, hlt50, hpos⟩ := hlt
      obtain ⟨a', c', he, _, _, hc⟩ := (H1.out.go HH.out.ex).ex
      obtain ⟨b, off, ha, hcell⟩ := hc (by omega)
      subst ha
      simp only [Value.slice.injEq] at he
      obtain ⟨rfl, _, rfl⟩ := he
      have c0 := hcell k hlt
      have hrange := HR1.out _ (nth_mem picks k hlt)
      generalize nth picks k = p at *
      clear hc hcell
      rcases pick_cases p hpos with ⟨hneg, q, hq, hx⟩ | ⟨hneg, q, hq, hx⟩
      all_goals
        go_wp2_with fail
        refine (step_ls HH.out.li (i := q) (by rw [HH.out.sm.n]; exact hq)).mono ?_
        rintro e w4 ⟨rfl, hl4, hk4⟩
        have P1 := hid (HH.out.go hl4 (HH.out.sm.step q) hk4)
        clear hl4 hk4 HH c0 hx hneg hq hrange
        generalize stepK K' q = K2 at P1 ⊢
        go_wp2_with fail
        refine (keys_ls P1.out.li (by rw [P1.out.sm.n]; omega) (l := 0) (by decide)).mono ?_
        rintro e w5 ⟨js, v, hl, rfl, ho, he⟩
        have P2 := hid (P1.out.ext he)
        obtain ⟨n, hnl, hN, hM, hX, hY, hZ⟩ := lvl_facts P2.out.li.1 hl key
        obtain ⟨aj, cj, rfl, hcj, hmj, hcell⟩ := (lvl_cells ho rfl).ex
        unfold maxLen at hmj
        obtain ⟨kk, hkk⟩ : ∃ kk : Nat → ByteArray, ∀ i, K2.key (nth js i) = kk i := ⟨_, fun _ => rfl⟩
        simp only [hkk] at hN hM hX hY hZ hcell
        generalize js.length = len at *
        have QN := hid hN
        have QM := hid hM
        have QX := hid hX
        have QY := hid hY
        have QZ := hid hZ
        have QC := hid hcell
        clear hN hM hX hY hZ hl ho he hkk P1 hcell
        go_wp2
        go_loopw [16] (fun t wr => ∃ i : Nat, i ≤ n ∧ t = .int .i64 i ∧ Hid (w5 = wr)) (fun t _ => n - (intOf t).toNat)
        case atStart => exact ⟨0, Nat.zero_le _, rfl, hid (by trivial)⟩
        case round =>
          obtain ⟨i, hi, rfl, hw⟩ := hrel
          cases hw.out
          by_cases hin : i < n
          · obtain ⟨b3, off3, rfl, hcell⟩ := QC.out (by omega)
            have c0 := hcell i (by omega)
            have hlt3 : i < len := by omega
            have hb : Op.bytesLess (kk i).toList key.toList = true := QN.out i hin
            clear hcell
            go_wp2
            go_roundw
            case rel => exact ⟨i + 1, by omega, by go_num, hid (by trivial)⟩
            case measure => simp [intOf]; omega
          · have : i = n := by omega
            subst this
            by_cases hX : i < len
            · obtain ⟨b3, off3, rfl, hcell⟩ := QC.out (by omega)
              have c0 := hcell i hX
              have c2 := hcell (len - 1) (by omega)
              have hb : Op.bytesLess (kk i).toList key.toList = false := QM.out hX
              rcases Nat.eq_zero_or_pos i with hY | hY
              · subst hY
                rw [Nat.add_zero] at c0
                obtain ⟨L, rfl⟩ : ∃ L, len = L + 1 := ⟨len - 1, by omega⟩
                rw [show L + 1 - 1 = L by omega] at c2
                clear hcell
                clear QC QN QM
                go_wp2_with fail
                refine (seek_ls P2.out.li key).mono ?_
                rintro e w6 ⟨r, hs, rfl, he6⟩
                rw [QX.out r hs, if_pos hX]
                have P3 := hid (P2.out.ext he6)
                have c0 := ext_cell he6 c0
                have c2 := ext_cell he6 c2
                clear he6 hs
                go_wp2_with fail
                refine (before_ls P3.out.li key).mono ?_
                rintro e w7 ⟨r, hs, rfl, he6⟩
                rw [QY.out r hs, if_neg (by omega)]
                have P4 := hid (P3.out.ext he6)
                have c0 := ext_cell he6 c0
                have c2 := ext_cell he6 c2
                clear he6 hs
                go_wp2_with fail
                refine (last_ls P4.out.li).mono ?_
                rintro e w8 ⟨r, hs, rfl, he6⟩
                rw [QZ.out r hs, if_pos (by omega), show L + 1 - 1 = L by omega]
                have P5 := hid (P4.out.ext he6)
                have c0 := ext_cell he6 c0
                have c2 := ext_cell he6 c2
                clear he6 hs
                go_wp2
                go_roundw
                case rel => exact ⟨k + 1, by omega, by omega, by go_num, _, P5.out⟩
                case measure => simp [intOf]; omega
              · have c1 := hcell (i - 1) (by omega)
                obtain ⟨m, rfl⟩ : ∃ m, i = m + 1 := ⟨i - 1, by omega⟩
                obtain ⟨L, rfl⟩ : ∃ L, len = L + 1 := ⟨len - 1, by omega⟩
                rw [show L + 1 - 1 = L by omega] at c2
                rw [show m + 1 - 1 = m by omega] at c1
                clear hcell
                clear QC QN QM
                go_wp2_with fail
                refine (seek_ls P2.out.li key).mono ?_
                rintro e w6 ⟨r, hs, rfl, he6⟩
                rw [QX.out r hs, if_pos hX]
                have P3 := hid (P2.out.ext he6)
                have c0 := ext_cell he6 c0
                have c1 := ext_cell he6 c1
                have c2 := ext_cell he6 c2
                clear he6 hs
                go_wp2_with fail
                refine (before_ls P3.out.li key).mono ?_
                rintro e w7 ⟨r, hs, rfl, he6⟩
                rw [QY.out r hs, if_pos (by omega), show m + 1 - 1 = m by omega]
                have P4 := hid (P3.out.ext he6)
                have c0 := ext_cell he6 c0
                have c1 := ext_cell he6 c1
                have c2 := ext_cell he6 c2
                clear he6 hs
                go_wp2_with fail
                refine (last_ls P4.out.li).mono ?_
                rintro e w8 ⟨r, hs, rfl, he6⟩
                rw [QZ.out r hs, if_pos (by omega), show L + 1 - 1 = L by omega]
                have P5 := hid (P4.out.ext he6)
                have c0 := ext_cell he6 c0
                have c1 := ext_cell he6 c1
                have c2 := ext_cell he6 c2
                clear he6 hs
                go_wp2
                go_roundw
                case rel => exact ⟨k + 1, by omega, by omega, by go_num, _, P5.out⟩
                case measure => simp [intOf]; omega
            · have : i = len := by omega
              subst this
              rcases Nat.eq_zero_or_pos i with hY | hY
              · subst hY
                clear QC QN QM
                go_wp2_with fail
                refine (seek_ls P2.out.li key).mono ?_
                rintro e w6 ⟨r, hs, rfl, he6⟩
                rw [QX.out r hs, if_neg (by omega)]
                have P3 := hid (P2.out.ext he6)
                clear he6 hs
                go_wp2_with fail
                refine (before_ls P3.out.li key).mono ?_
                rintro e w7 ⟨r, hs, rfl, he6⟩
                rw [QY.out r hs, if_neg (by omega)]
                have P4 := hid (P3.out.ext he6)
                clear he6 hs
                go_wp2_with fail
                refine (last_ls P4.out.li).mono ?_
                rintro e w8 ⟨r, hs, rfl, he6⟩
                rw [QZ.out r hs, if_neg (by omega)]
                have P5 := hid (P4.out.ext he6)
                clear he6 hs
                go_wp2
                go_roundw
                case rel => exact ⟨k + 1, by omega, by omega, by go_num, _, P5.out⟩
                case measure => simp [intOf]; omega
              · obtain ⟨b3, off3, rfl, hcell⟩ := QC.out (by omega)
                have c1 := hcell (i - 1) (by omega)
                obtain ⟨m, rfl⟩ : ∃ m, i = m + 1 := ⟨i - 1, by omega⟩
                rw [show m + 1 - 1 = m by omega] at c1
                clear hcell
                clear QC QN QM
                go_wp2_with fail
                refine (seek_ls P2.out.li key).mono ?_
                rintro e w6 ⟨r, hs, rfl, he6⟩
                rw [QX.out r hs, if_neg (by omega)]
                have P3 := hid (P2.out.ext he6)
                have c1 := ext_cell he6 c1
                clear he6 hs
                go_wp2_with fail
                refine (before_ls P3.out.li key).mono ?_
                rintro e w7 ⟨r, hs, rfl, he6⟩
                rw [QY.out r hs, if_pos (by omega), show m + 1 - 1 = m by omega]
                have P4 := hid (P3.out.ext he6)
                have c1 := ext_cell he6 c1
                clear he6 hs
                go_wp2_with fail
                refine (last_ls P4.out.li).mono ?_
                rintro e w8 ⟨r, hs, rfl, he6⟩
                rw [QZ.out r hs, if_pos (by omega), show m + 1 - 1 = m by omega]
                have P5 := hid (P4.out.ext he6)
                have c1 := ext_cell he6 c1
                clear he6 hs
                go_wp2
                go_roundw
                case rel => exact ⟨k + 1, by omega, by omega, by go_num, _, P5.out⟩
                case measure => simp [intOf]; omega
    · have hlt'' : ¬ k < picks.length ∨ (k < picks.length ∧ ¬ k < 200) ∨ (k < picks.length ∧ k < 200 ∧ ¬ 0 < K.n) := by omega
      clear hlt
      rcases hlt'' with hlt | ⟨hlt, hlt50⟩ | ⟨hlt, hlt50, hz⟩
      all_goals
        go_wp2
        go_ret
        exact ⟨rfl, HH.out.ex⟩
end Go.Proofs.Yticmnmdokoonjaa
