/- The walk of the law MemtableSizes. -/
import Derived.Test.YtoonhcmeklmnlaaMtY
import Derived.Deep.CutRange
set_option linter.unusedSimpArgs false
set_option linter.unusedVariables false
set_option linter.unnecessarySimpa false

/-! ## (LawMo) The walk of the law MemtableOrders. -/
namespace Go.Proofs.Ytoonhcmeklmnlaa
open Go.RowKit Go.Rg Go.St

theorem key_eql (a b : IKey) (w : World) : (binOp .eql 42 (aKey a) (aKey b)).run Try.prog w = .ok (.bool (decide (a = b))) w := by
  have h := ikey_equal a b w
  have e : (Op.equal 42 (aKey a) (aKey b)).run Try.prog w = (Op.equalIn 10000 42 (aKey a) (aKey b)).run Try.prog w := by simp [Op.equal, Op.maxDepth]
  rw [run_eql_struct, ← e, h]
  rfl
/-- no key twice with unlike values, of the first so many -/
def NoT (l : List KVp) (i k : Nat) : Prop := ∀ b, b < k → ¬ ((nth l i).1 = (nth l b).1 ∧ (nth l i).2 ≠ (nth l b).2)
theorem agree_of {l : List KVp} (h : ∀ i, i < l.length → NoT l i i) : ∀ a, a ∈ l → ∀ b, b ∈ l → a.1 = b.1 → a = b := by
  intro a ha b hb hk
  obtain ⟨i, hi, rfl⟩ := mem_nth ha
  obtain ⟨j, hj, rfl⟩ := mem_nth hb
  have key : ∀ i j, i < l.length → j < i → (nth l i).1 = (nth l j).1 → nth l i = nth l j := fun i j hi hj hk => by
    have h1 := h i hi j hj
    have h2 : (nth l i).2 = (nth l j).2 := by
      by_cases e : (nth l i).2 = (nth l j).2
      · exact e
      · exact absurd ⟨hk, e⟩ h1
    exact Prod.ext hk h2
  rcases Nat.lt_trichotomy i j with h1 | h1 | h1
  · exact (key j i hj h1 hk.symm).symm
  · rw [h1]
  · exact key i j hi h1 hk

set_option maxRecDepth 100000 in
set_option maxHeartbeats 2000000 in
theorem memtableOrders_walk (v0 : Value) (l0 : List KVp) (u : ByteArray) (s : Nat) (w : World) (h0 : SlS w v0 4 eKV l0) (ok0 : ∀ x, x ∈ l0 → OkKV x) (hu : u.size ≤ 1099511627776) :
    Calls Try.prog 6 #[v0, .string u, .int .u64 s] w (TrueExt w) := by
  obtain ⟨a0, cap0, rfl, hcap0, hm0, _⟩ := h0.ex
  have H0 := hid h0
  have OK0 := hid ok0
  have HU := hid hu
  unfold maxLen at hm0
  clear h0 ok0 hu
  go_enter Try.func6, Try.ntmps6
  go_wp2_with fail
  refine (awake08 w).mono ?_
  rintro e w1 ⟨rfl, he1⟩
  have E1 := hid he1
  clear he1
  have HS1 := hid (show SlS w1 (.slice a0 l0.length cap0) 4 eKV l0 from H0.out.go (fun _ => rfl) E1.out)
  go_upto_if 19 with fail
  go_cut [0] from 17 to 21 (fun v wx => wx = w1 ∧ ∃ l : List KVp, l.length ≤ 300 ∧ (∀ x, x ∈ l → OkKV x) ∧ SlS w1 v 4 eKV l)
  case first =>
    by_cases hlt : 300 < l0.length
    · have hd : decide ((300 : Int) < (l0.length : Int)) = true := decide_eq_true (by omega)
      go_wp2_with fail
      go_meet
      case rel => exact ⟨rfl, l0.take 300, by rw [List.length_take]; omega, fun x hx => OK0.out x (List.mem_of_mem_take hx), slS_take HS1.out 300 (Nat.le_of_lt hlt)⟩
    · have hd : decide ((300 : Int) < (l0.length : Int)) = false := decide_eq_false (by omega)
      go_wp2_with fail
      go_meet
      case rel => exact ⟨rfl, l0, by omega, OK0.out, HS1.out⟩
  case rest =>
    obtain ⟨rfl, l, hl, ok, hsl⟩ := hcut
    clear HS1
    obtain ⟨a, cap, rfl, hcap, hm, _⟩ := hsl.ex
    unfold maxLen at hm
    have HL := hid hl
    have HSL := hid hsl
    have OK := hid ok
    clear ok hsl
    go_wp2_with fail
    go_loopw [8] (fun t wr => ∃ i : Nat, i ≤ l.length ∧ t = .int .i64 i ∧ Ext wc wr ∧ ∀ j, j < i → NoT l j j) (fun t _ => l.length - (intOf t).toNat)
    case atStart => exact ⟨0, Nat.zero_le _, rfl, Ext.rfl _, fun j hj => absurd hj (Nat.not_lt_zero _)⟩
    case round =>
      obtain ⟨i, hi, rfl, he, hno⟩ := hrel
      have HE := hid he
      have HNO := hid hno
      clear he hno
      by_cases hlt : i < l.length
      · obtain ⟨_, _, hes, _, _, hc⟩ := HSL.out.ex
        obtain ⟨b, off, ha, _⟩ := hc (by omega)
        simp only [Value.slice.injEq] at hes
        obtain ⟨rfl, _, rfl⟩ := hes
        subst ha
        clear hc
        have HC := hid (fun (w' : World) (he : Ext wc w') (k : Nat) (hk : k < l.length) => kv_cells (HSL.out.go (fun _ => rfl) he) rfl hk)
        go_wp2_with fail
        obtain ⟨wo, hwo⟩ : ∃ wo : World, wo = wr := ⟨_, rfl⟩
        rw [← hwo] at HE
        go_loopw [9] (fun t wq => ∃ k : Nat, k ≤ i ∧ t = .int .i64 k ∧ Ext wo wq ∧ NoT l i k) (fun t _ => i - (intOf t).toNat)
        case atStart => exact ⟨0, Nat.zero_le _, rfl, by rw [hwo]; exact Ext.rfl _, fun j hj => absurd hj (Nat.not_lt_zero _)⟩
        case round =>
          obtain ⟨k, hk, rfl, heq, hnk⟩ := hrel
          have HQ := hid (HE.out.tr heq)
          have HQ2 := hid heq
          have HNK := hid hnk
          clear heq hnk
          by_cases hki : k < i
          · obtain ⟨c0, c1, c2, c3⟩ := HC.out wr HQ.out i hlt
            obtain ⟨d0, d1, d2, d3⟩ := HC.out wr HQ.out k (by omega)
            have hkq := fun w => key_eql (nth l i).1 (nth l k).1 w
            by_cases hke : (nth l i).1 = (nth l k).1
            · have hd : decide ((nth l i).1 = (nth l k).1) = true := decide_eq_true hke
              by_cases hve : (nth l i).2 = (nth l k).2
              · have hv : ((nth l i).2.toList == (nth l k).2.toList) = true := by rw [hve]; simp
                have HN2 := hid (show NoT l i (k + 1) from fun b hb hh => by
                  by_cases e : b = k
                  · subst e; exact hh.2 hve
                  · exact HNK.out b (by omega) hh)
                have HVE := hid hve
                have HKE := hid hke
                clear hke hve
                go_wp2_with fail
                go_quiet (fail)
                go_wp2_with fail
                go_roundw
                case rel => exact ⟨k + 1, by omega, by go_num, HQ2.out.drN _, HN2.out⟩
                case measure => simp [intOf]; omega
              · have hv : ((nth l i).2.toList == (nth l k).2.toList) = false := str_ne hve
                have HKE := hid hke
                have HVE := hid hve
                clear hke hve
                go_wp2_with fail
                go_quiet (fail)
                go_wp2_with fail
                go_ret
                exact ⟨rfl, E1.out.tr (HQ.out.drN _)⟩
            · have hd : decide ((nth l i).1 = (nth l k).1) = false := decide_eq_false hke
              have HN2 := hid (show NoT l i (k + 1) from fun b hb hh => by
                  by_cases e : b = k
                  · subst e; exact hke hh.1
                  · exact HNK.out b (by omega) hh)
              have HKE := hid hke
              clear hke
              go_wp2_with fail
              go_quiet (fail)
              go_wp2_with fail
              go_roundw
              case rel => exact ⟨k + 1, by omega, by go_num, HQ2.out.drN _, HN2.out⟩
              case measure => simp [intOf]; omega
          · have : k = i := by omega
            subst this
            go_wp2_with fail
            go_roundw
            case rel =>
              refine ⟨k + 1, by omega, by go_num, HQ.out, fun j hj => ?_⟩
              by_cases e : j = k
              · subst e; exact HNK.out
              · exact HNO.out j (by omega)
            case measure => simp [intOf]; omega
      · have : i = l.length := by omega
        subst this
        have hag := agree_of HNO.out
        have hma := mem_addAll l [] (by simpa using hag)
        have hmb := mem_addAll l.reverse [] (by simpa using hag)
        have hsame : ∀ e, e ∈ addAll [] l.reverse ↔ e ∈ addAll [] l := fun e => by rw [hma, hmb]; simp
        have HSAME := hid hsame
        have EE := hid (E1.out.tr HE.out)
        have ha := added_in false (.slice a l.length cap) l wr (HSL.out.go (fun _ => rfl) HE.out) OK.out (by omega)
        have HA := hid ha
        clear hag hma hmb hsame ha
        go_wp2_with fail
        refine HA.out.mono ?_
        rintro e w2 ⟨ta, rfl, hta, he2⟩
        have E2 := hid (HE.out.tr he2)
        have T2 := hid (show TabAt wr.heap.size ta false (addAll [] l) w2 from hta)
        have hb := added_in true (.slice a l.length cap) l w2 (HSL.out.go (fun _ => rfl) E2.out) OK.out (by omega)
        have HB := hid hb
        clear hb hta he2 HA
        go_wp2_with fail
        refine HB.out.mono ?_
        rintro e w3 ⟨tb, rfl, htb, he3⟩
        have T3 := hid (show TabAt w2.heap.size tb false (addAll [] l.reverse) w3 from htb)
        have T2' := hid (T2.out.ext he3)
        have E3 := hid (E2.out.tr he3)
        have GA := hid T2.out.good
        have GB := hid T3.out.good
        have LA := hid (show (addAll [] l).length ≤ 3000000000000 by have := addAll_len l []; simp at this; omega)
        have LB := hid (show (addAll [] l.reverse).length ≤ 3000000000000 by have := addAll_len l.reverse []; simp at this; omega)
        clear htb he3 HB T2
        go_wp2_with fail
        refine (at_get T2'.out u s HU.out).mono ?_
        rintro e w4 ⟨v4, n4, rfl, hg4, he4⟩
        have G4 := hid hg4
        have E4 := hid he4
        clear hg4 he4
        go_wp2_with fail
        refine (at_get (T3.out.ext E4.out) u s HU.out).mono ?_
        rintro e w5 ⟨v5, n5, rfl, hg5, he5⟩
        obtain ⟨rfl, rfl⟩ := getOf_one (fun e _ => HSAME.out e) (fun e he => (GA.out.1 e he).1) GA.out.2 G4.out hg5
        have E5 := hid (E4.out.tr he5)
        clear hg5 he5
        go_wp2_with fail
        refine (at_size (T2'.out.ext E5.out)).mono ?_
        rintro e w6 ⟨rfl, he6⟩
        have E6 := hid (E5.out.tr he6)
        clear he6
        go_wp2_with fail
        refine (at_size (T3.out.ext E6.out)).mono ?_
        rintro e w7 ⟨rfl, he7⟩
        rw [sumE_same GB.out.2 GA.out.2 HSAME.out]
        have E7 := hid (E6.out.tr he7)
        clear he7
        go_wp2_with fail
        refine (at_all (T2'.out.ext E7.out) LA.out).mono ?_
        rintro e w8 ⟨va, oa, rfl, hall, hown, he8, _⟩
        have S8 := hid (owns_slT hown rfl eKV_length (by decide))
        have AL := hid hall
        have E8 := hid (E7.out.tr he8)
        clear hall hown he8
        go_wp2_with fail
        refine (at_all (T3.out.ext E8.out) LB.out).mono ?_
        rintro e w9 ⟨vb, ob, rfl, hall, hown, he9, _⟩
        obtain rfl := all_one HSAME.out hall AL.out
        have S9 := hid (owns_slT hown rfl eKV_length (by decide))
        have S8' := hid (show SlS w9 va 4 eKV ob from S8.out.go (fun _ => rfl) he9)
        have E9 := hid (E8.out.tr he9)
        clear hall hown he9
        go_wp2_with fail
        refine (same_in va vb _ w9 S8'.out S9.out).mono ?_
        rintro e w10 ⟨rfl, he10⟩
        go_wp2_with fail
        go_ret
        exact ⟨rfl, E1.out.tr ((E3.out.tr E9.out).tr he10)⟩
end Go.Proofs.Ytoonhcmeklmnlaa

/-! ## (LawMz) The walk of the law MemtableSizes. -/
namespace Go.Proofs.Ytoonhcmeklmnlaa
open Go.RowKit Go.Rg Go.St

/-! ### keys compared -/
def cmpK (a b : IKey) : Int := if kl (keyT a) (keyT b) then -1 else if a = b then 0 else 1
set_option maxHeartbeats 1000000 in
theorem compare_in (a b : IKey) (ha : GoodE a) (hb : GoodE b) (w : World) : Calls Try.prog 31 #[aKey a, aKey b] w (IntExt (cmpK a b) w) := by
  have hk := keyT_less ha hb
  obtain ⟨ua, sa, ka⟩ := a
  obtain ⟨ub, sb, kb⟩ := b
  unfold cmpK
  rw [hk]
  obtain ⟨_, _, _, hka⟩ := ha
  obtain ⟨_, _, _, hkb⟩ := hb
  simp only at *
  by_cases hu : ua = ub
  · subst hu
    have h1 : Op.bytesLess ua.toList ua.toList = false := kl_irrefl ua
    rw [if_pos rfl]
    by_cases hs : sb < sa
    · have hc : decide (sb * 256 + kb < sa * 256 + ka) = true := decide_eq_true (by omega)
      have hd : decide (sb < sa) = true := decide_eq_true hs
      rw [hc, if_pos rfl]
      go_enter Try.func31, Try.ntmps31
      go_wp2_with fail
      go_ret
      exact ⟨rfl, ((Ext.rfl w).al _).al _⟩
    · have hd : decide (sb < sa) = false := decide_eq_false hs
      by_cases hs2 : sa = sb
      · subst hs2
        by_cases hk2 : kb < ka
        · have hc : decide (sa * 256 + kb < sa * 256 + ka) = true := decide_eq_true (by omega)
          have hd2 : decide (kb < ka) = true := decide_eq_true hk2
          rw [hc, if_pos rfl]
          go_enter Try.func31, Try.ntmps31
          go_wp2_with fail
          go_ret
          exact ⟨rfl, ((Ext.rfl w).al _).al _⟩
        · have hc : decide (sa * 256 + kb < sa * 256 + ka) = false := decide_eq_false (by omega)
          have hd2 : decide (kb < ka) = false := decide_eq_false hk2
          rw [hc, if_neg (by decide)]
          by_cases hk3 : ka < kb
          · have hd3 : decide (ka < kb) = true := decide_eq_true hk3
            rw [if_neg (fun e => by cases e; omega)]
            go_enter Try.func31, Try.ntmps31
            go_wp2_with fail
            go_ret
            exact ⟨rfl, ((Ext.rfl w).al _).al _⟩
          · have hd3 : decide (ka < kb) = false := decide_eq_false hk3
            have : ka = kb := by omega
            subst this
            rw [if_pos rfl]
            go_enter Try.func31, Try.ntmps31
            go_wp2_with fail
            go_ret
            exact ⟨rfl, ((Ext.rfl w).al _).al _⟩
      · have hc : decide (sb * 256 + kb < sa * 256 + ka) = false := decide_eq_false (by omega)
        have hd2 : (sa == sb) = false := by simpa using hs2
        have hd3 : decide (sa < sb) = true := decide_eq_true (by omega)
        rw [hc, if_neg (by decide), if_neg (fun e => by cases e; omega)]
        go_enter Try.func31, Try.ntmps31
        go_wp2_with fail
        go_ret
        exact ⟨rfl, ((Ext.rfl w).al _).al _⟩
  · rw [if_neg hu]
    rcases kl_total ua ub with h1 | h1 | h1
    · rw [if_pos h1]
      have hl : Op.bytesLess ua.toList ub.toList = true := h1
      go_enter Try.func31, Try.ntmps31
      go_wp2_with fail
      go_ret
      exact ⟨rfl, ((Ext.rfl w).al _).al _⟩
    · exact absurd h1 hu
    · have h2 := kl_asymm h1
      rw [h2, if_neg (by decide), if_neg (fun e => by cases e; exact hu rfl)]
      have hl : Op.bytesLess ua.toList ub.toList = false := h2
      have hl2 : Op.bytesLess ub.toList ua.toList = true := h1
      have hne : (ua.toList == ub.toList) = false := str_ne hu
      go_enter Try.func31, Try.ntmps31
      go_wp2_with fail
      go_ret
      exact ⟨rfl, ((Ext.rfl w).al _).al _⟩

/-! ### what an entry's own number finds -/
def firstK (out : List KVp) (i : Nat) : Bool := decide (i = 0) || decide ((nth out (i - 1)).1.user ≠ (nth out i).1.user) || decide ((nth out (i - 1)).1.seq ≠ (nth out i).1.seq)
def findK (out : List KVp) (i : Nat) : KVp := if firstK out i then nth out i else nth out (i - 1)
theorem find_newest {es out : List KVp} (hA : AllOf (mkT es) out) (hg : ∀ e, e ∈ es → GoodE e.1) {i : Nat} (hi : i < out.length) : Newest (mkT es) (nth out i).1.user (nth out i).1.seq (findK out i) ∧ (firstK out i = true → findK out i = nth out i) := by
  have hmem : ∀ j, j < out.length → nth out j ∈ es := fun j hj => (hA.mem _).1 (nth_mem out j hj)
  have hlt : ∀ j k, j < k → k < out.length → kl (keyT (nth out j).1) (keyT (nth out k).1) = true := fun j k hjk hk => by
    have := List.pairwise_iff_getElem.1 hA.ris j k (by omega) hk hjk
    rwa [← nth_eq out j (by omega), ← nth_eq out k hk] at this
  have hpos : ∀ e, e ∈ es → ∃ j, j < out.length ∧ nth out j = e := fun e he => mem_nth ((hA.mem e).2 he)
  have gi := hg _ (hmem i hi)
  refine ⟨?_, fun h => by unfold findK; rw [if_pos h]⟩
  by_cases hf : firstK out i = true
  · have e0 : findK out i = nth out i := by unfold findK; rw [if_pos hf]
    rw [e0]
    refine ⟨hmem i hi, rfl, Int.le_refl _, fun e' he' hu hs => ?_⟩
    refine Int.not_lt.1 fun hlt' => ?_
    have g' := hg e' he'
    obtain ⟨j, hj, hje⟩ := hpos e' he'
    have hk' : kl (keyT e'.1) (keyT (nth out i).1) = true := by rw [keyT_less g' gi, if_pos hu]; exact decide_eq_true hlt'
    have hji : j < i := by
      refine Nat.not_le.1 fun hij => ?_
      rcases Nat.lt_or_eq_of_le hij with h | h
      · have h1 := hlt i j h hj
        rw [hje] at h1
        rw [kl_asymm h1] at hk'; cases hk'
      · rw [h, hje, kl_irrefl] at hk'; cases hk'
    have hp : i - 1 < out.length := by omega
    have gp := hg _ (hmem (i - 1) hp)
    have hpi := hlt (i - 1) i (by omega) hi
    have hjp : nth out j = nth out (i - 1) ∨ kl (keyT (nth out j).1) (keyT (nth out (i - 1)).1) = true := by
      by_cases e : j = i - 1
      · rw [e]; exact .inl rfl
      · exact .inr (hlt j (i - 1) (by omega) hp)
    rw [hje] at hjp
    have hcase : (nth out (i - 1)).1.user = (nth out i).1.user ∧ (nth out (i - 1)).1.seq = (nth out i).1.seq := by
      have k1 := gi.2.2.2
      have k2 := g'.2.2.2
      have k3 := gp.2.2.2
      rcases hjp with e | e
      · rw [← e]; exact ⟨hu, by omega⟩
      · rw [keyT_less g' gp] at e
        rw [keyT_less gp gi] at hpi
        by_cases hup : (nth out (i - 1)).1.user = (nth out i).1.user
        · rw [if_pos hup] at hpi
          rw [if_pos (hu.trans hup.symm)] at e
          have a1 := of_decide_eq_true hpi
          have a2 := of_decide_eq_true e
          exact ⟨hup, by omega⟩
        · rw [if_neg hup] at hpi
          rw [if_neg (fun h => hup (h.symm.trans hu)), hu] at e
          rw [kl_asymm hpi] at e; cases e
    unfold firstK at hf
    simp [hcase.1, hcase.2] at hf
    omega
  · have e0 : findK out i = nth out (i - 1) := by unfold findK; rw [if_neg hf]
    unfold firstK at hf
    simp at hf
    obtain ⟨⟨h0, hu0⟩, hs0⟩ := hf
    rw [e0]
    have hp : i - 1 < out.length := by omega
    have gp := hg _ (hmem (i - 1) hp)
    have hpi := hlt (i - 1) i (by omega) hi
    refine ⟨hmem _ hp, hu0, by omega, fun e' he' hu hs => ?_⟩
    have g' := hg e' he'
    rw [keyT_less gp gi, if_pos hu0] at hpi
    have a1 := of_decide_eq_true hpi
    have k1 := gi.2.2.2
    have k2 := g'.2.2.2
    have k3 := gp.2.2.2
    omega
/-- what Get answers at an entry's own number -/
def gotV (out : List KVp) (i : Nat) : ByteArray := if (findK out i).1.kind = 0 then ByteArray.empty else (findK out i).2
def gotN (out : List KVp) (i : Nat) : Int := if (findK out i).1.kind = 0 then 1 else 2
theorem got_of {es out : List KVp} (hA : AllOf (mkT es) out) (hg : ∀ e, e ∈ es → GoodE e.1) (hu : (es.map Prod.fst).Nodup) {i : Nat} (hi : i < out.length) {v : ByteArray} {n : Int} (h : GetOf (mkT es) (nth out i).1.user (nth out i).1.seq v n) : v = gotV out i ∧ n = gotN out i := by
  have hn := (find_newest hA hg hi).1
  have hk := (hg _ hn.1).2.2.2
  refine getOf_one (es := es) (es' := es) (fun _ _ => Iff.rfl) hg hu (v := gotV out i) (n := gotN out i) ?_ h |> fun h => ⟨h.1.symm, h.2.symm⟩
  refine .inr ⟨findK out i, hn, ?_⟩
  unfold gotV gotN
  rcases hk with hk | hk
  · exact .inl ⟨hk, if_pos hk, if_pos hk⟩
  · exact .inr ⟨hk, if_neg (by omega), if_neg (by omega)⟩

theorem cf_cmp (args : Array Value) (w : World) : (callFunc 31 args).run Try.prog w = .ok (.enter 31 args) w := by kernel_rfl
theorem cf_get (args : Array Value) (w : World) : (callFunc 25 args).run Try.prog w = .ok (.enter 25 args) w := by kernel_rfl
theorem addE_sum (es : List KVp) (x : KVp) : (addC false es x.1 x.2 = 0 → sumE (addE false es x.1 x.2) = sumE es + roomE x.1 x.2 ∧ (addE false es x.1 x.2).length = es.length + 1) ∧ (addC false es x.1 x.2 ≠ 0 → addE false es x.1 x.2 = es) := by
  constructor
  · intro h
    unfold addE
    rw [if_pos h, sumE_snoc]
    exact ⟨rfl, by simp⟩
  · intro h
    unfold addE
    rw [if_neg h]

set_option maxRecDepth 100000 in
set_option maxHeartbeats 4000000 in
theorem memtableSizes_walk (v0 : Value) (l : List KVp) (w : World) (h0 : SlS w v0 4 eKV l) (ok0 : ∀ x, x ∈ l → OkKV x) (hn : l.length ≤ 2932031007318) :
    Calls Try.prog 7 #[v0] w (TrueExt w) := by
  obtain ⟨a0, cap0, rfl, hcap0, hm0, _⟩ := h0.ex
  have H0 := hid h0
  have OK0 := hid ok0
  unfold maxLen at hm0
  clear h0 ok0
  go_enter Try.func7, Try.ntmps7
  go_wp2_with fail
  refine (awake08 w).mono ?_
  rintro e w1 ⟨rfl, he1⟩
  have E1 := hid he1
  clear he1
  go_wp2_with fail
  refine (at_new _).mono ?_
  rintro e w2 ⟨tb, rfl, hT, he2⟩
  have T2 := hid hT
  have E2 := hid (E1.out.tr he2)
  have HW := hid E1.out.size
  have HB := hid he2.size
  generalize w1.heap.size = B at *
  clear hT he2 E1
  go_wp2_with fail
  go_loopw [5, 6, 7] (fun sv cv t wr => ∃ i : Nat, i ≤ l.length ∧ t = .int .i64 i ∧ ∃ es, es = addAll [] (l.take i) ∧ sv = .int .i64 (sumE es) ∧ cv = .int .i64 (es.length : Nat) ∧ Ext w wr ∧ B ≤ wr.heap.size ∧ TabAt B tb false es wr) (fun _ _ t _ => l.length - (intOf t).toNat)
  case atStart => exact ⟨0, Nat.zero_le _, rfl, [], rfl, rfl, rfl, E2.out, HB.out, T2.out⟩
  case round =>
    clear T2 E2 HB
    obtain ⟨i, hi, rfl, es, hes, rfl, rfl, he, hB, hT⟩ := hrel
    have HE := hid he
    have HB := hid hB
    have HT := hid hT
    have HES := hid hes
    have hlen : es.length ≤ i := by
      have h1 := addAll_len (l.take i) []
      rw [List.length_take, ← hes] at h1
      simp at h1
      omega
    clear he hB hT hes
    by_cases hlt : i < l.length
    · have hbase : ∀ w', Ext w w' → SlS w' (.slice a0 l.length cap0) 4 eKV l := fun w' he => H0.out.go (fun _ => rfl) he
      obtain ⟨_, _, hes, _, _, hc⟩ := H0.out.ex
      obtain ⟨b, off, ha, _⟩ := hc (by omega)
      simp only [Value.slice.injEq] at hes
      obtain ⟨rfl, _, rfl⟩ := hes
      subst ha
      clear hc
      obtain ⟨j, rfl⟩ : ∃ j, j = i := ⟨i, rfl⟩
      have HAT := hid (fun w' (he : Ext w w') => kv_at (hbase w' he) rfl hlt)
      have HCE := hid (fun w' (he : Ext w w') => kv_cells (hbase w' he) rfl hlt)
      have HJI := hid (Int.ofNat_lt.2 hlt)
      have HK := hid (OK0.out _ (nth_mem l j hlt))
      have HLE := hid (show es.length ≤ 3000000000000 by omega)
      have hI0 := hid (show AddI w B tb es (nth l j) false wr from ⟨HE.out, HB.out, HT.out⟩)
      have hst := take_snoc l j hlt
      have HST := hid (show addE false es (nth l j).1 (nth l j).2 = addAll [] (l.take (j + 1)) by rw [hst, addAll_snoc, HES.out])
      have hgd := HT.out.good
      have hsum := sumE_le hgd.1
      have HSUM := hid (show 0 ≤ sumE es ∧ sumE es ≤ 4000000000000000 by omega)
      have HLEN := hid hlen
      clear hbase HT hst hgd hsum hlen
      go_wp2_with fail
      refine wp_draw1 (AddI w B tb es (nth l j)) 11 (by kernel_rfl) (by kernel_rfl) (fun b w w' h he => h.ext he) hI0.out (by rfl) ?_
      refine rg1_step 28 (by rfl) (fun _ _ hi => ob_move (by rfl) (by rfl)) rfl (by rfl) ?_
      refine rg1_step 29 (by rfl) (fun _ _ hi => ob_move (by rfl) (by rfl)) rfl (by rfl) ?_
      refine rg1_step 30 (by rfl) (fun _ _ hi => ob_move (by rfl) (by rfl)) rfl (by rfl) ?_
      refine rg1_step 31 (by rfl) (fun _ _ hi => ob_index 4 (off + j * 4) (by rfl) (by rfl) (by rfl) Try.underlying35 (by kernel_rfl) (Int.natCast_nonneg j) HJI.out (by rw [Int.toNat_natCast])) rfl (by rfl) ?_
      refine rg1_step 32 (by rfl) (fun _ _ hi => ob_field (n := 2) (off + j * 4) 0 42 (by rfl) (by rfl) Try.underlying44 (by rfl) (by kernel_rfl) rfl) rfl (by rfl) ?_
      refine rg1_step 33 (by rfl) (fun _ _ hi => ob_loadmid (cs := [.string (nth l j).1.user, .int .u64 (nth l j).1.seq, .int .i64 (nth l j).1.kind]) (by rfl) (by rfl) (fun _ he => (HAT.out _ (hi.1.tr he)).1) Try.underlying42 rfl (by kernel_rfl)) rfl (by rfl) ?_
      refine rg1_step 34 (by rfl) (fun _ _ hi => ob_move (by rfl) (by rfl)) rfl (by rfl) ?_
      refine rg1_step 35 (by rfl) (fun _ _ hi => ob_move (by rfl) (by rfl)) rfl (by rfl) ?_
      refine rg1_step 36 (by rfl) (fun _ _ hi => ob_index 4 (off + j * 4) (by rfl) (by rfl) (by rfl) Try.underlying35 (by kernel_rfl) (Int.natCast_nonneg j) HJI.out (by rw [Int.toNat_natCast])) rfl (by rfl) ?_
      refine rg1_step 37 (by rfl) (fun _ _ hi => ob_field (n := 0) (off + j * 4 + 3) 3 9 (by rfl) (by rfl) Try.underlying44 (by rfl) (by kernel_rfl) rfl) rfl (by rfl) ?_
      refine rg1_step 38 (by rfl) (fun _ _ hi => ob_load (v := .string (nth l j).2) (by rfl) (by rfl) (by kernel_rfl) (fun _ he => (HAT.out _ (hi.1.tr he)).2)) rfl (by rfl) ?_
      refine rg1_call 39 [.pointer (some ⟨tb, 0, none⟩), aKey (nth l j).1, .string (nth l j).2] cf_add (by rfl) (by rfl) (fun w' hi => AddI.call HW.out HLE.out HK.out hi) ?_
      refine rg1_step 8 (by rfl) (fun _ _ hi => ob_assign (by rfl) (by rfl)) rfl (by rfl) ?_
      refine rg1_end ?_
      intro w4 hi4
      simp only [asg, List.set_cons_zero, List.set_cons_succ, List.map_cons, List.map_nil, opens]
      have HI4 := hid hi4
      clear hi4
      obtain ⟨q0, q1, q2, q3⟩ := HCE.out w4 HI4.out.1
      by_cases hz : addC false es (nth l j).1 (nth l j).2 = 0
      · obtain ⟨hs1, hs2⟩ := (addE_sum es (nth l j)).1 hz
        rw [hz]
        have hgd2 := HI4.out.2.2.good
        have hmm : nth l j ∈ addE false es (nth l j).1 (nth l j).2 := mem_addE.2 (.inr ⟨hz, rfl⟩)
        obtain ⟨hg1, hg2⟩ := hgd2.1 _ hmm
        have hu1 := hg1.1
        have hv1 := hg2.le
        obtain ⟨hw1, hw2⟩ := HSUM.out
        have hl1 := HLEN.out
        have HS1 := hid hs1
        have HS2 := hid hs2
        have hroom : roomE (nth l j).1 (nth l j).2 = ((nth l j).1.user.size : Int) + (nth l j).2.size + 16 := rfl
        have HROOM := hid hroom
        clear hs1 hs2 hgd2 hmm hg1 hg2 hroom hz
        generalize sumE es = se at *
        generalize es.length = el at *
        go_wp2_with fail
        go_quiet (fail)
        go_wp2_with fail
        have hsz := at_size (HI4.out.2.2.ext ((Ext.rfl w4).drN nq))
        rw [show sumE (bif true then addE false es (nth l j).1 (nth l j).2 else es) = se + roomE (nth l j).1 (nth l j).2 from HS1.out, HROOM.out] at hsz
        refine hsz.mono ?_
        rintro e w5 ⟨rfl, he5⟩
        have E5 := hid ((HI4.out.1.drN nq).tr he5)
        have B5 := hid (Nat.le_trans HI4.out.2.1 he5.size)
        have T5 := hid ((HI4.out.2.2.ext ((Ext.rfl w4).drN nq)).ext he5)
        clear he5 hsz
        go_wp2_with fail
        go_roundw
        case rel => exact ⟨j + 1, hlt, by go_num, _, HST.out, by rw [HS1.out, HROOM.out]; exact congrArg (Value.int .i64) (by omega), by rw [HS2.out]; go_num, E5.out, B5.out, T5.out⟩
        case measure => simp [intOf]; omega
      · have hs1 := (addE_sum es (nth l j)).2 hz
        have hzz : (addC false es (nth l j).1 (nth l j).2 == 0) = false := by simpa using hz
        have HS1 := hid hs1
        clear hs1 hz
        go_wp2_with fail
        have hsz := at_size HI4.out.2.2
        rw [show sumE (bif true then addE false es (nth l j).1 (nth l j).2 else es) = sumE es by rw [cond_true, HS1.out]] at hsz
        refine hsz.mono ?_
        rintro e w5 ⟨rfl, he5⟩
        have E5 := hid (HI4.out.1.tr he5)
        have B5 := hid (Nat.le_trans HI4.out.2.1 he5.size)
        have T5 := hid (HI4.out.2.2.ext he5)
        clear he5 hsz
        go_wp2_with fail
        go_roundw
        case rel => exact ⟨j + 1, hlt, by go_num, _, HST.out, by rw [HS1.out], by rw [HS1.out], E5.out, B5.out, T5.out⟩
        case measure => simp [intOf]; omega
    · have : i = l.length := by omega
      subst this
      rw [List.take_of_length_le (Nat.le_refl _)] at HES
      have GD := hid HT.out.good
      have LE := hid (show es.length ≤ 3000000000000 by omega)
      clear hlen
      go_wp2_with fail
      refine (at_all HT.out LE.out).mono ?_
      rintro e w8 ⟨va, out, rfl, hall, hown, he8, hol⟩
      obtain ⟨av, cv, rfl, hmv⟩ := slice_of hown
      have S8 := hid (show SlS w8 (.slice av out.length cv) 4 eKV out from owns_slT hown rfl eKV_length (by decide))
      have AL := hid hall
      have T8 := hid (HT.out.ext he8)
      have E8 := hid (HE.out.tr he8)
      have hol' : out.length = es.length := hol
      rw [← hol']
      have LE2 := hid (show out.length ≤ 3000000000000 by rw [hol']; exact LE.out)
      unfold maxLen at hmv
      clear hall hown he8 hol hol' LE HT HB HE
      go_wp2_with fail
      go_loopw [10] (fun t wr => ∃ i : Nat, i ≤ out.length ∧ t = .int .i64 i ∧ Ext w8 wr) (fun t _ => out.length - (intOf t).toNat)
      case atStart => exact ⟨0, Nat.zero_le _, rfl, Ext.rfl _⟩
      case round =>
        obtain ⟨i, hi, rfl, hq⟩ := hrel
        have HQ := hid hq
        clear hq
        by_cases hlt : i < out.length
        · obtain ⟨_, _, hes, _, _, hc⟩ := S8.out.ex
          obtain ⟨b, off, ha, _⟩ := hc (by omega)
          simp only [Value.slice.injEq] at hes
          obtain ⟨rfl, _, rfl⟩ := hes
          subst ha
          clear hc
          have HC := hid (fun (w' : World) (he : Ext w8 w') (k : Nat) (hk : k < out.length) => kv_cells (S8.out.go (fun _ => rfl) he) rfl hk)
          have HAT := hid (fun (w' : World) (he : Ext w8 w') (k : Nat) (hk : k < out.length) => kv_at (S8.out.go (fun _ => rfl) he) rfl hk)
          have hmi := (AL.out.mem _).1 (nth_mem out i hlt)
          have hgi := GD.out.1 _ hmi
          have HGI := hid hgi
          have HGET := hid (show ∀ w', Ext w8 w' → Calls Try.prog 25 #[.pointer (some ⟨tb, 0, none⟩), .string (nth out i).1.user, .int .u64 (nth out i).1.seq] w' (fun e w'' => e = .returned (.tuple #[.string (gotV out i), .int .i64 (gotN out i)]) ∧ Ext w' w'') from fun w' he => by
            have h1 := at_get (T8.out.ext he) (nth out i).1.user (nth out i).1.seq.toNat (Nat.le_trans hgi.1.1 (by decide))
            rw [Int.toNat_of_nonneg hgi.1.2.1] at h1
            refine h1.mono ?_
            rintro e w'' ⟨v, n, rfl, hg, he2⟩
            obtain ⟨rfl, rfl⟩ := got_of AL.out (fun e he => (GD.out.1 e he).1) GD.out.2 hlt hg
            exact ⟨rfl, he2⟩)
          have hl2 := LE2.out
          clear hmi hgi
          go_wp2_with fail
          go_upto_if 93 with fail
          go_cut [93] from 77 to 93 (fun v wx => v = .bool false ∧ Ext wr wx)
          case first =>
            cases i with
            | zero =>
              go_quiet (fail)
              go_wp2_with fail
              go_meet
              case rel => exact ⟨rfl, (Ext.rfl wr).drN _⟩
            | succ p =>
              have hp : p < out.length := by omega
              have hwp : IntKind.i64.wrap (p : Int) = p := by first | (simp [IntKind.wrap_i64]; done) | (simp [IntKind.wrap_i64]; omega)
              have hgt : icmp BinOp.gtr (((p + 1 : Nat) : Int)) 0 = some true := by unfold icmp; first | (simp; done) | (simp; omega)
              have HCMP := hid (show ∀ w', Calls Try.prog 31 #[aKey (nth out p).1, aKey (nth out (p + 1)).1] w' (IntExt (-1) w') from fun w' => by
                have h1 := compare_in (nth out p).1 (nth out (p + 1)).1 (GD.out.1 _ ((AL.out.mem _).1 (nth_mem out p hp))).1 (GD.out.1 _ ((AL.out.mem _).1 (nth_mem out (p + 1) hlt))).1 w'
                have h2 := List.pairwise_iff_getElem.1 AL.out.ris p (p + 1) hp hlt (Nat.lt_succ_self p)
                rw [← nth_eq out p hp, ← nth_eq out (p + 1) hlt] at h2
                unfold cmpK at h1
                rw [if_pos h2] at h1
                exact h1)
              refine wp_draw (by kernel_rfl) (by kernel_rfl) ?_
              refine rg_step 77 (ob_move (by rfl) (by rfl)) rfl (by rfl) ?_
              refine rg_step 78 (ob_icmp true (by rfl) (by rfl) (by rfl) hgt) rfl (by rfl) ?_
              refine rg_step 79 (ob_move (by rfl) (by rfl)) rfl (by rfl) ?_
              refine rg_step 80 (ob_move (by rfl) (by rfl)) rfl (by rfl) ?_
              refine rg_step 81 (ob_move (by rfl) (by rfl)) rfl (by rfl) ?_
              refine rg_step 82 (ob_iarith (p : Int) (p : Int) (by rfl) (by rfl) (by rfl) (congrArg some (by omega)) hwp) rfl (by rfl) ?_
              refine rg_step 83 (ob_index 4 (off + p * 4) (by rfl) (by rfl) (by rfl) Try.underlying35 (by kernel_rfl) (Int.natCast_nonneg p) (Int.ofNat_lt.2 (by omega)) (by rw [Int.toNat_natCast])) rfl (by rfl) ?_
              refine rg_step 84 (ob_field (n := 2) (off + p * 4) 0 42 (by rfl) (by rfl) Try.underlying44 (by rfl) (by kernel_rfl) rfl) rfl (by rfl) ?_
              refine rg_step 85 (ob_loadmid (cs := [.string (nth out p).1.user, .int .u64 (nth out p).1.seq, .int .i64 (nth out p).1.kind]) (by rfl) (by rfl) (fun _ he => (HAT.out _ (HQ.out.tr he) p (by omega)).1) Try.underlying42 rfl (by kernel_rfl)) rfl (by rfl) ?_
              refine rg_step 86 (ob_move (by rfl) (by rfl)) rfl (by rfl) ?_
              refine rg_step 87 (ob_move (by rfl) (by rfl)) rfl (by rfl) ?_
              refine rg_step 88 (ob_index 4 (off + (p + 1) * 4) (by rfl) (by rfl) (by rfl) Try.underlying35 (by kernel_rfl) (Int.natCast_nonneg (p + 1)) (Int.ofNat_lt.2 (by omega)) (by rw [Int.toNat_natCast])) rfl (by rfl) ?_
              refine rg_step 89 (ob_field (n := 2) (off + (p + 1) * 4) 0 42 (by rfl) (by rfl) Try.underlying44 (by rfl) (by kernel_rfl) rfl) rfl (by rfl) ?_
              refine rg_step 90 (ob_loadmid (cs := [.string (nth out (p + 1)).1.user, .int .u64 (nth out (p + 1)).1.seq, .int .i64 (nth out (p + 1)).1.kind]) (by rfl) (by rfl) (fun _ he => (HAT.out _ (HQ.out.tr he) (p + 1) (by omega)).1) Try.underlying42 rfl (by kernel_rfl)) rfl (by rfl) ?_
              refine rg_step 91 (ob_call (.ex (.int .i64 (-1))) (by rfl) cf_cmp (fun w he => gives_ex (HCMP.out w))) rfl (by rfl) ?_
              refine rg_step 92 (ob_icmp false (by rfl) (by rfl) (by rfl) (by rfl)) rfl (by rfl) ?_
              refine rg_step 93 (ob_pick true (by rfl) (by rfl) (by rfl)) rfl (by rfl) ?_
              refine rg_end ?_
              intro w9 he9
              simp only [asg, List.set_cons_zero, List.set_cons_succ, List.map_cons, List.map_nil, opens]
              have E9 := hid he9
              clear he9
              go_wp2_with fail
              go_meet
              case rel => exact ⟨rfl, E9.out⟩
          case rest =>
            obtain ⟨rfl, hx⟩ := hcut
            have HX := hid (HQ.out.tr hx)
            clear hx
            go_wp2_with fail
            refine wp_draw (by kernel_rfl) (by kernel_rfl) ?_
            refine rg_step 95 (ob_move (by rfl) (by rfl)) rfl (by rfl) ?_
            refine rg_step 96 (ob_move (by rfl) (by rfl)) rfl (by rfl) ?_
            refine rg_step 97 (ob_move (by rfl) (by rfl)) rfl (by rfl) ?_
            refine rg_step 98 (ob_index 4 (off + i * 4) (by rfl) (by rfl) (by rfl) Try.underlying35 (by kernel_rfl) (Int.natCast_nonneg i) (Int.ofNat_lt.2 (by omega)) (by rw [Int.toNat_natCast])) rfl (by rfl) ?_
            refine rg_step 99 (ob_field (n := 2) (off + i * 4) 0 42 (by rfl) (by rfl) Try.underlying44 (by rfl) (by kernel_rfl) rfl) rfl (by rfl) ?_
            refine rg_step 100 (ob_field (n := 0) (off + i * 4) 0 9 (by rfl) (by rfl) Try.underlying42 (by rfl) (by kernel_rfl) rfl) rfl (by rfl) ?_
            refine rg_step 101 (ob_load (v := .string (nth out i).1.user) (by rfl) (by rfl) (by kernel_rfl) (fun _ he => (HC.out _ (HX.out.tr he) i hlt).1)) rfl (by rfl) ?_
            refine rg_step 102 (ob_move (by rfl) (by rfl)) rfl (by rfl) ?_
            refine rg_step 103 (ob_move (by rfl) (by rfl)) rfl (by rfl) ?_
            refine rg_step 104 (ob_index 4 (off + i * 4) (by rfl) (by rfl) (by rfl) Try.underlying35 (by kernel_rfl) (Int.natCast_nonneg i) (Int.ofNat_lt.2 (by omega)) (by rw [Int.toNat_natCast])) rfl (by rfl) ?_
            refine rg_step 105 (ob_field (n := 2) (off + i * 4) 0 42 (by rfl) (by rfl) Try.underlying44 (by rfl) (by kernel_rfl) rfl) rfl (by rfl) ?_
            refine rg_step 106 (ob_field (n := 0) (off + i * 4 + 1) 1 36 (by rfl) (by rfl) Try.underlying42 (by rfl) (by kernel_rfl) rfl) rfl (by rfl) ?_
            refine rg_step 107 (ob_load (v := .int .u64 (nth out i).1.seq) (by rfl) (by rfl) (by kernel_rfl) (fun _ he => (HC.out _ (HX.out.tr he) i hlt).2.1)) rfl (by rfl) ?_
            refine rg_step 108 (ob_call (.ex (.tuple #[.string (gotV out i), .int .i64 (gotN out i)])) (by rfl) cf_get (fun w he => gives_ex (HGET.out w (HX.out.tr he)))) rfl (by rfl) ?_
            refine rg_step 94 (ob_move (by rfl) (by rfl)) rfl (by rfl) ?_
            refine rg_step 109 (ob_extract (by rfl) (by rfl) (by rfl)) rfl (by rfl) ?_
            refine rg_step 110 (ob_extract (by rfl) (by rfl) (by rfl)) rfl (by rfl) ?_
            refine rg_step 11 (ob_assign (by rfl) (by rfl)) rfl (by rfl) ?_
            refine rg_step 12 (ob_assign (by rfl) (by rfl)) rfl (by rfl) ?_
            refine rg_end ?_
            intro w9 he9
            simp only [asg, List.set_cons_zero, List.set_cons_succ, List.map_cons, List.map_nil, opens]
            have E9 := hid (HX.out.tr he9)
            clear he9
            go_wp2_with fail
            go_cut [13] from 111 to 144 (fun v wx => v = .bool (firstK out i) ∧ Ext w9 wx)
            case first =>
              cases i with
              | zero =>
                go_quiet (fail)
                go_wp2_with fail
                go_meet
                case rel => exact ⟨by simp [firstK], (Ext.rfl w9).drN _⟩
              | succ p =>
                have hp : p < out.length := by omega
                obtain ⟨c0, c1, c2, c3⟩ := HC.out w9 E9.out p hp
                obtain ⟨d0, d1, d2, d3⟩ := HC.out w9 E9.out (p + 1) hlt
                have hz1 : (((p : Int) + 1) == 0) = false := by rw [beq_eq_false_iff_ne]; omega
                have hz2 : ((((p + 1 : Nat)) : Int) == 0) = false := by rw [beq_eq_false_iff_ne]; omega
                have hpl : (p : Int) < out.length := by omega
                have hpl2 : (p : Int) + 1 < out.length := by omega
                by_cases hu : (nth out p).1.user = (nth out (p + 1)).1.user
                · have huq : ((nth out p).1.user.toList == (nth out (p + 1)).1.user.toList) = true := by rw [hu]; simp
                  have HU := hid hu
                  clear hu
                  by_cases hs : (nth out p).1.seq = (nth out (p + 1)).1.seq
                  · have hsq : ((nth out p).1.seq == (nth out (p + 1)).1.seq) = true := by rw [hs]; simp
                    have HS := hid hs
                    clear hs
                    go_quiet (fail)
                    go_wp2_with fail
                    go_meet
                    case rel => exact ⟨congrArg Value.bool (by simp [firstK, HU.out, HS.out]), (Ext.rfl w9).drN _⟩
                  · have hsq : ((nth out p).1.seq == (nth out (p + 1)).1.seq) = false := by simpa using hs
                    have HS := hid hs
                    clear hs
                    go_quiet (fail)
                    go_wp2_with fail
                    go_meet
                    case rel => exact ⟨congrArg Value.bool (by simp [firstK, HU.out, HS.out]), (Ext.rfl w9).drN _⟩
                · have huq : ((nth out p).1.user.toList == (nth out (p + 1)).1.user.toList) = false := str_ne hu
                  have HU := hid hu
                  clear hu
                  go_quiet (fail)
                  go_wp2_with fail
                  go_meet
                  case rel => exact ⟨congrArg Value.bool (by simp [firstK, HU.out]), (Ext.rfl w9).drN _⟩
            case rest =>
              obtain ⟨rfl, hx⟩ := hcut
              have HX2 := hid (E9.out.tr hx)
              clear hx
              obtain ⟨d0, d1, d2, d3⟩ := HC.out wc HX2.out i hlt
              cases hf : firstK out i
              · go_wp2_with fail
                go_roundw
                case rel => exact ⟨i + 1, hlt, by go_num, HX2.out⟩
                case measure => simp [intOf]; omega
              · have e0 : findK out i = nth out i := by unfold findK; rw [if_pos hf]
                rcases HGI.out.1.2.2.2 with hk | hk
                · have hgn : gotN out i = 1 := by unfold gotN; rw [e0, if_pos hk]
                  have hgv : gotV out i = ByteArray.empty := by unfold gotV; rw [e0, if_pos hk]
                  have hval : (nth out i).2.toList = [] := HGI.out.2.del hk
                  rw [hgn, hgv]
                  rw [hk] at d2
                  have hq : (nth out i).2.toList.isEmpty = true := by rw [hval]; rfl
                  clear hf e0 hk hgn hgv hval
                  go_wp2_with fail
                  go_roundw
                  case rel => exact ⟨i + 1, hlt, by go_num, HX2.out⟩
                  case measure => simp [intOf]; omega
                · have hgn : gotN out i = 2 := by unfold gotN; rw [e0, if_neg (by omega)]
                  have hgv : gotV out i = (nth out i).2 := by unfold gotV; rw [e0, if_neg (by omega)]
                  rw [hgn, hgv]
                  rw [hk] at d2
                  clear hf e0 hk hgn hgv
                  go_wp2_with fail
                  go_roundw
                  case rel => exact ⟨i + 1, hlt, by go_num, HX2.out⟩
                  case measure => simp [intOf]; omega
        · have : i = out.length := by omega
          subst this
          go_wp2_with fail
          go_ret
          exact ⟨rfl, E8.out.tr HQ.out⟩
end Go.Proofs.Ytoonhcmeklmnlaa
