/- The walk of the law MemtableOrders. -/
import Derived.Test.YtoonhcmeklmnlaaMtY
import Derived.Deep.CutRange
set_option linter.unusedSimpArgs false
set_option linter.unusedVariables false
set_option linter.unnecessarySimpa false
namespace Go.Proofs.Ytoonhcmeklmnlaa
open Go.RowKit Go.Rg Go.St

theorem key_eql (a b : IKey) (w : World) : (binOp .eql 42 (aKey a) (aKey b)).run Try.prog w = .ok (.bool (decide (a = b))) w := by
  have h := ikey_equal a b w
  have e : (Op.equal 42 (aKey a) (aKey b)).run Try.prog w = (Op.equalIn 10000 42 (aKey a) (aKey b)).run Try.prog w := by simp [Op.equal, Op.maxDepth]
  rw [run_eql_struct, ← e, h]
  rfl
/-- no key twice with unlike values, of the first so many -/
def NoT (l : List KVp) (i k : Nat) : Prop := ∀ b, b < k → ¬ ((nth l i).1 = (nth l b).1 ∧ (nth l i).2 ≠ (nth l b).2)
theorem agree_of {l : List KVp} (h : ∀ i, i < l.length → NoT l i i) : ∀ a, a ∈ l → ∀ b, b ∈ l → a.1 = b.1 → a = b := by
  intro a ha b hb hk
  obtain ⟨i, hi, rfl⟩ := mem_nth ha
  obtain ⟨j, hj, rfl⟩ := mem_nth hb
  have key : ∀ i j, i < l.length → j < i → (nth l i).1 = (nth l j).1 → nth l i = nth l j := fun i j hi hj hk => by
    have h1 := h i hi j hj
    have h2 : (nth l i).2 = (nth l j).2 := by
      by_cases e : (nth l i).2 = (nth l j).2
      · exact e
      · exact absurd ⟨hk, e⟩ h1
    exact Prod.ext hk h2
  rcases Nat.lt_trichotomy i j with h1 | h1 | h1
  · exact (key j i hj h1 hk.symm).symm
  · rw [h1]
  · exact key i j hi h1 hk

set_option maxRecDepth 100000 in
set_option maxHeartbeats 2000000 in
theorem memtableOrders_walk (v0 : Value) (l0 : List KVp) (u : ByteArray) (s : Nat) (w : World) (h0 : SlS w v0 4 eKV l0) (ok0 : ∀ x, x ∈ l0 → OkKV x) (hu : u.size ≤ 1099511627776) :
    Calls Try.prog 6 #[v0, .string u, .int .u64 s] w (TrueExt w) := by
  obtain ⟨a0, cap0, rfl, hcap0, hm0, _⟩ := h0.ex
  have H0 := hid h0
  have OK0 := hid ok0
  have HU := hid hu
  unfold maxLen at hm0
  clear h0 ok0 hu
  go_enter Try.func6, Try.ntmps6
  go_wp2_with fail
  refine (awake08 w).mono ?_
  rintro e w1 ⟨rfl, he1⟩
  have E1 := hid he1
  clear he1
  have HS1 := hid (show SlS w1 (.slice a0 l0.length cap0) 4 eKV l0 from H0.out.go (fun _ => rfl) E1.out)
  go_upto_if 19 with fail
  go_cut [0] from 17 to 21 (fun v wx => wx = w1 ∧ ∃ l : List KVp, l.length ≤ 300 ∧ (∀ x, x ∈ l → OkKV x) ∧ SlS w1 v 4 eKV l)
  case first =>
    by_cases hlt : 300 < l0.length
    · have hd : decide ((300 : Int) < (l0.length : Int)) = true := decide_eq_true (by omega)
      go_wp2_with fail
      go_meet
      case rel => exact ⟨rfl, l0.take 300, by rw [List.length_take]; omega, fun x hx => OK0.out x (List.mem_of_mem_take hx), slS_take HS1.out 300 (Nat.le_of_lt hlt)⟩
    · have hd : decide ((300 : Int) < (l0.length : Int)) = false := decide_eq_false (by omega)
      go_wp2_with fail
      go_meet
      case rel => exact ⟨rfl, l0, by omega, OK0.out, HS1.out⟩
  case rest =>
    obtain ⟨rfl, l, hl, ok, hsl⟩ := hcut
    clear HS1
    obtain ⟨a, cap, rfl, hcap, hm, _⟩ := hsl.ex
    unfold maxLen at hm
    have HL := hid hl
    have HSL := hid hsl
    have OK := hid ok
    clear ok hsl
    go_wp2_with fail
    go_loopw [8] (fun t wr => ∃ i : Nat, i ≤ l.length ∧ t = .int .i64 i ∧ Ext wc wr ∧ ∀ j, j < i → NoT l j j) (fun t _ => l.length - (intOf t).toNat)
    case atStart => exact ⟨0, Nat.zero_le _, rfl, Ext.rfl _, fun j hj => absurd hj (Nat.not_lt_zero _)⟩
    case round =>
      obtain ⟨i, hi, rfl, he, hno⟩ := hrel
      have HE := hid he
      have HNO := hid hno
      clear he hno
      by_cases hlt : i < l.length
      · obtain ⟨_, _, hes, _, _, hc⟩ := HSL.out.ex
        obtain ⟨b, off, ha, _⟩ := hc (by omega)
        simp only [Value.slice.injEq] at hes
        obtain ⟨rfl, _, rfl⟩ := hes
        subst ha
        clear hc
        have HC := hid (fun (w' : World) (he : Ext wc w') (k : Nat) (hk : k < l.length) => kv_cells (HSL.out.go (fun _ => rfl) he) rfl hk)
        go_wp2_with fail
        obtain ⟨wo, hwo⟩ : ∃ wo : World, wo = wr := ⟨_, rfl⟩
        rw [← hwo] at HE
        go_loopw [9] (fun t wq => ∃ k : Nat, k ≤ i ∧ t = .int .i64 k ∧ Ext wo wq ∧ NoT l i k) (fun t _ => i - (intOf t).toNat)
        case atStart => exact ⟨0, Nat.zero_le _, rfl, by rw [hwo]; exact Ext.rfl _, fun j hj => absurd hj (Nat.not_lt_zero _)⟩
        case round =>
          obtain ⟨k, hk, rfl, heq, hnk⟩ := hrel
          have HQ := hid (HE.out.tr heq)
          have HQ2 := hid heq
          have HNK := hid hnk
          clear heq hnk
          by_cases hki : k < i
          · obtain ⟨c0, c1, c2, c3⟩ := HC.out wr HQ.out i hlt
            obtain ⟨d0, d1, d2, d3⟩ := HC.out wr HQ.out k (by omega)
            have hkq := fun w => key_eql (nth l i).1 (nth l k).1 w
            by_cases hke : (nth l i).1 = (nth l k).1
            · have hd : decide ((nth l i).1 = (nth l k).1) = true := decide_eq_true hke
              by_cases hve : (nth l i).2 = (nth l k).2
              · have hv : ((nth l i).2.toList == (nth l k).2.toList) = true := by rw [hve]; simp
                have HN2 := hid (show NoT l i (k + 1) from fun b hb hh => by
                  by_cases e : b = k
                  · subst e; exact hh.2 hve
                  · exact HNK.out b (by omega) hh)
                have HVE := hid hve
                have HKE := hid hke
                clear hke hve
                go_wp2_with fail
                go_quiet (fail)
                go_wp2_with fail
                go_roundw
                case rel => exact ⟨k + 1, by omega, by go_num, HQ2.out.drN _, HN2.out⟩
                case measure => simp [intOf]; omega
              · have hv : ((nth l i).2.toList == (nth l k).2.toList) = false := str_ne hve
                have HKE := hid hke
                have HVE := hid hve
                clear hke hve
                go_wp2_with fail
                go_quiet (fail)
                go_wp2_with fail
                go_ret
                exact ⟨rfl, E1.out.tr (HQ.out.drN _)⟩
            · have hd : decide ((nth l i).1 = (nth l k).1) = false := decide_eq_false hke
              have HN2 := hid (show NoT l i (k + 1) from fun b hb hh => by
                  by_cases e : b = k
                  · subst e; exact hke hh.1
                  · exact HNK.out b (by omega) hh)
              have HKE := hid hke
              clear hke
              go_wp2_with fail
              go_quiet (fail)
              go_wp2_with fail
              go_roundw
              case rel => exact ⟨k + 1, by omega, by go_num, HQ2.out.drN _, HN2.out⟩
              case measure => simp [intOf]; omega
          · have : k = i := by omega
            subst this
            go_wp2_with fail
            go_roundw
            case rel =>
              refine ⟨k + 1, by omega, by go_num, HQ.out, fun j hj => ?_⟩
              by_cases e : j = k
              · subst e; exact HNK.out
              · exact HNO.out j (by omega)
            case measure => simp [intOf]; omega
      · have : i = l.length := by omega
        subst this
        have hag := agree_of HNO.out
        have hma := mem_addAll l [] (by simpa using hag)
        have hmb := mem_addAll l.reverse [] (by simpa using hag)
        have hsame : ∀ e, e ∈ addAll [] l.reverse ↔ e ∈ addAll [] l := fun e => by rw [hma, hmb]; simp
        have HSAME := hid hsame
        have EE := hid (E1.out.tr HE.out)
        have ha := added_in false (.slice a l.length cap) l wr (HSL.out.go (fun _ => rfl) HE.out) OK.out (by omega)
        have HA := hid ha
        clear hag hma hmb hsame ha
        go_wp2_with fail
        refine HA.out.mono ?_
        rintro e w2 ⟨ta, rfl, hta, he2⟩
        have E2 := hid (HE.out.tr he2)
        have T2 := hid (show TabAt wr.heap.size ta false (addAll [] l) w2 from hta)
        have hb := added_in true (.slice a l.length cap) l w2 (HSL.out.go (fun _ => rfl) E2.out) OK.out (by omega)
        have HB := hid hb
        clear hb hta he2 HA
        go_wp2_with fail
        refine HB.out.mono ?_
        rintro e w3 ⟨tb, rfl, htb, he3⟩
        have T3 := hid (show TabAt w2.heap.size tb false (addAll [] l.reverse) w3 from htb)
        have T2' := hid (T2.out.ext he3)
        have E3 := hid (E2.out.tr he3)
        have GA := hid T2.out.good
        have GB := hid T3.out.good
        have LA := hid (show (addAll [] l).length ≤ 3000000000000 by have := addAll_len l []; simp at this; omega)
        have LB := hid (show (addAll [] l.reverse).length ≤ 3000000000000 by have := addAll_len l.reverse []; simp at this; omega)
        clear htb he3 HB T2
        go_wp2_with fail
        refine (at_get T2'.out u s HU.out).mono ?_
        rintro e w4 ⟨v4, n4, rfl, hg4, he4⟩
        have G4 := hid hg4
        have E4 := hid he4
        clear hg4 he4
        go_wp2_with fail
        refine (at_get (T3.out.ext E4.out) u s HU.out).mono ?_
        rintro e w5 ⟨v5, n5, rfl, hg5, he5⟩
        obtain ⟨rfl, rfl⟩ := getOf_one (fun e _ => HSAME.out e) (fun e he => (GA.out.1 e he).1) GA.out.2 G4.out hg5
        have E5 := hid (E4.out.tr he5)
        clear hg5 he5
        go_wp2_with fail
        refine (at_size (T2'.out.ext E5.out)).mono ?_
        rintro e w6 ⟨rfl, he6⟩
        have E6 := hid (E5.out.tr he6)
        clear he6
        go_wp2_with fail
        refine (at_size (T3.out.ext E6.out)).mono ?_
        rintro e w7 ⟨rfl, he7⟩
        rw [sumE_same GB.out.2 GA.out.2 HSAME.out]
        have E7 := hid (E6.out.tr he7)
        clear he7
        go_wp2_with fail
        refine (at_all (T2'.out.ext E7.out) LA.out).mono ?_
        rintro e w8 ⟨va, oa, rfl, hall, hown, he8, _⟩
        have S8 := hid (owns_slT hown rfl eKV_length (by decide))
        have AL := hid hall
        have E8 := hid (E7.out.tr he8)
        clear hall hown he8
        go_wp2_with fail
        refine (at_all (T3.out.ext E8.out) LB.out).mono ?_
        rintro e w9 ⟨vb, ob, rfl, hall, hown, he9, _⟩
        obtain rfl := all_one HSAME.out hall AL.out
        have S9 := hid (owns_slT hown rfl eKV_length (by decide))
        have S8' := hid (show SlS w9 va 4 eKV ob from S8.out.go (fun _ => rfl) he9)
        have E9 := hid (E8.out.tr he9)
        clear hall hown he9
        go_wp2_with fail
        refine (same_in va vb _ w9 S8'.out S9.out).mono ?_
        rintro e w10 ⟨rfl, he10⟩
        go_wp2_with fail
        go_ret
        exact ⟨rfl, E1.out.tr ((E3.out.tr E9.out).tr he10)⟩
end Go.Proofs.Ytoonhcmeklmnlaa
