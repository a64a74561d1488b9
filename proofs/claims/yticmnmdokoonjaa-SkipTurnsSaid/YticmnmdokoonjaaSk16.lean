/- The walk of looks: between two steps all levels are as they may be. -/
import Derived.Test.YticmnmdokoonjaaLawSk3
set_option linter.unusedSimpArgs false
set_option linter.unusedVariables false
set_option linter.unnecessarySimpa false
namespace Go.Proofs.Yticmnmdokoonjaa
open Go.RowKit Go.Rg Go.St

theorem rises_keys {K : SK} {js : List Nat} (h : Rises K.key js) : risesB (keysOf K js) = true := by
  refine decide_eq_true fun j hj => ?_
  have hl : (keysOf K js).length = js.length := by simp [keysOf]
  have e : ∀ i, i < js.length → nth (keysOf K js) i = K.key (nth js i) := fun i hi => by
    rw [nth_eq _ _ (by omega), nth_eq js i hi]; simp [keysOf]
  rw [e j (by omega), e (j + 1) (by omega), nth_eq js j (by omega), nth_eq js (j + 1) (by omega)]
  exact List.pairwise_iff_getElem.1 h j (j + 1) (by omega) (by omega) (by omega)
theorem mem_lvl {K : SK} (hI : Inv K) {l : Nat} {js : List Nat} (h : Lvl K l js) {i : Nat} (hi : i < K.n) : decide (K.key i ∈ keysOf K js) = decide (l < K.lv i) := by
  have : K.key i ∈ keysOf K js ↔ l < K.lv i := by
    constructor
    · intro hm
      obtain ⟨j, hj, e⟩ := List.mem_map.1 hm
      have h1 := (h.mem j).1 hj
      rw [← hI.inj j i h1.1 hi e]; exact h1.2
    · intro hl
      exact List.mem_map.2 ⟨i, (h.mem i).2 ⟨hi, hl⟩, rfl⟩
  simp [this]

set_option maxRecDepth 20000 in
set_option maxHeartbeats 2000000 in
theorem looks_in {B lb : Nat} {w : World} {K : SK} {kv hv dv : Value} {dn : Nat → Bool} (hl : ListAt B lb w K) (hn : K.n ≤ 60) (hk : Sl1 w kv K.n (fun i => .string (K.key i))) (hh : Sl1 w hv K.n (fun i => .int .i64 (K.ht i : Nat))) (hd : Sl1 w dv K.n (fun i => .bool (dn i)))
    (hdn : ∀ i, i < K.n → dn i = true → K.lv i = K.ht i) :
    Calls Try.prog 33 #[.pointer (some ⟨lb, 0, none⟩), kv, hv, dv] w (BoolExt true w) := by
  have HI := hid hl.1
  obtain ⟨ak, ck, rfl, hck, hmk, _⟩ := hk.ex
  unfold maxLen at hmk
  have HL := hid hl
  have HK := hid hk
  have HH := hid hh
  have HD := hid hd
  have HN := hid hdn
  have H0 : Hid (SlStr w (.slice ak K.n ck) (keysK K)) := hid (by
    unfold SlStr
    rw [show (keysK K).length = K.n by simp [keysK]]
    exact Sl1.cong hk fun i hi => by rw [nth_keysK hi])
  clear hl hk hh hd hdn
  go_enter Try.func33, Try.ntmps33
  go_wp2
  go_loopw [9, 10] (fun v t wr => ∃ m : Nat, m ≤ 8 ∧ t = .int .i64 m ∧ Ext w wr ∧ ∃ xs, SlStr wr v xs ∧ ∀ j, j < K.n → m < K.lv j → K.key j ∈ xs) (fun _ t _ => 8 - (intOf t).toNat)
  case atStart => exact ⟨0, by omega, rfl, Ext.rfl w, keysK K, H0.out, fun j hj _ => mem_keysK.2 ⟨j, hj, rfl⟩⟩
  case round =>
    obtain ⟨m, hm8, rfl, he, xs, hxs, hin⟩ := hrel
    have HE := hid he
    have HX := hid hxs
    have HJ := hid hin
    clear he hxs hin
    by_cases hm : m < 8
    · go_wp2_with fail
      refine (keys_ls (HL.out.ext HE.out) (by omega) hm).mono ?_
      rintro e w4 ⟨js, v, hlv, rfl, ho, he4⟩
      have E4 := hid (HE.out.tr he4)
      have S4 := hid (owns_str (xs := keysOf K js) ho (by simp [keysOf]))
      have X4 := hid (HX.out.go he4)
      have HV := hid hlv
      have hup := rises_keys hlv.up
      have hwi : decide (∀ x, x ∈ keysOf K js → x ∈ xs) = true := decide_eq_true fun x hx => by
        obtain ⟨j, hj, rfl⟩ := List.mem_map.1 hx
        exact HJ.out j ((HV.out.mem j).1 hj).1 ((HV.out.mem j).1 hj).2
      have UP := hid hup
      have WI := hid hwi
      clear hlv ho he4 hup hwi
      go_wp2_with fail
      refine (rising_in _ _ _ S4.out).mono ?_
      rintro e w5 ⟨rfl, he5⟩
      rw [UP.out]
      have E5 := hid (E4.out.tr he5)
      have S5 := hid (S4.out.go he5)
      have X5 := hid (X4.out.go he5)
      clear he5
      go_wp2_with fail
      refine (within_in _ _ _ _ _ S5.out X5.out).mono ?_
      rintro e w6 ⟨rfl, rfl⟩
      rw [WI.out]
      go_wp2
      go_loopw [14] (fun t wr => ∃ i : Nat, i ≤ K.n ∧ t = .int .i64 i ∧ Hid (w5 = wr)) (fun t _ => K.n - (intOf t).toNat)
      case atStart => exact ⟨0, Nat.zero_le _, rfl, hid (by trivial)⟩
      case round =>
        obtain ⟨i, hi, rfl, hw⟩ := hrel
        cases hw.out
        by_cases hil : i < K.n
        · obtain ⟨ak', ck', ek, _, _, hc⟩ := (HK.out.go E5.out).ex
          obtain ⟨b2, off2, rfl, hcell⟩ := hc (by omega)
          simp only [Value.slice.injEq] at ek
          obtain ⟨rfl, _, rfl⟩ := ek
          have c1 := hcell i hil
          clear hc hcell
          obtain ⟨ah, ch, rfl, _, _, hc⟩ := (HH.out.go E5.out).ex
          obtain ⟨b3, off3, rfl, hcell⟩ := hc (by omega)
          have c2 := hcell i hil
          clear hc hcell
          obtain ⟨ad, cd, rfl, _, _, hc⟩ := (HD.out.go E5.out).ex
          obtain ⟨b4, off4, rfl, hcell⟩ := hc (by omega)
          have c3 := hcell i hil
          clear hc hcell
          have hmem := mem_lvl HI.out HV.out hil
          have hlh := HI.out.lv i hil
          have hdi := HN.out i hil
          generalize dn i = db at *
          generalize K.ht i = hti at *
          by_cases hlt : m < K.lv i
          · rw [decide_eq_true hlt] at hmem
            have HM := hid hmem
            clear hmem
            cases db with
            | true =>
              have hx : (m : Int) < hti := by omega
              clear hdi
              go_wp2_with fail
              refine (has_in _ _ _ _ S5.out).mono ?_
              rintro e w7 ⟨rfl, rfl⟩
              rw [HM.out]
              go_wp2
              go_roundw
              case rel => exact ⟨i + 1, by omega, by go_num, hid (by trivial)⟩
              case measure => simp [intOf]; omega
            | false =>
              have hx : (m : Int) < hti := by omega
              clear hdi
              go_wp2_with fail
              refine (has_in _ _ _ _ S5.out).mono ?_
              rintro e w7 ⟨rfl, rfl⟩
              rw [HM.out]
              go_wp2
              go_roundw
              case rel => exact ⟨i + 1, by omega, by go_num, hid (by trivial)⟩
              case measure => simp [intOf]; omega
          · rw [decide_eq_false hlt] at hmem
            have HM := hid hmem
            clear hmem
            cases db with
            | true =>
              have hx : ¬ (m : Int) < hti := by have := hdi rfl; omega
              clear hdi
              go_wp2_with fail
              refine (has_in _ _ _ _ S5.out).mono ?_
              rintro e w7 ⟨rfl, rfl⟩
              rw [HM.out]
              go_wp2
              go_roundw
              case rel => exact ⟨i + 1, by omega, by go_num, hid (by trivial)⟩
              case measure => simp [intOf]; omega
            | false =>
              clear hdi
              go_wp2_with fail
              refine (has_in _ _ _ _ S5.out).mono ?_
              rintro e w7 ⟨rfl, rfl⟩
              rw [HM.out]
              go_wp2
              go_roundw
              case rel => exact ⟨i + 1, by omega, by go_num, hid (by trivial)⟩
              case measure => simp [intOf]; omega
        · have : i = K.n := by omega
          subst this
          go_wp2
          go_roundw
          case rel => exact ⟨m + 1, by omega, by go_num, E5.out, _, S5.out, fun j hj hlv => List.mem_map.2 ⟨j, (HV.out.mem j).2 ⟨hj, by omega⟩, rfl⟩⟩
          case measure => simp [intOf]; omega
    · have : m = 8 := by omega
      subst this
      go_wp2
      go_ret
      exact ⟨rfl, HE.out⟩
end Go.Proofs.Yticmnmdokoonjaa
