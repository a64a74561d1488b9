/- The walk of the law SimfsRenames. -/
import Derived.Test.YtjekfifnhdoamaaLawSf
import Derived.Test.YtjekfifnhdoamaaSfR
set_option linter.unusedSimpArgs false
set_option linter.unusedVariables false
set_option linter.unnecessarySimpa false
namespace Go.Proofs.Ytjekfifnhdoamaa
open Go.RowKit Go.Rg Go.St

theorem qm_ops {F : Nat → Fl} {nf : Nat} {nm ls : Nm} {sn : List Chg} {k : Nat} (h : k ≤ 1000) : (qm F nf nm ls sn k).ops < OpsMax := by
  show k < _
  unfold OpsMax
  omega
set_option maxRecDepth 100000 in
set_option maxHeartbeats 8000000 in
theorem simfsRenames_walk (v0 v1 v2 : Value) (a b : List UInt8) (picks : List Int) (w : World) (h0 : SlB w v0 a) (h1 : SlB w v1 b) (h2 : SlI w v2 picks) :
    Calls Try.prog 9 #[v0, v1, v2] w (TrueExt w) := by
  have S0 := hid h0
  have S1 := hid h1
  have S2 := hid h2
  obtain ⟨a0, c0, rfl, hc0, _⟩ := h0.ex
  obtain ⟨a1, c1, rfl, hc1, _⟩ := h1.ex
  clear h0 h1 h2 hc0 hc1
  go_enter Try.func9, Try.ntmps9
  go_wp2_with fail
  refine (awake04 w).mono ?_
  rintro e w1 ⟨rfl, he1⟩
  have E1 := hid he1
  clear he1
  go_wp2_with fail
  refine (own_new E1.out 1048576 (by decide)).mono ?_
  rintro e w2 ⟨p, rfl, g2⟩
  have O2 := hid (show Own w w2 p (qm (fun _ => default) 0 [] [] [] 0) from g2)
  clear g2 E1
  by_cases ha : 1000 < a.length
  · have d1 : decide ((1000 : Int) < (a.length : Int)) = true := decide_eq_true (by omega)
    clear ha
    go_wp2_with fail
    go_ret
    exact ⟨rfl, O2.out.ext⟩
  · have d1 : decide ((1000 : Int) < (a.length : Int)) = false := decide_eq_false (by omega)
    by_cases hb : 1000 < b.length
    · have d2 : decide ((1000 : Int) < (b.length : Int)) = true := decide_eq_true (by omega)
      clear ha hb
      go_wp2_with fail
      go_ret
      exact ⟨rfl, O2.out.ext⟩
    · have d2 : decide ((1000 : Int) < (b.length : Int)) = false := decide_eq_false (by omega)
      have HA := hid (show a.length ≤ 1000 by omega)
      have HB := hid (show b.length ≤ 1000 by omega)
      clear ha hb
      go_wp2_with fail
      refine (own_create O2.out (Ext.rfl w2) nowN (qm_ops (by decide)) (by decide)).mono ?_
      rintro e w3 ⟨he, g, _⟩
      rw [rn1] at he g
      subst he
      have O3 := hid g
      clear g O2
      go_wp2_with fail
      refine (own_append O3.out (Ext.rfl w3) nowN (S0.out.go O3.out.ext) (by have := HA.out; omega) (qm_ops (by decide))).mono ?_
      rintro e w4 ⟨he, g, _⟩
      rw [rn2 a HA.out] at he g
      subst he
      have O4 := hid g
      clear g O3
      go_wp2_with fail
      refine (own_sync O4.out (Ext.rfl w4) nowN (qm_ops (by decide))).mono ?_
      rintro e w5 ⟨he, g, _⟩
      rw [rn3] at he g
      subst he
      have O5 := hid g
      clear g O4
      go_wp2_with fail
      refine (own_syncDir O5.out (Ext.rfl w5) (qm_ops (by decide))).mono ?_
      rintro e w6 ⟨he, g, _⟩
      rw [rn4] at he g
      subst he
      have O6 := hid g
      clear g O5
      go_wp2_with fail
      refine (own_create O6.out (Ext.rfl w6) nextN (qm_ops (by decide)) (by decide)).mono ?_
      rintro e w7 ⟨he, g, _⟩
      rw [rn5] at he g
      subst he
      have O7 := hid g
      clear g O6
      go_wp2_with fail
      refine (own_append O7.out (Ext.rfl w7) nextN (S1.out.go O7.out.ext) (by have := HB.out; omega) (qm_ops (by decide))).mono ?_
      rintro e w8 ⟨he, g, _⟩
      rw [rn6 a b HA.out HB.out] at he g
      subst he
      have O8 := hid g
      clear g O7
      go_wp2_with fail
      refine (own_sync O8.out (Ext.rfl w8) nextN (qm_ops (by decide))).mono ?_
      rintro e w9 ⟨he, g, _⟩
      rw [rn7] at he g
      subst he
      have O9 := hid g
      clear g O8
      go_wp2_with fail
      refine (own_rename O9.out (Ext.rfl w9) nextN nowN (qm_ops (by decide)) (by decide)).mono ?_
      rintro e w10 ⟨he, g, _⟩
      rw [rn8] at he g
      subst he
      have O10 := hid g
      clear g O9
      go_wp2_with fail
      refine (own_crash O10.out (Ext.rfl w10) (S2.out.go O10.out.ext) (fun hn k hk => .inr (sl1_lt S2.out.1 hn k hk)) (Nat.le_of_lt (qm_ops (by decide)))).mono ?_
      rintro e w11 ⟨rfl, g, _⟩
      have O11 := hid g
      clear g O10
      go_wp2_with fail
      refine (own_read O11.out nowN).mono ?_
      rintro e w12 ⟨v, rfl, hv⟩
      obtain ⟨x, hx, hab⟩ := rn9 a b picks
      rw [hx] at hv ⊢
      have hv' : BytesNew w11 x v w12 := hv
      have k0 := conv_slB (read_slB hv')
      have O12 := hid (O11.out.go hv'.2)
      have k1 := conv_slB (S0.out.go O12.out.ext)
      have k2 := conv_slB (S1.out.go O12.out.ext)
      obtain ⟨aX, cX, rfl, _⟩ := slice_ofG hv'.1
      clear hv hv' hx O11
      have HAB := hid hab
      clear hab
      go_wp2_with fail
      all_goals
        go_ret
        refine ⟨?_, O12.out.ext⟩
        first
          | rfl
          | (rcases HAB.out with e | e <;> subst e <;> simp)
end Go.Proofs.Ytjekfifnhdoamaa
