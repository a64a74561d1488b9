/- The walk of awake (files that a crash cuts). -/
import Derived.Test.YtjekfifnhdoamaaSfD
import Derived.Lib.SlBytesConst
import Derived.Deep.CutBlock
set_option linter.unusedSimpArgs false
set_option linter.unusedVariables false
set_option linter.unnecessarySimpa false
namespace Go.Proofs.Ytjekfifnhdoamaa
open Go.RowKit Go.Rg Go.St

def fw0 : FsM := FsM.new 100
def fw1 : FsM := (fw0.create ⟨#[97]⟩).2
def fw2 : FsM := (fw1.append ⟨#[97]⟩ [120, 121]).2
def fw3 : FsM := (fw2.sync ⟨#[97]⟩).2
def fw4 : FsM := (fw3.append ⟨#[97]⟩ [122]).2
def fw5 : FsM := fw4.crash [1, 0]
def fw6 : FsM := fw4.crash [0]
theorem fw_create : (fw0.create ⟨#[97]⟩).1 = 0 := by decide +kernel
theorem fw_append : (fw1.append ⟨#[97]⟩ [120, 121]).1 = 0 := by decide +kernel
theorem fw_sync : (fw2.sync ⟨#[97]⟩).1 = 0 := by decide +kernel
theorem fw_read5 : fw5.read ⟨#[97]⟩ = ([120, 121], 0) := by decide +kernel
theorem fw_read6 : (fw6.read ⟨#[97]⟩).2 = 42 := by decide +kernel
theorem fw_ops5 : fw5.ops = 4 := by decide +kernel
theorem fw_opsl : fw0.ops < OpsMax ∧ fw1.ops < OpsMax ∧ fw2.ops < OpsMax ∧ fw3.ops < OpsMax ∧ fw4.ops ≤ OpsMax := by decide +kernel
def TrueExt (w : World) (e : Ending) (w' : World) : Prop := e = .returned (.bool true) ∧ Ext w w'
set_option maxRecDepth 100000 in
set_option maxHeartbeats 8000000 in
theorem awake04 (w : World) : Calls Try.prog 24 #[] w (TrueExt w) := by
  have kc := fun (w : World) (C : Array Value) (n c : Nat) => Lib.run_convert_bytes_const (P := Try.prog) w 53 5 C n c Try.underlying53 Try.underlying5
  have OM := hid fw_opsl
  go_enter Try.func24, Try.ntmps24
  go_wp2_with fail
  refine (own_new (Ext.rfl w) 100 (by decide)).mono ?_
  rintro e w1 ⟨p, rfl, h1⟩
  have O1 := hid (show Own w w1 p fw0 from h1)
  clear h1
  go_wp2_with fail
  refine (own_create O1.out (Ext.rfl w1) ⟨#[97]⟩ OM.out.1 (by decide)).mono ?_
  rintro e w2 ⟨he, h2, _⟩
  rw [fw_create] at he
  subst he
  have O2 := hid (show Own w w2 p fw1 from h2)
  clear h2 O1
  go_wp2_with fail
  refine (own_append O2.out ((Ext.rfl w2).al _) ⟨#[97]⟩ (slB_lit w2 [120, 121] _ _ rfl (by decide)) (by decide) OM.out.2.1).mono ?_
  rintro e w3 ⟨he, h3, _⟩
  rw [fw_append] at he
  subst he
  have O3 := hid (show Own w w3 p fw2 from h3)
  clear h3 O2
  go_wp2_with fail
  refine (own_sync O3.out (Ext.rfl w3) ⟨#[97]⟩ OM.out.2.2.1).mono ?_
  rintro e w4 ⟨he, h4, _⟩
  rw [fw_sync] at he
  subst he
  have O4 := hid (show Own w w4 p fw3 from h4)
  clear h4 O3
  go_wp2_with fail
  refine (own_append O4.out ((Ext.rfl w4).al _) ⟨#[97]⟩ (slB_lit w4 [122] _ _ rfl (by decide)) (by decide) OM.out.2.2.2.1).mono ?_
  rintro e w5 ⟨he, h5, _⟩
  subst he
  have O5 := hid (show Own w w5 p fw4 from h5)
  clear h5 O4
  go_wp2_with fail
  refine (own_copy O5.out OM.out.2.2.2.2).mono ?_
  rintro e w6 ⟨q, rfl, h6⟩
  have T6 := hid h6
  clear h6 O5
  go_wp2_with fail
  refine (two_crash T6.out ((Ext.rfl w6).al _) (slI_lit w6 [1, 0] _ _ _ rfl (by decide) (by decide)) (fun _ k hk => by cases hk; exact .inl (Nat.le_refl _)) OM.out.2.2.2.2).mono ?_
  rintro e w7 ⟨rfl, h7, _⟩
  have T7 := hid (show Two w w7 p fw5 q fw4 from h7)
  clear h7 T6
  go_wp2_with fail
  refine (own_read T7.out.one ⟨#[97]⟩).mono ?_
  rintro e w8 ⟨v, rfl, hv⟩
  rw [fw_read5] at hv ⊢
  have hv' : BytesNew w7 [120, 121] v w8 := hv
  have T8 := hid T7.out.swap
  have X8 := hid hv'.2
  obtain ⟨aX, cX, rfl, _⟩ := slice_ofG hv'.1
  have S8 := hid (show SlB w8 (.slice aX 2 cX) [120, 121] from read_slB hv')
  have B8 := hid (owns_mid (w0 := w) (wx := w8) (w' := w8) (w := w7) hv'.1 (Nat.le_refl _))
  clear hv hv' T7
  go_wp2_with fail
  refine (two_crash T8.out (X8.out.tr ((Ext.rfl w8).al _)) (slI_lit w8 [0] _ _ _ rfl (by decide) (by decide)) (fun _ k hk => by cases hk; exact .inl X8.out.size) OM.out.2.2.2.2).mono ?_
  rintro e w9 ⟨rfl, h9, c9⟩
  have T9 := hid (show Two w w9 q fw6 p fw5 from h9)
  have S9 := hid (show SlB w9 (.slice aX 2 cX) [120, 121] from sl1_mid (S8.out.go ((Ext.rfl w8).al _)) c9 B8.out)
  clear h9 c9 T8 S8
  go_wp2_with fail
  refine (own_read T9.out.one ⟨#[97]⟩).mono ?_
  rintro e w10 ⟨v2, rfl, hv2⟩
  rw [fw_read6]
  have T10 := hid (T9.out.swap.one.go hv2.2)
  have hcv := conv_slB (S9.out.go hv2.2)
  have E10 := hid (show Ext w w10 from T10.out.ext)
  clear hv2 S9 T9
  go_wp2_with fail
  refine (own_ops T10.out).mono ?_
  rintro e w11 ⟨rfl, rfl⟩
  rw [fw_ops5]
  go_wp2_with fail
  go_ret
  exact ⟨rfl, E10.out⟩
theorem simfsNames_walk (w : World) : Calls Try.prog 7 #[] w (TrueExt w) := by
  go_enter Try.func7, Try.ntmps7
  go_wp2_with fail
  refine (awake04 w).mono ?_
  rintro e w1 ⟨rfl, he1⟩
  go_wp2
  go_ret
  exact ⟨rfl, he1⟩
end Go.Proofs.Ytjekfifnhdoamaa
