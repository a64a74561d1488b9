/- The walk of the law SimfsLasts. -/
import Derived.Test.YtjekfifnhdoamaaLawSf
import Derived.Test.YtjekfifnhdoamaaSfL
import Derived.Test.YtjekfifnhdoamaaSfS
import Derived.Deep.CutBlock
import Derived.Deep.CutRange
set_option linter.unusedSimpArgs false
set_option linter.unusedVariables false
set_option linter.unnecessarySimpa false
namespace Go.Proofs.Ytjekfifnhdoamaa
open Go.RowKit Go.Rg Go.St

theorem qm_ops' {F : Nat → Fl} {nf : Nat} {nm ls : Nm} {sn : List Chg} {k : Nat} (h : k ≤ 1000) : (qm F nf nm ls sn k).ops < OpsMax := by
  show k < _
  unfold OpsMax
  omega
theorem la_ops (a b : List UInt8) (picks : List Int) : ((laM a b).crash picks).ops ≤ OpsMax := by
  show 7 ≤ _
  unfold OpsMax
  omega
theorem la_list (a b : List UInt8) (picks : List Int) : ∃ ns, ((laM a b).crash picks).list = (ns, 0) := ⟨_, rfl⟩
theorem take_ext (l : List UInt8) (n : Nat) : (!(l.take n == ((⟨l.toArray⟩ : ByteArray).extract 0 n).toList)) = false := by
  have e : ((⟨l.toArray⟩ : ByteArray).extract 0 n).toList = l.take n := by
    rw [ByteArray.toList_eq, ByteArray.data_extract]
    simp
  rw [e]
  simp
theorem own_list_q {w0 w : World} {p : Nat} {M : FsM} (h : Own w0 w p M) (ho : M.ops ≤ OpsMax) {ns : List ByteArray} (hl : M.list = (ns, 0)) : Calls Try.prog 35 #[.pointer (some ⟨p, 0, none⟩)] w (fun e w' => ∃ v, e = .returned (.tuple #[v, .int .i64 0]) ∧ w'.ownsRow w.heap.size 9 1 v ns.length (ns.map Value.string) ∧ Ext w w') := by
  have h1 := own_list h ho
  unfold ListPost at h1
  rw [hl] at h1
  exact h1
theorem own_ok {w0 w : World} {p : Nat} {M : FsM} (h : Own w0 w p M) : M.Ok := by
  obtain ⟨L, e, h1, h2, h3, h4⟩ := h
  exact h2
set_option maxRecDepth 100000 in
set_option maxHeartbeats 8000000 in
theorem simfsLasts_walk (v0 v1 v2 v3 : Value) (a b : List UInt8) (picks again : List Int) (w : World) (h0 : SlB w v0 a) (h1 : SlB w v1 b) (h2 : SlI w v2 picks) (h3 : SlI w v3 again) :
    Calls Try.prog 10 #[v0, v1, v2, v3] w (TrueExt w) := by
  have S0 := hid h0
  have S1 := hid h1
  have S2 := hid h2
  have S3 := hid h3
  obtain ⟨a0, c0, rfl, hc0, _⟩ := h0.ex
  obtain ⟨a1, c1, rfl, hc1, _⟩ := h1.ex
  clear h0 h1 h2 h3 hc0 hc1
  go_enter Try.func10, Try.ntmps10
  go_wp2_with fail
  refine (awake04 w).mono ?_
  rintro e w1 ⟨rfl, he1⟩
  have E1 := hid he1
  clear he1
  go_wp2_with fail
  refine (own_new E1.out 1048576 (by decide)).mono ?_
  rintro e w2 ⟨p, rfl, g2⟩
  have O2 := hid (show Own w w2 p (qm (fun _ => default) 0 [] [] [] 0) from g2)
  clear g2 E1
  by_cases ha : 1000 < a.length
  · have d1 : decide ((1000 : Int) < (a.length : Int)) = true := decide_eq_true (by omega)
    clear ha
    go_wp2_with fail
    go_ret
    exact ⟨rfl, O2.out.ext⟩
  · have d1 : decide ((1000 : Int) < (a.length : Int)) = false := decide_eq_false (by omega)
    by_cases hb : 1000 < b.length
    · have d2 : decide ((1000 : Int) < (b.length : Int)) = true := decide_eq_true (by omega)
      clear ha hb
      go_wp2_with fail
      go_ret
      exact ⟨rfl, O2.out.ext⟩
    · have d2 : decide ((1000 : Int) < (b.length : Int)) = false := decide_eq_false (by omega)
      have HA := hid (show a.length ≤ 1000 by omega)
      have HB := hid (show b.length ≤ 1000 by omega)
      clear ha hb
      go_wp2_with fail
      refine (own_create O2.out (Ext.rfl w2) laN (qm_ops' (by decide)) (by decide)).mono ?_
      rintro e w3 ⟨he, g, _⟩
      rw [la1] at he g
      subst he
      have O3 := hid g
      clear g O2
      go_wp2_with fail
      refine (own_append O3.out (Ext.rfl w3) laN (S0.out.go O3.out.ext) (by have := HA.out; omega) (qm_ops' (by decide))).mono ?_
      rintro e w4 ⟨he, g, _⟩
      rw [la2 a HA.out] at he g
      subst he
      have O4 := hid g
      clear g O3
      go_wp2_with fail
      refine (own_sync O4.out (Ext.rfl w4) laN (qm_ops' (by decide))).mono ?_
      rintro e w5 ⟨he, g, _⟩
      rw [la3] at he g
      subst he
      have O5 := hid g
      clear g O4
      go_wp2_with fail
      refine (own_syncDir O5.out (Ext.rfl w5) (qm_ops' (by decide))).mono ?_
      rintro e w6 ⟨he, g, _⟩
      rw [la4] at he g
      subst he
      have O6 := hid g
      clear g O5
      go_wp2_with fail
      refine (own_append O6.out (Ext.rfl w6) laN (S1.out.go O6.out.ext) (by have := HB.out; omega) (qm_ops' (by decide))).mono ?_
      rintro e w7 ⟨he, g, _⟩
      rw [la5 a b HA.out HB.out] at he g
      subst he
      have O7 := hid g
      clear g O6
      go_wp2_with fail
      refine (own_create O7.out (Ext.rfl w7) lbN (qm_ops' (by decide)) (by decide)).mono ?_
      rintro e w8 ⟨he, g, _⟩
      rw [la6] at he g
      subst he
      have O8 := hid g
      clear g O7
      go_wp2_with fail
      refine (own_rename O8.out (Ext.rfl w8) laN lcN (qm_ops' (by decide)) (by decide)).mono ?_
      rintro e w9 ⟨he, g, _⟩
      rw [la7] at he g
      subst he
      have O9 := hid (show Own w w9 p (laM a b) from g)
      clear g O8
      go_wp2_with fail
      refine (own_crash O9.out (Ext.rfl w9) (S2.out.go O9.out.ext) (fun hn k hk => .inr (sl1_lt S2.out.1 hn k hk)) (by show 7 ≤ _; unfold OpsMax; omega)).mono ?_
      rintro e w10 ⟨rfl, g, _⟩
      have O10 := hid g
      have HCC := hid (crash_crash (own_ok O9.out) picks again)
      have HOP := hid (la_ops a b picks)
      obtain ⟨ns, hns⟩ := la_list a b picks
      have HLI := hid hns
      clear hns
      obtain ⟨n, hn1, hn2, hor⟩ := la8 a b picks
      have HN1 := hid hn1
      have HN2 := hid hn2
      have HOR := hid hor
      clear g O9 hn1 hn2 hor
      generalize (laM a b).crash picks = M at *
      generalize hr : M.read laN = r at *
      obtain ⟨rb, re⟩ := r
      have HRD := hid hr
      clear hr
      go_wp2_with fail
      refine (own_read O10.out laN).mono ?_
      rintro e w11 ⟨v, rfl, hv⟩
      rw [HRD.out] at hv ⊢
      have hv' : BytesNew w10 rb v w11 := hv
      have SV := hid (read_slB hv')
      have O11 := hid (O10.out.go hv'.2)
      obtain ⟨av, cv, rfl, _⟩ := slice_ofG hv'.1
      clear hv hv' HRD O10
      go_upto_if 73 with fail
      go_cut [12, 13] from 72 to 78 (fun v e wx => e = .int .i64 0 ∧ SlB wx v ((a ++ b).take n) ∧ Ext w11 wx)
      case first =>
        rcases HOR.out with hx | ⟨hx, hx2⟩
        · have d13 : (re != 0) = false := by rw [(Prod.mk.inj hx).2]; rfl
          have HX := hid hx
          clear hx
          go_wp2_with fail
          go_meet
          case rel => exact ⟨by rw [(Prod.mk.inj HX.out).2], by rw [← (Prod.mk.inj HX.out).1]; exact SV.out, Ext.rfl w11⟩
        · have d13 : (re != 0) = true := by rw [(Prod.mk.inj hx).2]; rfl
          have HX2 := hid hx2
          clear hx2 hx
          go_wp2_with fail
          refine (own_read O11.out lcN).mono ?_
          rintro e w12 ⟨v2, rfl, hv2⟩
          rw [HX2.out] at hv2 ⊢
          have hv' : BytesNew w11 ((a ++ b).take n) v2 w12 := hv2
          have HV2 := hid hv'
          clear hv2 hv'
          go_wp2_with fail
          go_meet
          case rel => exact ⟨rfl, read_slB HV2.out, HV2.out.2⟩
      case rest =>
        obtain ⟨rfl, hS, hE⟩ := hcut
        have SX := hid hS
        have O12 := hid (O11.out.go hE)
        have k0 := conv_slB hS
        have k1 := conv_slB (S0.out.go O12.out.ext)
        have k2 := conv_slB (S1.out.go O12.out.ext)
        obtain ⟨ax, cx, rfl, _⟩ := hS.ex
        have hlx : (List.take n (a ++ b)).length = n := by rw [List.length_take]; have := HN2.out; omega
        rw [hlx] at k0 SX ⊢
        have hno : ¬ 9223372036854775807 < a.length + b.length := by have := HA.out; have := HB.out; omega
        clear hS hE O11 HOR SV hlx
        have dn : decide ((n : Int) < (a.length : Int)) = false := decide_eq_false (by have := HN1.out; omega)
        have dn2 : ¬ n < a.length := by have := HN1.out; omega
        have dn3 : decide ((a.length : Int) + (b.length : Int) < (n : Int)) = false := decide_eq_false (by have := HN2.out; rw [List.length_append] at this; omega)
        have dn4 : ¬ (a.length : Int) + (b.length : Int) < (n : Int) := of_decide_eq_false dn3
        have dn5 : n ≤ a.length + b.length := by have := HN2.out; rw [List.length_append] at this; exact this
        go_upto_region 19 with fail
        have hall : (⟨a.toArray⟩ ++ ⟨b.toArray⟩ : ByteArray) = ⟨(a ++ b).toArray⟩ := by
          apply ByteArray.ext; simp
        rw [hall]
        have k0' : ∀ m, (convert 53 9 (.slice ax n cx)).run Try.prog (wc.drewN m) = .ok (.string ⟨(List.take n (a ++ b)).toArray⟩) (wc.drewN m) := fun m => by
          have h := conv_slB (SX.out.go ((Ext.rfl wc).drN m))
          exact h
        clear hall k1 k2
        have deq := take_ext (a ++ b) n
        go_quiet (fail)
        clear k0 k0' deq dn dn2 dn3 dn4 dn5 hno
        go_wp2_with fail
        refine (own_copy (O12.out.go ((Ext.rfl wc).drN _)) HOP.out).mono ?_
        rintro e w13 ⟨q, rfl, ht⟩
        have T13 := hid ht
        clear ht O12 SX
        go_wp2_with fail
        refine (two_crash T13.out (Ext.rfl w13) (S3.out.go T13.out.one.ext) (fun hn k hk => .inr (sl1_lt S3.out.1 hn k hk)) HOP.out).mono ?_
        rintro e w14 ⟨rfl, ht, _⟩
        rw [HCC.out] at ht
        have T14 := hid ht
        clear ht T13
        go_wp2_with fail
        refine (own_list_q T14.out.one HOP.out HLI.out).mono ?_
        rintro e w15 ⟨vl, rfl, ho, he⟩
        have L1 := hid (list_str ho rfl)
        obtain ⟨al, cl, rfl, hnl⟩ := slice_ofG ho
        unfold maxLen at hnl
        have T15 := hid (T14.out.go he)
        clear ho he T14
        go_wp2_with fail
        refine (own_list_q T15.out.swap.one HOP.out HLI.out).mono ?_
        rintro e w16 ⟨vm, rfl, ho, he⟩
        have L2 := hid (list_str ho rfl)
        have L1' := hid (L1.out.go he)
        have T16 := hid (T15.out.go he)
        clear ho he T15 L1
        go_wp2_with fail
        refine (names_in _ _ _ _ w16 L1'.out L2.out).mono ?_
        rintro e w17 ⟨rfl, he⟩
        have L3 := hid (L1'.out.go he)
        have T17 := hid (T16.out.go he)
        have hdq : decide (ns = ns) = true := decide_eq_true rfl
        rw [hdq]
        clear he T16 L1' L2 hdq
        go_wp2_with fail
        go_loopw [20] (fun i wr => ∃ k : Nat, k ≤ ns.length ∧ i = .int .i64 k ∧ Two w wr p M q M ∧ Ext w17 wr) (fun i _ => ns.length - (intOf i).toNat)
        case atStart => exact ⟨0, Nat.zero_le _, rfl, T17.out, Ext.rfl _⟩
        case round =>
          obtain ⟨k, hk, rfl, ht, he⟩ := hrel
          have T := hid ht
          have E := hid he
          clear ht he
          by_cases hlt : k < ns.length
          · obtain ⟨ag, cg, e3, hcg, _, hcell⟩ := L3.out.ex
            simp only [Value.slice.injEq] at e3
            obtain ⟨rfl, _, rfl⟩ := e3
            obtain ⟨b1, off, rfl, hc2⟩ := hcell (by omega)
            have c1 := ext_cell E.out (hc2 k hlt)
            have C1 := hid (fun w' (h : Ext wr w') => ext_cell (E.out.tr h) (hc2 k hlt))
            clear hc2 hcell
            generalize hr : M.read (nth ns k) = r
            obtain ⟨rb2, re2⟩ := r
            have HR := hid hr
            clear hr
            go_wp2_with fail
            refine (own_read T.out.one (nth ns k)).mono ?_
            rintro e w18 ⟨v18, rfl, hv18⟩
            rw [HR.out] at hv18 ⊢
            have h18 : BytesNew wr rb2 v18 w18 := hv18
            obtain ⟨a18, c18, rfl, _⟩ := slice_ofG h18.1
            have S18 := hid (read_slB h18)
            have T18 := hid (T.out.go h18.2)
            have E18 := hid (E.out.tr h18.2)
            have c2 := C1.out w18 h18.2
            clear hv18 h18 c1
            go_wp2_with fail
            refine (own_read T18.out.swap.one (nth ns k)).mono ?_
            rintro e w19 ⟨v19, rfl, hv19⟩
            rw [HR.out] at hv19 ⊢
            have h19 : BytesNew w18 rb2 v19 w19 := hv19
            obtain ⟨a19, c19, rfl, _⟩ := slice_ofG h19.1
            have T19 := hid (T18.out.go h19.2)
            have E19 := hid (E18.out.tr h19.2)
            have k1 := conv_slB (S18.out.go h19.2)
            have k2 := conv_slB (read_slB h19)
            clear hv19 h19 c2
            go_wp2_with fail
            go_roundw
            case rel => exact ⟨k + 1, by omega, by go_num, T19.out, E19.out⟩
            case measure => simp [intOf]; omega
          · have : k = ns.length := by omega
            subst this
            go_wp2_with fail
            go_ret
            exact ⟨rfl, T.out.one.ext⟩
end Go.Proofs.Ytjekfifnhdoamaa
