/- The law's helper: two file systems held against one another. -/
import Derived.Test.YtjekfifnhdoamaaRfB
import Derived.Test.YtjekfifnhdoamaaSfS
set_option linter.unusedSimpArgs false
set_option linter.unusedVariables false
set_option linter.unnecessarySimpa false
namespace Go.Proofs.Ytjekfifnhdoamaa
open Go.RowKit Go.Rg Go.St

theorem fsOps_same (L : FL) (M : FsM) (w : World) (h : FsAt w L M) : Calls Try.prog 44 #[ptrV L.fb] w (fun e w' => e = .returned (.int .i64 (M.ops : Nat)) ∧ w' = w) := (fsOps_in L M w h).mono fun _ _ h => ⟨h.1, h.2.symm⟩
set_option maxRecDepth 100000 in
set_option maxHeartbeats 8000000 in
theorem alike_in (w0 w : World) (p q : Nat) (M : FsM) (F : Nat → Prop) (hD : Duo w0 w p q M M F) (ho : M.ops ≤ OpsMax) :
    Calls Try.prog 39 #[.pointer (some ⟨p, 0, none⟩), .pointer (some ⟨q, 0, none⟩)] w (BoolExt true w) := by
  obtain ⟨L, R, rfl, rfl, h1, h2, h3, -, -, -, -, -, -⟩ := hD
  have H1 := hid h1
  have H2 := hid h2
  have OK := hid h3
  have HO := hid ho
  have hnl := hid (show M.list.1.length ≤ 1000000000000 by
    have h5 := h3.ln
    unfold OpsMax at ho
    unfold FsM.list
    split
    · exact Nat.zero_le _
    · rw [List.length_map]; omega)
  clear h1 h2 h3 ho
  generalize hml : M.list = ml at *
  obtain ⟨ns, nc⟩ := ml
  have HML := hid hml
  clear hml
  go_enter Try.func39, Try.ntmps39
  go_wp2_with fail
  refine (fsList_in L M w H1.out OK.out HO.out).mono ?_
  rintro e w1 ⟨v1, rfl, ho1, he1⟩
  rw [HML.out] at ho1 ⊢
  have O1 := hid (show w1.ownsRow w.heap.size 9 1 v1 ns.length (ns.map Value.string) from ho1)
  have E1 := hid he1
  obtain ⟨a1, c1, rfl, _⟩ := slice_ofG O1.out
  clear ho1 he1
  go_wp2_with fail
  refine (rlist_in R M w1 (H2.out.ext E1.out) OK.out HO.out).mono ?_
  rintro e w2 ⟨v2, rfl, ho2, he2⟩
  rw [HML.out] at ho2 ⊢
  have O2 := hid (show w2.ownsRow 0 9 1 v2 ns.length (ns.map Value.string) from ho2)
  have E2 := hid (E1.out.tr he2)
  have L1 := hid (list_str (owns_ext O1.out he2) rfl)
  have L2 := hid (list_str O2.out rfl)
  obtain ⟨a2, c2, rfl, _⟩ := slice_ofG O2.out
  clear ho2 he2
  go_wp2_with fail
  refine (names_in _ _ _ _ w2 L1.out L2.out).mono ?_
  rintro e w3 ⟨rfl, he3⟩
  have E3 := hid (E2.out.tr he3)
  have L3 := hid (L2.out.go he3)
  have hdq : decide (ns = ns) = true := decide_eq_true rfl
  rw [hdq]
  clear he3 hdq O1 O2 L1 L2 E1 E2
  have hnc : (nc != nc) = false := by simp
  have hops : ((M.ops : Int) != (M.ops : Int)) = false := by simp
  have H3 := hid (H1.out.ext E3.out)
  have R3 := hid (H2.out.ext E3.out)
  obtain ⟨-, -, -, -, -, -, -, -, -, k9, -⟩ := rf_cells R3.out.row
  have HQ := hid (fun m => fsOps_same L M (w3.drewN m) (H3.out.ext ((Ext.rfl w3).drN m)))
  go_wp2_with fail
  go_quiet ((go_at_call 44; exact Calls.quiet_of_same (HQ.out _)))
  clear k9 HQ hops
  have hnl2 : ns.length ≤ 1000000000000 := hnl.out
  have E4 := hid (E3.out.drN nq)
  have L4 := hid (L3.out.go ((Ext.rfl w3).drN nq))
  clear E3 L3 H3 R3
  generalize w3.drewN nq = w4 at *
  go_wp2_with fail
  go_loopw [10] (fun i wr => ∃ k : Nat, k ≤ ns.length ∧ i = .int .i64 k ∧ Ext w4 wr) (fun i _ => ns.length - (intOf i).toNat)
  case atStart => exact ⟨0, Nat.zero_le _, rfl, Ext.rfl _⟩
  case round =>
    obtain ⟨k, hk, rfl, he⟩ := hrel
    have E := hid (E4.out.tr he)
    have E5 := hid he
    clear he
    by_cases hlt : k < ns.length
    · obtain ⟨ag, cg, e3, hcg, _, hcell⟩ := L4.out.ex
      simp only [Value.slice.injEq] at e3
      obtain ⟨rfl, _, rfl⟩ := e3
      obtain ⟨b1, off, rfl, hc2⟩ := hcell (by omega)
      have c1 := ext_cell E5.out (hc2 k hlt)
      have C1 := hid (fun w' (h : Ext wr w') => ext_cell (E5.out.tr h) (hc2 k hlt))
      clear hc2 hcell
      generalize hr : M.read (nth ns k) = r
      obtain ⟨rb2, re2⟩ := r
      have HR := hid hr
      clear hr
      go_wp2_with fail
      refine (fsRead_in L M (nth ns k) wr (H1.out.ext E.out) OK.out).mono ?_
      rintro e w5 ⟨v5, rfl, hv5⟩
      rw [HR.out] at hv5 ⊢
      have h5 : BytesNew wr rb2 v5 w5 := hv5
      obtain ⟨a5, c5, rfl, _⟩ := slice_ofG h5.1
      have S5 := hid (read_slB h5)
      have X5 := hid (E.out.tr h5.2)
      have Y5 := hid (E5.out.tr h5.2)
      have c2 := C1.out w5 h5.2
      clear hv5 h5 c1
      go_wp2_with fail
      refine (rread_in R M (nth ns k) w5 (H2.out.ext X5.out) OK.out).mono ?_
      rintro e w6 ⟨v6, rfl, hv6, he6⟩
      rw [HR.out] at hv6 ⊢
      have h6 : SlB w6 v6 rb2 := hv6
      obtain ⟨a6, c6, rfl, _⟩ := h6.ex
      have Y6 := hid (Y5.out.tr he6)
      have k1 := conv_slB (S5.out.go he6)
      have k2 := conv_slB h6
      have hre : (re2 != re2) = false := by simp
      clear hv6 h6 he6 c2
      go_wp2_with fail
      go_roundw
      case rel => exact ⟨k + 1, hlt, by go_num, Y6.out⟩
      case measure => simp [intOf]; omega
    · have : k = ns.length := by omega
      subst this
      go_wp2_with fail
      go_ret
      exact ⟨rfl, E.out⟩
end Go.Proofs.Ytjekfifnhdoamaa
