/- Edits applied: the reference's walk. -/
import Derived.Test.YtoonhcmeklmnlaaVrH
import Derived.Test.YtoonhcmeklmnlaaRgL
set_option linter.unusedSimpArgs false
set_option linter.unusedVariables false
set_option linter.unnecessarySimpa false
namespace Go.Proofs.Ytoonhcmeklmnlaa
open Go.RowKit Go.Rg Go.St

def SlR (xs : List File) : SV := .rel (fun v w => SlFile w v xs) (fun _ _ _ he h => h.file he)
def TupR (xs : List File) (b : Bool) : SV := .rel (fun v w => ∃ v', v = .tuple #[v', .bool b] ∧ SlFile w v' xs) (fun _ _ _ he ⟨v', h1, h2⟩ => ⟨v', h1, h2.file he⟩)
section
variable {ops : Array Oper} {w0 : World} {s : Nat → Option SV} {d : Option Tmp} {ty : TypeId} {pos : String} {aft : Array Edge} {g : Option (Nat × Bool)}
theorem ob_ext0 {x : Operand} {xs : List File} {b : Bool} (hg : gw ops s ⟨d, .extract x 0, ty, pos, aft, g⟩ = some true) (hx : lk s x = some (TupR xs b)) : Ob Try.prog ops w0 ⟨d, .extract x 0, ty, pos, aft, g⟩ s (SlR xs) :=
  ob_core hg fun ρ w he hh => by
    obtain ⟨v', e, hv⟩ := hh x (by simp [Op.operands]) _ hx
    exact upon_value (v := v') (by simp [execOp, Instr.extract, e]) hv
theorem ob_ext1 {x : Operand} {xs : List File} {b : Bool} (hg : gw ops s ⟨d, .extract x 1, ty, pos, aft, g⟩ = some true) (hx : lk s x = some (TupR xs b)) : Ob Try.prog ops w0 ⟨d, .extract x 1, ty, pos, aft, g⟩ s (.ex (.bool b)) :=
  ob_core hg fun ρ w he hh => by
    obtain ⟨v', e, hv⟩ := hh x (by simp [Op.operands]) _ hx
    exact upon_value (v := .bool b) (by simp [execOp, Instr.extract, e]) rfl
end
theorem cf_without (args : Array Value) (w : World) : (callFunc 78 args).run Try.prog w = .ok (.enter 78 args) w := by kernel_rfl
theorem cf_with (args : Array Value) (w : World) : (callFunc 80 args).run Try.prog w = .ok (.enter 80 args) w := by kernel_rfl
theorem cf_has (args : Array Value) (w : World) : (callFunc 79 args).run Try.prog w = .ok (.enter 79 args) w := by kernel_rfl
theorem setAt_row {w : World} {u0 u1 u2 u3 : Value} {V : Lv} {g : Nat} {ty : TypeId} (hv : Ver w u0 u1 u2 u3 V) (h : w.heap[g]? = some (.cells #[u0, u1, u2, u3] ty (0, 0))) : SetAt w g V := by
  refine ⟨_, ty, h, rfl, fun j u hu => ?_, fun n hn => ⟨pick4 u0 u1 u2 u3 n, ?_, hv.at hn⟩⟩
  · match j, hu with
    | 0, hu => cases hu; exact isSl_of hv.s0
    | 1, hu => cases hu; exact isSl_of hv.s1
    | 2, hu => cases hu; exact isSl_of hv.s2
    | 3, hu => cases hu; exact isSl_of hv.s3
  · obtain rfl | rfl | rfl | rfl : n = 0 ∨ n = 1 ∨ n = 2 ∨ n = 3 := by omega
    all_goals rfl
set_option maxRecDepth 100000 in
set_option maxHeartbeats 8000000 in
theorem rapply_in (v0 v1 v2 v3 : Value) (V : Lv) (x : Ed) (vd va : Value) (w : World) (hV : Ver w v0 v1 v2 v3 V) (hfV : ∀ n, n < 4 → ∀ f, f ∈ V n → FitF f) (hn : ∀ n, n < 4 → (V n).length ≤ 900000)
    (hd : SlS w vd 2 eGone x.dels) (ha : SlFile w va x.adds) (hf : ∀ f, f ∈ x.adds → FitF f) :
    Calls Try.prog 40 #[.agg #[v0, v1, v2, v3], .agg #[.int .u64 x.log, .int .u64 x.next, .int .u64 x.last, vd, va]] w (ResP (applyF V x) w) := by
  have HD := hid (show applyF V x = if verC V ≠ 0 then (140, noneV) else if edC x ≠ 0 then (edC x, noneV) else match delsF x.dels V with | none => (141, noneV) | some S => addsF x.adds S from rfl)
  generalize applyF V x = R at *
  obtain ⟨log, next, last, dels, adds⟩ := x
  simp only at *
  have HV := hid hV
  have HFV := hid hfV
  have HN := hid hn
  obtain ⟨ad, capd, rfl, hcapd, hmd, hcd⟩ := hd.ex
  obtain ⟨aa, capa, rfl, hcapa, hma, hca⟩ := ha.ex
  unfold maxLen at hmd hma
  have HCD := hid hcd
  have HCA := hid hca
  have HDL := hid hd
  have HAD := hid ha
  clear hcd hca
  have HF := hid hf
  clear hV hfV hn hd ha hf
  go_enter Try.func40, Try.ntmps40
  go_wp2_with fail
  have hx : Ext w (((w.alloc (Obj.cells #[v0, v1, v2, v3] 67)).alloc (Obj.cells #[.int .u64 log, .int .u64 next, .int .u64 last, .slice ad dels.length capd, .slice aa adds.length capa] 75)).alloc (Obj.cells #[nilV, nilV, nilV, nilV] 67)) := (((Ext.rfl w).al _).al _).al _
  refine (rcheck_in v0 v1 v2 v3 V _ (HV.out.go hx) HFV.out HN.out).mono ?_
  rintro e w1 ⟨rfl, he1⟩
  have B0 := hid (row_at (g := w.heap.size) (o := Obj.cells #[v0, v1, v2, v3] 67) ((((Ext.rfl _).al _).al _).tr he1) rfl)
  have B1 := hid (row_at (g := w.heap.size + 1) (o := Obj.cells #[.int .u64 log, .int .u64 next, .int .u64 last, .slice ad dels.length capd, .slice aa adds.length capa] 75) (((Ext.rfl _).al _).tr he1) (by rw [alloc_size]))
  have B2 := hid (row_at (g := w.heap.size + 1 + 1) (o := Obj.cells #[nilV, nilV, nilV, nilV] 67) he1 (by rw [alloc_size, alloc_size]))
  obtain ⟨B, HBX, HB1, hB2⟩ : ∃ B, Hid (∀ w', Below B w w' → Ext w w') ∧ Hid (Below B w w1) ∧ B ≤ w.heap.size := ⟨w.heap.size, fun _ h => h, hx.tr he1, Nat.le_refl _⟩
  have E1 := hid (hx.tr he1)
  have n1 : w.heap.size < w1.heap.size := vblk_lt B0.out
  have n2 : w.heap.size + 1 < w1.heap.size := vblk_lt B1.out
  have n3 : w.heap.size + 1 + 1 < w1.heap.size := vblk_lt B2.out
  have HG := hid (show B ≤ w.heap.size + 1 + 1 by omega)
  clear hB2
  clear he1 hx
  generalize w.heap.size + 1 + 1 = g2 at *
  generalize w.heap.size + 1 = g1 at *
  generalize w.heap.size = g0 at *
  by_cases hc : verC V = 0
  · rw [hc]
    have HC := hid hc
    clear hc
    obtain ⟨e0, e1, e2, e3, e4⟩ := ed_cells B1.out
    go_wp2_with fail
    refine (redcheck_in ⟨log, next, last, dels, adds⟩ _ _ _ (SlS.go eGone_length HDL.out E1.out) (HAD.out.file E1.out) HF.out).mono ?_
    rintro e w2 ⟨rfl, he2⟩
    clear e0 e1 e2 e3 e4
    have C0 := hid ((he2.block _ n1).trans B0.out)
    have C1 := hid ((he2.block _ n2).trans B1.out)
    have C2 := hid ((he2.block _ n3).trans B2.out)
    have E2 := hid (E1.out.tr he2)
    have HB2 := hid (show Below B w w2 from Below.trans HB1.out (Below.mono he2 (Nat.le_trans HG.out (Nat.le_of_lt n3))))
    have m1 : g0 < w2.heap.size := vblk_lt C0.out
    have m2 : g1 < w2.heap.size := vblk_lt C1.out
    have m3 : g2 < w2.heap.size := vblk_lt C2.out
    clear he2 n1 n2 n3 B0 B1 B2 E1 HB1
    by_cases hd : edC ⟨log, next, last, dels, adds⟩ = 0
    · rw [hd]
      have HR := hid (show R = match delsF dels V with | none => (141, noneV) | some S => addsF adds S from by rw [HD.out, if_neg (by rw [HC.out]; decide), if_neg (by rw [hd]; decide)])
      have HEC := hid hd
      clear hd HD
      obtain ⟨f0, f1, f2, f3⟩ := ver_cells C0.out
      go_wp2_with fail
      refine (own_in v0 v1 v2 v3 V _ (HV.out.go E2.out) (fun n hn => Nat.le_trans (HN.out n hn) (by decide))).mono ?_
      rintro e w2b ⟨u0, u1, u2, u3, rfl, hv2, he2⟩
      have D0 := hid ((he2.block _ m1).trans C0.out)
      have D1 := hid ((he2.block _ m2).trans C1.out)
      have D2 := hid ((he2.block _ m3).trans C2.out)
      have E2b := hid (E2.out.tr he2)
      have HB2b := hid (show Below B w w2b from Below.trans HB2.out (Below.mono he2 (Nat.le_trans HG.out (Nat.le_of_lt m3))))
      obtain ⟨x0, y0, z0, rfl⟩ := isSl_of hv2.s0
      obtain ⟨x1, y1, z1, rfl⟩ := isSl_of hv2.s1
      obtain ⟨x2, y2, z2, rfl⟩ := isSl_of hv2.s2
      obtain ⟨x3, y3, z3, rfl⟩ := isSl_of hv2.s3
      have l0 : g0 < w2b.heap.size := vblk_lt D0.out
      have l1 : g1 < w2b.heap.size := vblk_lt D1.out
      have l2 : g2 < w2b.heap.size := vblk_lt D2.out
      have HV2 := hid hv2
      clear hv2 he2 f0 f1 f2 f3 C0 C1 C2 E2 HB2 m1 m2 m3
      go_wp2_with fail
      have S0 := hid (setAt_row (HV2.out.go ((Ext.rfl w2b).al (Obj.cells #[.slice x0 y0 z0, .slice x1 y1 z1, .slice x2 y2 z2, .slice x3 y3 z3] 67))) (heap_alloc_new w2b _))
      have E3 := hid (show Below w2b.heap.size w2b (w2b.alloc (Obj.cells #[.slice x0 y0 z0, .slice x1 y1 z1, .slice x2 y2 z2, .slice x3 y3 z3] 67)) from (Ext.rfl w2b).al _)
      have HX2 := hid (show ∀ w', Below w2b.heap.size w2b w' → Ext w2b w' from fun _ h => h)
      generalize w2b.alloc (Obj.cells #[.slice x0 y0 z0, .slice x1 y1 z1, .slice x2 y2 z2, .slice x3 y3 z3] 67) = w3 at *
      clear HV2
      generalize w2b.heap.size = sb at *
      go_loopw [8] (fun t wz => ∃ (k : Nat) (S : Lv), k ≤ dels.length ∧ t = .int .i64 k ∧ Below sb w2b wz ∧ SetAt wz sb S ∧ (∀ n, n < 4 → (S n).length ≤ 900000) ∧ delsF (dels.drop k) S = delsF dels V) (fun t _ => dels.length - (intOf t).toNat)
      case atStart => exact ⟨0, V, by omega, rfl, E3.out, S0.out, HN.out, rfl⟩
      case round =>
        clear E3 S0
        obtain ⟨k, S, hk, rfl, he, hs, hl, hdf⟩ := hrel
        have HE := hid he
        have HS := hid hs
        have HL := hid hl
        have HDF := hid hdf
        have hlsb := hs.lt
        clear he hs hl hdf
        obtain ⟨e0, e1, e2, e3, e4⟩ := ed_cells ((HE.out.block _ l1).trans D1.out)
        by_cases hlt : k < dels.length
        · obtain ⟨b, off, rfl, hcell⟩ := HCD.out (by omega)
          obtain ⟨n, hlv, hnn⟩ := placeC_ok ((edC_parts HEC.out).2.1 _ (nth_mem _ _ hlt))
          have c0 : wr.cell? ⟨b, off + k * 2, none⟩ = some (.int .i64 (nth dels k).level) := ext_cell (E2b.out.tr (HX2.out _ HE.out)) (hcell k hlt 0 (by omega))
          have c1 : wr.cell? ⟨b, off + k * 2 + 1, none⟩ = some (.int .u64 (nth dels k).num) := ext_cell (E2b.out.tr (HX2.out _ HE.out)) (hcell k hlt 1 (by omega))
          have hds := delsF_some (S := S) hlt
          have hdn := delsF_none (S := S) hlt
          rw [show nth dels k = ⟨(nth dels k).level, (nth dels k).num⟩ from rfl] at hds hdn
          rw [hlv] at c0 hds hdn
          rw [Int.toNat_natCast] at hds hdn
          generalize (nth dels k).num = num at *
          have HDS := hid hds
          have HDN := hid hdn
          have HLN := hid (show (S n).length ≤ 1000000 from Nat.le_trans (HL.out n hnn) (by decide))
          have hn0 : (0 : Int) ≤ (n : Int) := by omega
          have hn4 : (n : Int) < 4 := by omega
          obtain ⟨u, hcl, _, hu⟩ := HS.out.at hnn
          have HU := hid hu
          clear hcell hds hdn hlv hu
          go_wp2_with fail
          refine wp_draw (by kernel_rfl) (by kernel_rfl) ?_
          refine rg_step 44 (ob_move (by rfl) (by rfl)) rfl (by rfl) ?_
          refine rg_step 45 (ob_field (n := 3) 0 0 65 (by rfl) (by rfl) Try.underlying67 (by rfl) (by kernel_rfl) rfl) rfl (by rfl) ?_
          refine rg_step 46 (ob_arr 1 n (by rfl) (by rfl) (by rfl) Try.underlying65 (by kernel_rfl) hn0 hn4 (by simp)) rfl (by rfl) ?_
          refine rg_step 47 (ob_load (v := u) (by rfl) (by rfl) (by kernel_rfl) (fun w' he => ext_cell he hcl)) rfl (by rfl) ?_
          refine rg_step 48 (ob_field (n := 0) 3 3 73 (by rfl) (by rfl) Try.underlying75 (by rfl) (by kernel_rfl) rfl) rfl (by rfl) ?_
          refine rg_step 49 (ob_load (v := .slice (some ⟨b, off, none⟩) dels.length capd) (by rfl) (by rfl) (by kernel_rfl) (fun w' he => ext_cell he e3)) rfl (by rfl) ?_
          refine rg_step 50 (ob_move (by rfl) (by rfl)) rfl (by rfl) ?_
          refine rg_step 51 (ob_index 2 (off + k * 2) (by rfl) (by rfl) (by rfl) Try.underlying73 (by kernel_rfl) (Int.natCast_nonneg k) (Int.ofNat_lt.2 hlt) (by rw [Int.toNat_natCast])) rfl (by rfl) ?_
          refine rg_step 52 (ob_field (n := 0) (off + k * 2 + 1) 1 36 (by rfl) (by rfl) Try.underlying97 (by rfl) (by kernel_rfl) rfl) rfl (by rfl) ?_
          refine rg_step 53 (ob_load (v := .int .u64 num) (by rfl) (by rfl) (by kernel_rfl) (fun w' he => ext_cell he c1)) rfl (by rfl) ?_
          refine rg_step 54 (ob_call (TupR (remF num (S n)) (hasNum num (S n))) (by rfl) cf_without (fun w' he => (without_in u (S n) num w' (HU.out.file he) HLN.out).mono fun e w'' ⟨v', h1, h2, h3⟩ => ⟨_, h1, h3, v', rfl, OwnFiles.sl h2⟩)) rfl (by rfl) ?_
          refine rg_step 43 (ob_move (by rfl) (by rfl)) rfl (by rfl) ?_
          refine rg_step 55 (ob_ext0 (by rfl) (by rfl)) rfl (by rfl) ?_
          refine rg_step 56 (ob_ext1 (by rfl) (by rfl)) rfl (by rfl) ?_
          refine rg_step 10 (ob_assign (by rfl) (by rfl)) rfl (by rfl) ?_
          refine rg_step 11 (ob_assign (by rfl) (by rfl)) rfl (by rfl) ?_
          refine rg_end ?_
          intro w4 he4
          simp only [asg, List.set_cons_zero, List.set_cons_succ, List.map_cons, List.map_nil, opens, TupR, SlR]
          intro v10 h10 v43 h43 v54 h54 v55 h55
          have H10 := hid h10
          have HE4 := hid (show Below sb w2b w4 from Below.trans HE.out (Below.mono he4 (Nat.le_of_lt hlsb)))
          have HS4 := hid (HS.out.ext he4)
          clear h10 h43 h54 h55 he4 c0 c1 hcl e0 e1 e2 e3 e4
          cases hh : hasNum num (S n)
          · have hR : R = (141, noneV) := by rw [HR.out, ← HDF.out, HDN.out hh]
            have F2 := hid ((HE4.out.block _ l2).trans D2.out)
            have HB5 := hid (show Below B w w4 from Below.trans HB2b.out (Below.mono HE4.out (Nat.le_trans HG.out (Nat.le_of_lt l2))))
            clear hh
            have HZ := hid (set4_heap F2.out nilV nilV nilV nilV)
            have HX := hid (set4_ext HB5.out HG.out nilV nilV nilV nilV)
            obtain ⟨f0, f1, f2, f3⟩ := ver_cells F2.out
            have ff : ∀ i, w4.frozen? ⟨g2, i, none⟩ = false := fun i => frozen_of_row _ _ _ _ _ F2.out
            go_wp2_with fail
            generalize hwz : (((w4.setCell ⟨g2, 0, none⟩ (.slice none 0 0)).setCell ⟨g2, 1, none⟩ (.slice none 0 0)).setCell ⟨g2, 2, none⟩ (.slice none 0 0)).setCell ⟨g2, 3, none⟩ (.slice none 0 0) = wz
            replace HZ : Hid (wz.heap[g2]? = some (.cells #[nilV, nilV, nilV, nilV] 67 (0, 0))) := by rw [← hwz]; exact HZ
            replace HX : Hid (Below B w wz) := by rw [← hwz]; exact HX
            clear hwz
            obtain ⟨z0, z1, z2, z3⟩ := ver_cells HZ.out
            refine bodyPost_ret (v := .tuple #[.agg #[nilV, nilV, nilV, nilV], .int .i64 141]) ?_ rfl ⟨nilV, nilV, nilV, nilV, ?_, ?_, HBX.out _ HX.out⟩
            · simp [results, Try.results40, go_sem, z0, z1, z2, z3]
            · rw [hR]
            · rw [hR]; exact ver_nil _
          · obtain ⟨a', n', c', rfl⟩ := isSl_of H10.out
            obtain ⟨v, cv, fv, _⟩ := HS4.out.at hnn
            have HS5 := hid (HS4.out.set hnn H10.out)
            have HE5 := hid (show Below sb w2b (w4.setCell ⟨sb, n, none⟩ (.slice a' n' c')) from Below.setCell HE4.out (Nat.le_refl _) _)
            have HYES := hid hh
            clear hh
            go_wp2_with fail
            go_roundw
            case rel =>
              refine ⟨k + 1, _, hlt, by go_num, HE5.out, HS5.out, fun m hm => ?_, by rw [← HDS.out HYES.out]; exact HDF.out⟩
              by_cases e : m = n
              · subst e; rw [upd_same]; exact Nat.le_trans (remF_length _ _) (HL.out m hm)
              · rw [upd_other _ _ e]; exact HL.out m hm
            case measure => simp [intOf]; omega
        · have : k = dels.length := by omega
          subst this
          have HDV := hid (show delsF dels V = some S from by rw [← HDF.out, List.drop_length]; rfl)
          go_wp2_with fail
          clear e0 e1 e2 e3 e4
          go_loopw [12] (fun t wz => ∃ (k : Nat) (S : Lv), k ≤ adds.length ∧ t = .int .i64 k ∧ Below sb w2b wz ∧ SetAt wz sb S ∧ (∀ n, n < 4 → (S n).length ≤ 900000 + k) ∧ addsF (adds.drop k) S = R) (fun t _ => adds.length - (intOf t).toNat)
          case atStart => exact ⟨0, S, by omega, rfl, HE.out, HS.out, HL.out, by rw [HR.out, HDV.out]; rfl⟩
          case round =>
            clear HE HS HL HDF HDV
            obtain ⟨k, S, hk, rfl, he, hs, hl, hdf⟩ := hrel
            have HE := hid he
            have HS := hid hs
            have HL := hid hl
            have HAF := hid hdf
            clear he hs hl hdf
            have hlsb := HS.out.lt
            obtain ⟨e0, e1, e2, e3, e4⟩ := ed_cells ((HE.out.block _ l1).trans D1.out)
            by_cases hlt : k < adds.length
            · obtain ⟨b, off, rfl, hcell⟩ := HCA.out (by omega)
              obtain ⟨n, hlv, hnn⟩ := fileC_level ((edC_parts HEC.out).2.2 _ (nth_mem _ _ hlt))
              have hk100 := (edC_parts HEC.out).1
              simp only at hk100
              obtain ⟨c0, c1, c2, c3, c4, c5, c6, c7, c8⟩ := SlS.at9 (w := wr) (enc := eFile) (xs := adds) (k := k) (fun i hi => ext_cellq (E2b.out.tr (HX2.out _ HE.out)) (hcell k hlt i hi) hi rfl) rfl
              have hgo := addsF_good (S := S) hlt
              have hbad := addsF_bad (S := S) hlt
              generalize nth adds k = f at *
              obtain ⟨lv, num, sz, sm, la⟩ := f
              simp only at hlv c0 c1 c2 c3 c4 c5 c6 c7 c8
              subst hlv
              have hge := HL.out n hnn
              have HGO := hid hgo
              have HBAD := hid hbad
              have hae : addE S ⟨n, num, sz, sm, la⟩ = if thereB num S = true then 142 else if 0 < n ∧ ovs sm.user la.user (S n) ≠ [] then 143 else 0 := by unfold addE; simp
              have HAE := hid hae
              clear hcell hgo hbad hae
              go_wp2_with fail
              have BF := hid (heap_alloc_new wr (Obj.cells (fileCells ⟨n, num, sz, sm, la⟩) 80))
              have EA := hid (show Below sb w2b (wr.alloc (Obj.cells (fileCells ⟨n, num, sz, sm, la⟩) 80)) from Below.trans HE.out (Below.mono ((Ext.rfl wr).al _) (Nat.le_of_lt hlsb)))
              have SA := hid (HS.out.ext ((Ext.rfl wr).al (Obj.cells (fileCells ⟨n, num, sz, sm, la⟩) 80)))
              clear c0 c1 c2 c3 c4 c5 c6 c7 c8 HE HS hlsb e0 e1 e2 e3 e4
              generalize wr.alloc (Obj.cells (fileCells ⟨n, num, sz, sm, la⟩) 80) = wA at *
              generalize wr.heap.size = gf at *
              have hlA := SA.out.lt
              go_loopw [14] (fun t wz => ∃ (m : Nat) (z : Int), z = m ∧ m ≤ 4 ∧ t = .int .i64 z ∧ Ext wA wz ∧ thereTo num S m = false) (fun t _ => 4 - (intOf t).toNat)
              case atStart => exact ⟨0, 0, rfl, by omega, rfl, Ext.rfl _, rfl⟩
              case round =>
                obtain ⟨m, z, hz, hm, rfl, he, hth⟩ := hrel
                have HEM := hid he
                have HTH := hid hth
                clear he hth
                by_cases hml : m < 4
                · subst hz
                  have dm : decide ((m : Int) < 4) = true := decide_eq_true (by omega)
                  go_wp2_with fail
                  clear dm
                  go_loopw [15] (fun t wz => ∃ i : Nat, i ≤ (S m).length ∧ t = .int .i64 i ∧ Ext wA wz ∧ ∀ j, j < i → (nth (S m) j).num ≠ num) (fun t _ => (S m).length - (intOf t).toNat)
                  case atStart => exact ⟨0, Nat.zero_le _, rfl, HEM.out, fun j h => absurd h (Nat.not_lt_zero _)⟩
                  case round =>
                    clear HEM
                    obtain ⟨i, hi, rfl, he, hno⟩ := hrel
                    have HEI := hid he
                    have HNO := hid hno
                    clear he hno
                    have SI := hid (SA.out.ext HEI.out)
                    obtain ⟨c0, c1, c2, c3, c4, c5, c6, c7, c8⟩ := file_cells (a := sm) (b := la) ((HEI.out.block _ (vblk_lt BF.out)).trans BF.out)
                    obtain ⟨u, hcl, _, hu⟩ := SI.out.at hml
                    obtain ⟨a2, cp2, rfl, hcp2, hm2, hc2⟩ := hu.ex
                    have HC2 := hid hc2
                    unfold maxLen at hm2
                    clear hu hc2
                    have hlenm := HL.out m hml
                    by_cases hil : i < (S m).length
                    · obtain ⟨b2, o2, rfl, hcell2⟩ := HC2.out (by omega)
                      have q1 : wr.cell? ⟨b2, o2 + i * 9 + 1, none⟩ = some (.int .u64 (nth (S m) i).num) := hcell2 i hil 1 (by omega)
                      clear hcell2 HC2
                      by_cases heq : (nth (S m) i).num = num
                      · have hcm : icmp BinOp.eql (nth (S m) i).num num = some true := by unfold icmp; simp [heq]
                        have hth : thereB num S = true := by
                          have h1 : hasNum num (S m) = true := by
                            unfold hasNum
                            exact List.any_eq_true.2 ⟨_, nth_mem _ _ hil, by simp [heq]⟩
                          rw [thereB_to]
                          obtain rfl | rfl | rfl | rfl : m = 0 ∨ m = 1 ∨ m = 2 ∨ m = 3 := by omega
                          all_goals simp [thereTo, h1]
                        have hR : R = (142, noneV) := by rw [← HAF.out, HBAD.out (by rw [HAE.out, if_pos hth]; decide), HAE.out, if_pos hth]
                        clear heq hth
                        go_wp2_with fail
                        refine wp_draw (by kernel_rfl) (by kernel_rfl) ?_
                        refine rg_step 89 (ob_move (by rfl) (by rfl)) rfl (by rfl) ?_
                        refine rg_step 90 (ob_field (n := 3) 0 0 65 (by rfl) (by rfl) Try.underlying67 (by rfl) (by kernel_rfl) rfl) rfl (by rfl) ?_
                        refine rg_step 91 (ob_arr 1 m (by rfl) (by rfl) (by rfl) Try.underlying65 (by kernel_rfl) (Int.natCast_nonneg m) (by omega) (by simp)) rfl (by rfl) ?_
                        refine rg_step 92 (ob_load (v := .slice (some ⟨b2, o2, none⟩) (S m).length cp2) (by rfl) (by rfl) (by kernel_rfl) (fun w' he => ext_cell he hcl)) rfl (by rfl) ?_
                        refine rg_step 93 (ob_move (by rfl) (by rfl)) rfl (by rfl) ?_
                        refine rg_step 94 (ob_index 9 (o2 + i * 9) (by rfl) (by rfl) (by rfl) Try.underlying64 (by kernel_rfl) (Int.natCast_nonneg i) (Int.ofNat_lt.2 hil) (by rw [Int.toNat_natCast])) rfl (by rfl) ?_
                        refine rg_step 95 (ob_field (n := 0) (o2 + i * 9 + 1) 1 36 (by rfl) (by rfl) Try.underlying80 (by rfl) (by kernel_rfl) rfl) rfl (by rfl) ?_
                        refine rg_step 96 (ob_load (v := .int .u64 (nth (S m) i).num) (by rfl) (by rfl) (by kernel_rfl) (fun w' he => ext_cell he q1)) rfl (by rfl) ?_
                        refine rg_step 97 (ob_field (n := 0) 1 1 36 (by rfl) (by rfl) Try.underlying80 (by rfl) (by kernel_rfl) rfl) rfl (by rfl) ?_
                        refine rg_step 98 (ob_load (v := .int .u64 num) (by rfl) (by rfl) (by kernel_rfl) (fun w' he => ext_cell he c1)) rfl (by rfl) ?_
                        refine rg_step 99 (ob_icmp true (by rfl) (by rfl) (by rfl) hcm) rfl (by rfl) ?_
                        refine rg_end ?_
                        intro w8 he8
                        simp only [asg, List.set_cons_zero, List.set_cons_succ, List.map_cons, List.map_nil, opens]
                        have HE8 := hid (show Below sb w2b w8 from Below.trans EA.out (Below.mono (HEI.out.tr he8) (Nat.le_of_lt hlA)))
                        have F2 := hid ((HE8.out.block _ l2).trans D2.out)
                        have HB5 := hid (show Below B w w8 from Below.trans HB2b.out (Below.mono HE8.out (Nat.le_trans HG.out (Nat.le_of_lt l2))))
                        clear he8 c0 c1 c2 c3 c4 c5 c6 c7 c8 hcl q1 hcm
                        have HZ := hid (set4_heap F2.out nilV nilV nilV nilV)
                        have HX := hid (set4_ext HB5.out HG.out nilV nilV nilV nilV)
                        obtain ⟨f0, f1, f2, f3⟩ := ver_cells F2.out
                        have ff : ∀ i, w8.frozen? ⟨g2, i, none⟩ = false := fun i => frozen_of_row _ _ _ _ _ F2.out
                        go_wp2_with fail
                        generalize hwz : (((w8.setCell ⟨g2, 0, none⟩ (.slice none 0 0)).setCell ⟨g2, 1, none⟩ (.slice none 0 0)).setCell ⟨g2, 2, none⟩ (.slice none 0 0)).setCell ⟨g2, 3, none⟩ (.slice none 0 0) = wz
                        replace HZ : Hid (wz.heap[g2]? = some (.cells #[nilV, nilV, nilV, nilV] 67 (0, 0))) := by rw [← hwz]; exact HZ
                        replace HX : Hid (Below B w wz) := by rw [← hwz]; exact HX
                        clear hwz
                        obtain ⟨z0, z1, z2, z3⟩ := ver_cells HZ.out
                        refine bodyPost_ret (v := .tuple #[.agg #[nilV, nilV, nilV, nilV], .int .i64 142]) ?_ rfl ⟨nilV, nilV, nilV, nilV, ?_, ?_, HBX.out _ HX.out⟩
                        · simp [results, Try.results40, go_sem, z0, z1, z2, z3]
                        · rw [hR]
                        · rw [hR]; exact ver_nil _
                      · have hcm : icmp BinOp.eql (nth (S m) i).num num = some false := by unfold icmp; simp [heq]
                        have HNE := hid heq
                        clear heq
                        go_wp2_with fail
                        refine wp_draw (by kernel_rfl) (by kernel_rfl) ?_
                        refine rg_step 89 (ob_move (by rfl) (by rfl)) rfl (by rfl) ?_
                        refine rg_step 90 (ob_field (n := 3) 0 0 65 (by rfl) (by rfl) Try.underlying67 (by rfl) (by kernel_rfl) rfl) rfl (by rfl) ?_
                        refine rg_step 91 (ob_arr 1 m (by rfl) (by rfl) (by rfl) Try.underlying65 (by kernel_rfl) (Int.natCast_nonneg m) (by omega) (by simp)) rfl (by rfl) ?_
                        refine rg_step 92 (ob_load (v := .slice (some ⟨b2, o2, none⟩) (S m).length cp2) (by rfl) (by rfl) (by kernel_rfl) (fun w' he => ext_cell he hcl)) rfl (by rfl) ?_
                        refine rg_step 93 (ob_move (by rfl) (by rfl)) rfl (by rfl) ?_
                        refine rg_step 94 (ob_index 9 (o2 + i * 9) (by rfl) (by rfl) (by rfl) Try.underlying64 (by kernel_rfl) (Int.natCast_nonneg i) (Int.ofNat_lt.2 hil) (by rw [Int.toNat_natCast])) rfl (by rfl) ?_
                        refine rg_step 95 (ob_field (n := 0) (o2 + i * 9 + 1) 1 36 (by rfl) (by rfl) Try.underlying80 (by rfl) (by kernel_rfl) rfl) rfl (by rfl) ?_
                        refine rg_step 96 (ob_load (v := .int .u64 (nth (S m) i).num) (by rfl) (by rfl) (by kernel_rfl) (fun w' he => ext_cell he q1)) rfl (by rfl) ?_
                        refine rg_step 97 (ob_field (n := 0) 1 1 36 (by rfl) (by rfl) Try.underlying80 (by rfl) (by kernel_rfl) rfl) rfl (by rfl) ?_
                        refine rg_step 98 (ob_load (v := .int .u64 num) (by rfl) (by rfl) (by kernel_rfl) (fun w' he => ext_cell he c1)) rfl (by rfl) ?_
                        refine rg_step 99 (ob_icmp false (by rfl) (by rfl) (by rfl) hcm) rfl (by rfl) ?_
                        refine rg_end ?_
                        intro w8 he8
                        simp only [asg, List.set_cons_zero, List.set_cons_succ, List.map_cons, List.map_nil, opens]
                        have HE8 := hid (HEI.out.tr he8)
                        clear he8 c0 c1 c2 c3 c4 c5 c6 c7 c8 hcl q1 hcm
                        go_wp2_with fail
                        go_roundw
                        case rel => exact ⟨i + 1, hil, by go_num, HE8.out, fun j hj => by
                          rcases Nat.lt_succ_iff_lt_or_eq.1 hj with h1 | rfl
                          · exact HNO.out j h1
                          · exact HNE.out⟩
                        case measure => simp [intOf]; omega
                    · have : i = (S m).length := by omega
                      subst this
                      have HNM := hid (show hasNum num (S m) = false from by
                        cases hh : hasNum num (S m) with
                        | false => rfl
                        | true =>
                          exfalso
                          unfold hasNum at hh
                          obtain ⟨x, hx, hxe⟩ := List.any_eq_true.1 hh
                          obtain ⟨j, hj, rfl⟩ := List.getElem_of_mem hx
                          exact HNO.out j hj (by rw [nth_eq _ _ hj]; exact of_decide_eq_true hxe))
                      clear HC2
                      go_wp2_with fail
                      go_roundw
                      case rel => exact ⟨m + 1, _, rfl, by omega, by go_num, HEI.out, by unfold thereTo; rw [HTH.out, HNM.out]; rfl⟩
                      case measure => simp [intOf]; omega
                · obtain rfl : m = 4 := by omega
                  obtain rfl : z = 4 := hz
                  have HNT := hid (show thereB num S = false by rw [thereB_to]; exact HTH.out)
                  go_wp2_with fail
                  go_loopw [16] (fun t wz => ∃ i : Nat, i ≤ (S n).length ∧ t = .int .i64 i ∧ Ext wA wz ∧ (0 < n → ∀ j, j < i → ov sm.user la.user (nth (S n) j) = false)) (fun t _ => (S n).length - (intOf t).toNat)
                  case atStart => exact ⟨0, Nat.zero_le _, rfl, HEM.out, fun _ j h => absurd h (Nat.not_lt_zero _)⟩
                  case round =>
                    clear HEM HTH
                    obtain ⟨i, hi, rfl, he, hno⟩ := hrel
                    have HEI := hid he
                    have HNO := hid hno
                    clear he hno
                    have SI := hid (SA.out.ext HEI.out)
                    have BFC := hid ((HEI.out.block _ (vblk_lt BF.out)).trans BF.out)
                    obtain ⟨c0, c1, c2, c3, c4, c5, c6, c7, c8⟩ := file_cells (a := sm) (b := la) BFC.out
                    obtain ⟨u, hcl, hfz, hu⟩ := SI.out.at hnn
                    obtain ⟨a2, cp2, rfl, hcp2, hm2, hc2⟩ := hu.ex
                    have HUU := hid hu
                    have HC2 := hid hc2
                    have hn0 : (0 : Int) ≤ (n : Int) := by omega
                    have hn4 : (n : Int) < 4 := by omega
                    unfold maxLen at hm2
                    clear hu hc2
                    by_cases hil : i < (S n).length
                    · obtain ⟨b2, o2, rfl, hcell2⟩ := HC2.out (by omega)
                      have HRA := hid (show ∀ w', Ext wr w' → w'.rangeAt b2 (o2 + i * 9) (eFile (nth (S n) i)) from fun w' he q v hv => by
                        have hq : q < 9 := (List.getElem?_eq_some_iff.1 hv).1
                        exact (ext_cellq he (hcell2 i hil q hq) hq rfl).trans hv)
                      clear hcell2 HC2 hfz
                      go_wp2_with fail
                      refine wp_draw (by kernel_rfl) (by kernel_rfl) ?_
                      refine rg_step 111 (ob_field (n := 0) 0 0 3 (by rfl) (by rfl) Try.underlying80 (by rfl) (by kernel_rfl) rfl) rfl (by rfl) ?_
                      refine rg_step 112 (ob_load (v := .int .i64 n) (by rfl) (by rfl) (by kernel_rfl) (fun w' he => ext_cell he c0)) rfl (by rfl) ?_
                      refine rg_step 113 (ob_field (n := 3) 0 0 65 (by rfl) (by rfl) Try.underlying67 (by rfl) (by kernel_rfl) rfl) rfl (by rfl) ?_
                      refine rg_step 114 (ob_arr 1 n (by rfl) (by rfl) (by rfl) Try.underlying65 (by kernel_rfl) (Int.natCast_nonneg n) (by omega) (by simp)) rfl (by rfl) ?_
                      refine rg_step 115 (ob_load (v := .slice (some ⟨b2, o2, none⟩) (S n).length cp2) (by rfl) (by rfl) (by kernel_rfl) (fun w' he => ext_cell he hcl)) rfl (by rfl) ?_
                      refine rg_step 116 (ob_move (by rfl) (by rfl)) rfl (by rfl) ?_
                      refine rg_step 117 (ob_index 9 (o2 + i * 9) (by rfl) (by rfl) (by rfl) Try.underlying64 (by kernel_rfl) (Int.natCast_nonneg i) (Int.ofNat_lt.2 hil) (by rw [Int.toNat_natCast])) rfl (by rfl) ?_
                      refine rg_step 118 (ob_loadmid (cs := eFile (nth (S n) i)) (by rfl) (by rfl) (fun w' he => HRA.out w' he) Try.underlying80 rfl (by kernel_rfl)) rfl (by rfl) ?_
                      refine rg_step 119 (ob_field (n := 2) 3 3 42 (by rfl) (by rfl) Try.underlying80 (by rfl) (by kernel_rfl) rfl) rfl (by rfl) ?_
                      refine rg_step 120 (ob_field (n := 0) 3 0 9 (by rfl) (by rfl) Try.underlying42 (by rfl) (by kernel_rfl) rfl) rfl (by rfl) ?_
                      refine rg_step 121 (ob_load (v := .string sm.user) (by rfl) (by rfl) (by kernel_rfl) (fun w' he => ext_cell he c3)) rfl (by rfl) ?_
                      refine rg_step 122 (ob_field (n := 2) 6 6 42 (by rfl) (by rfl) Try.underlying80 (by rfl) (by kernel_rfl) rfl) rfl (by rfl) ?_
                      refine rg_step 123 (ob_field (n := 0) 6 0 9 (by rfl) (by rfl) Try.underlying42 (by rfl) (by kernel_rfl) rfl) rfl (by rfl) ?_
                      refine rg_step 124 (ob_load (v := .string la.user) (by rfl) (by rfl) (by kernel_rfl) (fun w' he => ext_cell he c6)) rfl (by rfl) ?_
                      refine rg_step 125 (ob_call (.ex (.bool (ov sm.user la.user (nth (S n) i)))) (by rfl) cf_has (fun w' he => gives_ex (rhas_in (nth (S n) i) sm.user la.user w'))) rfl (by rfl) ?_
                      refine rg_step 17 (ob_assign (by rfl) (by rfl)) rfl (by rfl) ?_
                      refine rg_end ?_
                      intro w8 he8
                      simp only [asg, List.set_cons_zero, List.set_cons_succ, List.map_cons, List.map_nil, opens]
                      have HE8 := hid (HEI.out.tr he8)
                      have BF8 := hid ((he8.block _ (vblk_lt BFC.out)).trans BFC.out)
                      clear he8 c0 c1 c2 c3 c4 c5 c6 c7 c8 hcl
                      obtain ⟨c0, c1, c2, c3, c4, c5, c6, c7, c8⟩ := file_cells (a := sm) (b := la) BF8.out
                      by_cases hbd : 0 < n ∧ ov sm.user la.user (nth (S n) i) = true
                      · have hz : 0 < n := hbd.1
                        have hov := hbd.2
                        have hne : ovs sm.user la.user (S n) ≠ [] := by
                          intro h
                          have hm : nth (S n) i ∈ ovs sm.user la.user (S n) := List.mem_filter.2 ⟨nth_mem _ _ hil, hov⟩
                          rw [h] at hm; cases hm
                        have HRR := hid (show R = (143, noneV) by rw [← HAF.out, HBAD.out (by rw [HAE.out, if_neg (by rw [HNT.out]; decide), if_pos ⟨hz, hne⟩]; decide), HAE.out, if_neg (by rw [HNT.out]; decide), if_pos ⟨hz, hne⟩])
                        have dg : decide (0 < (n : Int)) = true := decide_eq_true (by omega)
                        have HE9 := hid (show Below sb w2b w8 from Below.trans EA.out (Below.mono HE8.out (Nat.le_of_lt hlA)))
                        have F2 := hid ((HE9.out.block _ l2).trans D2.out)
                        have HB5 := hid (show Below B w w8 from Below.trans HB2b.out (Below.mono HE9.out (Nat.le_trans HG.out (Nat.le_of_lt l2))))
                        rw [hov]
                        clear hbd hov hne
                        have HZ := hid (set4_heap F2.out nilV nilV nilV nilV)
                        have HX := hid (set4_ext HB5.out HG.out nilV nilV nilV nilV)
                        obtain ⟨f0, f1, f2, f3⟩ := ver_cells F2.out
                        have ff : ∀ i, w8.frozen? ⟨g2, i, none⟩ = false := fun i => frozen_of_row _ _ _ _ _ F2.out
                        go_wp2_with fail
                        generalize hwz : (((w8.setCell ⟨g2, 0, none⟩ (.slice none 0 0)).setCell ⟨g2, 1, none⟩ (.slice none 0 0)).setCell ⟨g2, 2, none⟩ (.slice none 0 0)).setCell ⟨g2, 3, none⟩ (.slice none 0 0) = wz
                        replace HZ : Hid (wz.heap[g2]? = some (.cells #[nilV, nilV, nilV, nilV] 67 (0, 0))) := by rw [← hwz]; exact HZ
                        replace HX : Hid (Below B w wz) := by rw [← hwz]; exact HX
                        clear hwz
                        obtain ⟨z0, z1, z2, z3⟩ := ver_cells HZ.out
                        refine bodyPost_ret (v := .tuple #[.agg #[nilV, nilV, nilV, nilV], .int .i64 143]) ?_ rfl ⟨nilV, nilV, nilV, nilV, ?_, ?_, HBX.out _ HX.out⟩
                        · simp [results, Try.results40, go_sem, z0, z1, z2, z3]
                        · rw [HRR.out]
                        · rw [HRR.out]; exact ver_nil _
                      · have HNB := hid (show 0 < n → ov sm.user la.user (nth (S n) i) = false from fun hz => by
                          cases h : ov sm.user la.user (nth (S n) i) with
                          | false => rfl
                          | true => exact absurd ⟨hz, h⟩ hbd)
                        clear hbd
                        rcases Nat.eq_zero_or_pos n with hz | hz
                        · have dg : decide (0 < (n : Int)) = false := decide_eq_false (by omega)
                          have hz' : ¬ 0 < n := by omega
                          have HZ0 := hid hz
                          clear hz
                          go_wp2_with fail
                          go_roundw
                          case rel => exact ⟨i + 1, hil, by go_num, HE8.out, fun h => absurd h (by have := HZ0.out; omega)⟩
                          case measure => simp [intOf]; omega
                        · have dg : decide (0 < (n : Int)) = true := decide_eq_true (by omega)
                          rw [HNB.out hz]
                          go_wp2_with fail
                          go_roundw
                          case rel => exact ⟨i + 1, hil, by go_num, HE8.out, fun h j hj => by
                            rcases Nat.lt_succ_iff_lt_or_eq.1 hj with h1 | rfl
                            · exact HNO.out h j h1
                            · exact HNB.out h⟩
                          case measure => simp [intOf]; omega
                    · have : i = (S n).length := by omega
                      subst this
                      have HA0 := hid (show addE S ⟨n, num, sz, sm, la⟩ = 0 by
                        rw [HAE.out, if_neg (by rw [HNT.out]; decide), if_neg]
                        rintro ⟨hz, hne⟩
                        apply hne
                        unfold ovs
                        rw [List.filter_eq_nil_iff]
                        intro x hx
                        obtain ⟨j, hj, rfl⟩ := List.getElem_of_mem hx
                        have := HNO.out hz j hj
                        rw [nth_eq _ _ hj] at this
                        rw [this]; decide)
                      clear HC2 HNO
                      go_wp2_with fail
                      refine wp_drawL (by kernel_rfl) (by kernel_rfl) (by kernel_rfl) _ rfl rfl ?_
                      refine rg_step 133 (ob_field (n := 0) 0 0 3 (by rfl) (by rfl) Try.underlying80 (by rfl) (by kernel_rfl) rfl) rfl (by rfl) ?_
                      refine rg_step 134 (ob_load (v := .int .i64 n) (by rfl) (by rfl) (by kernel_rfl) (fun w' he => ext_cell he c0)) rfl (by rfl) ?_
                      refine rg_step 135 (ob_field (n := 0) 0 0 3 (by rfl) (by rfl) Try.underlying80 (by rfl) (by kernel_rfl) rfl) rfl (by rfl) ?_
                      refine rg_step 136 (ob_load (v := .int .i64 n) (by rfl) (by rfl) (by kernel_rfl) (fun w' he => ext_cell he c0)) rfl (by rfl) ?_
                      refine rg_step 137 (ob_field (n := 3) 0 0 65 (by rfl) (by rfl) Try.underlying67 (by rfl) (by kernel_rfl) rfl) rfl (by rfl) ?_
                      refine rg_step 138 (ob_arr 1 n (by rfl) (by rfl) (by rfl) Try.underlying65 (by kernel_rfl) (Int.natCast_nonneg n) (by omega) (by simp)) rfl (by rfl) ?_
                      refine rg_step 139 (ob_load (v := .slice a2 (S n).length cp2) (by rfl) (by rfl) (by kernel_rfl) (fun w' he => ext_cell he hcl)) rfl (by rfl) ?_
                      refine rg_step 140 (ob_loadrow (cs := fileCells ⟨n, num, sz, sm, la⟩) (by rfl) (by rfl) (fun w' he => (he.block _ (vblk_lt BFC.out)).trans BFC.out) Try.underlying80 rfl (by kernel_rfl)) rfl (by rfl) ?_
                      refine rg_step 141 (ob_call (SlR (insF ⟨n, num, sz, sm, la⟩ (S n))) (by rfl) cf_with (fun w' he => (rwith_in (.slice a2 (S n).length cp2) (S n) ⟨n, num, sz, sm, la⟩ w' (HUU.out.file he) (by omega)).mono fun e w'' ⟨v', h1, h2, h3⟩ => ⟨_, h1, h3, OwnFiles.sl h2⟩)) rfl (by rfl) ?_
                      refine rg_step 142 (ob_field (n := 3) 0 0 65 (by rfl) (by rfl) Try.underlying67 (by rfl) (by kernel_rfl) rfl) rfl (by rfl) ?_
                      refine rg_step 143 (ob_arr 1 n (by rfl) (by rfl) (by rfl) Try.underlying65 (by kernel_rfl) (Int.natCast_nonneg n) (by omega) (by simp)) rfl (by rfl) ?_
                      refine rg_end ?_
                      intro w8 he8
                      simp only [asg, List.set_cons_zero, List.set_cons_succ, List.map_cons, List.map_nil, opens, SlR]
                      intro v141 h141
                      have S8 := hid (SI.out.ext he8)
                      have HE8 := hid (show Below sb w2b w8 from Below.trans EA.out (Below.mono (HEI.out.tr he8) (Nat.le_of_lt hlA)))
                      have HV8 := hid h141
                      clear he8 h141 c0 c1 c2 c3 c4 c5 c6 c7 c8 hcl hfz
                      obtain ⟨a', n', c', rfl⟩ := isSl_of HV8.out
                      obtain ⟨v, cv, fv, _⟩ := S8.out.at hnn
                      have S9 := hid (S8.out.set hnn HV8.out)
                      have HE9 := hid (show Below sb w2b (w8.setCell ⟨sb, n, none⟩ (.slice a' n' c')) from Below.setCell HE8.out (Nat.le_refl _) _)
                      go_wp2_with fail
                      go_roundw
                      case rel =>
                        refine ⟨k + 1, _, hlt, by go_num, HE9.out, S9.out, fun m hm => ?_, (HGO.out HA0.out).symm.trans HAF.out⟩
                        by_cases e : m = n
                        · subst e; rw [upd_same, insF_length]; have := HL.out m hm; omega
                        · rw [upd_other _ _ e]; have := HL.out m hm; omega
                      case measure => simp [intOf]; omega
            · have : k = adds.length := by omega
              subst this
              obtain ⟨u0, u1, u2, u3, s0, s1, s2, s3, hver⟩ := HS.out.ver
              have hR : R = (0, S) := by rw [← HAF.out, List.drop_length]; rfl
              have F2 := hid ((HE.out.block _ l2).trans D2.out)
              have HB5 := hid (show Below B w wr from Below.trans HB2b.out (Below.mono HE.out (Nat.le_trans HG.out (Nat.le_of_lt l2))))
              obtain ⟨p0, r0, t0, rfl⟩ := isSl_of hver.s0
              obtain ⟨p1, r1, t1, rfl⟩ := isSl_of hver.s1
              obtain ⟨p2, r2, t2, rfl⟩ := isSl_of hver.s2
              obtain ⟨p3, r3, t3, rfl⟩ := isSl_of hver.s3
              have HVR := hid hver
              clear hver
              have HZ := hid (set4_heap F2.out (.slice p0 r0 t0) (.slice p1 r1 t1) (.slice p2 r2 t2) (.slice p3 r3 t3))
              have HX := hid (set4_ext HB5.out HG.out (.slice p0 r0 t0) (.slice p1 r1 t1) (.slice p2 r2 t2) (.slice p3 r3 t3))
              obtain ⟨f0, f1, f2, f3⟩ := ver_cells F2.out
              have ff : ∀ i, wr.frozen? ⟨g2, i, none⟩ = false := fun i => frozen_of_row _ _ _ _ _ F2.out
              go_wp2_with fail
              generalize hwz : (((wr.setCell ⟨g2, 0, none⟩ (.slice p0 r0 t0)).setCell ⟨g2, 1, none⟩ (.slice p1 r1 t1)).setCell ⟨g2, 2, none⟩ (.slice p2 r2 t2)).setCell ⟨g2, 3, none⟩ (.slice p3 r3 t3) = wz
              replace HZ : Hid (wz.heap[g2]? = some (.cells #[(.slice p0 r0 t0), (.slice p1 r1 t1), (.slice p2 r2 t2), (.slice p3 r3 t3)] 67 (0, 0))) := by rw [← hwz]; exact HZ
              replace HX : Hid (Below B w wz) := by rw [← hwz]; exact HX
              have HVZ := hid (ver_set4 HVR.out ⟨_, _, _, rfl⟩ ⟨_, _, _, rfl⟩ ⟨_, _, _, rfl⟩ ⟨_, _, _, rfl⟩ F2.out ⟨_, _, _, rfl⟩ ⟨_, _, _, rfl⟩ ⟨_, _, _, rfl⟩ ⟨_, _, _, rfl⟩ hwz)
              clear hwz
              obtain ⟨z0, z1, z2, z3⟩ := ver_cells HZ.out
              refine bodyPost_ret (v := .tuple #[.agg #[(.slice p0 r0 t0), (.slice p1 r1 t1), (.slice p2 r2 t2), (.slice p3 r3 t3)], .int .i64 0]) ?_ rfl ⟨(.slice p0 r0 t0), (.slice p1 r1 t1), (.slice p2 r2 t2), (.slice p3 r3 t3), ?_, ?_, HBX.out _ HX.out⟩
              · simp [results, Try.results40, go_sem, z0, z1, z2, z3]
              · rw [hR]
              · rw [hR]; exact HVZ.out
    · have hR : R = (edC ⟨log, next, last, dels, adds⟩, noneV) := by rw [HD.out, if_neg (by rw [HC.out]; decide), if_pos hd]
      have hne : (edC ⟨log, next, last, dels, adds⟩ != 0) = true := by simpa using hd
      generalize edC ⟨log, next, last, dels, adds⟩ = c at *
      have HZ := hid (set4_heap C2.out nilV nilV nilV nilV)
      have HX := hid (set4_ext HB2.out HG.out nilV nilV nilV nilV)
      obtain ⟨f0, f1, f2, f3⟩ := ver_cells C2.out
      have ff : ∀ i, w2.frozen? ⟨g2, i, none⟩ = false := fun i => frozen_of_row _ _ _ _ _ C2.out
      go_wp2_with fail
      generalize hwz : (((w2.setCell ⟨g2, 0, none⟩ (.slice none 0 0)).setCell ⟨g2, 1, none⟩ (.slice none 0 0)).setCell ⟨g2, 2, none⟩ (.slice none 0 0)).setCell ⟨g2, 3, none⟩ (.slice none 0 0) = wz
      replace HZ : Hid (wz.heap[g2]? = some (.cells #[nilV, nilV, nilV, nilV] 67 (0, 0))) := by rw [← hwz]; exact HZ
      replace HX : Hid (Below B w wz) := by rw [← hwz]; exact HX
      clear hwz
      obtain ⟨z0, z1, z2, z3⟩ := ver_cells HZ.out
      refine bodyPost_ret (v := .tuple #[.agg #[nilV, nilV, nilV, nilV], .int .i64 c]) ?_ rfl ⟨nilV, nilV, nilV, nilV, ?_, ?_, HBX.out _ HX.out⟩
      · simp [results, Try.results40, go_sem, z0, z1, z2, z3]
      · rw [hR]
      · rw [hR]; exact ver_nil _
  · have hR : R = (140, noneV) := by rw [HD.out, if_pos hc]
    have hne : (verC V != 0) = true := by simpa using hc
    generalize verC V = c at *
    have HZ := hid (set4_heap B2.out nilV nilV nilV nilV)
    have HX := hid (set4_ext HB1.out HG.out nilV nilV nilV nilV)
    obtain ⟨f0, f1, f2, f3⟩ := ver_cells B2.out
    have ff : ∀ i, w1.frozen? ⟨g2, i, none⟩ = false := fun i => frozen_of_row _ _ _ _ _ B2.out
    go_wp2_with fail
    generalize hwz : (((w1.setCell ⟨g2, 0, none⟩ (.slice none 0 0)).setCell ⟨g2, 1, none⟩ (.slice none 0 0)).setCell ⟨g2, 2, none⟩ (.slice none 0 0)).setCell ⟨g2, 3, none⟩ (.slice none 0 0) = wz
    replace HZ : Hid (wz.heap[g2]? = some (.cells #[nilV, nilV, nilV, nilV] 67 (0, 0))) := by rw [← hwz]; exact HZ
    replace HX : Hid (Below B w wz) := by rw [← hwz]; exact HX
    clear hwz
    obtain ⟨z0, z1, z2, z3⟩ := ver_cells HZ.out
    refine bodyPost_ret (v := .tuple #[.agg #[nilV, nilV, nilV, nilV], .int .i64 140]) ?_ rfl ⟨nilV, nilV, nilV, nilV, ?_, ?_, HBX.out _ HX.out⟩
    · simp [results, Try.results40, go_sem, z0, z1, z2, z3]
    · rw [hR]
    · rw [hR]; exact ver_nil _
end Go.Proofs.Ytoonhcmeklmnlaa
