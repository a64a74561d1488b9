/- The walk of the law ScoreLeaves. -/
import Derived.Test.YtoonhcmeklmnlaaLeQ
import Derived.Deep.CutRange
import Derived.Deep.RegionLaw
import Derived.OwnWalk
import Derived.BigQuiet
set_option linter.unusedSimpArgs false
set_option linter.unusedVariables false
set_option linter.unnecessarySimpa false
namespace Go.Proofs.Ytoonhcmeklmnlaa
open Go.RowKit Go.Rg Go.St

set_option maxRecDepth 100000 in
set_option maxHeartbeats 32000000 in
theorem scoreLeaves_walk (ve : Value) (es : List EdS) (lev : Int) (from_ : ByteArray) (w : World) (he : SlS w ve 5 eEdS es) (hg : ∀ x, x ∈ es → GoodE w x) :
    Calls Try.prog 15 #[ve, .int .i64 lev, .string from_] w (TruePost w) := by
  obtain ⟨aE, capE, rfl, hcapE, hmE, _⟩ := he.ex
  unfold maxLen at hmE
  have HE0 := hid he
  have HG0 := hid hg
  clear he hg
  go_enter Try.func15, Try.ntmps15
  go_wp2_with fail
  refine (awake18 _).mono ?_
  rintro e wa ⟨rfl, hea⟩
  have EA := hid hea
  clear hea
  go_upto_if 27 with fail
  go_cut [0] from 25 to 29 (fun v wx => wx = wa ∧ ∃ l : List EdS, l.length ≤ 10 ∧ (∀ x, x ∈ l → GoodE w x) ∧ SlS w v 5 eEdS l)
  case first =>
    by_cases hlt : 10 < es.length
    · have hd : decide ((10 : Int) < (es.length : Int)) = true := decide_eq_true (by omega)
      go_wp2_with fail
      go_meet
      case rel => exact ⟨rfl, es.take 10, by rw [List.length_take]; omega, fun x hx => HG0.out x (List.mem_of_mem_take hx), slS_takeE HE0.out 10 (Nat.le_of_lt hlt)⟩
    · have hd : decide ((10 : Int) < (es.length : Int)) = false := decide_eq_false (by omega)
      go_wp2_with fail
      go_meet
      case rel => exact ⟨rfl, es, by omega, HG0.out, HE0.out⟩
  case rest =>
    obtain ⟨rfl, l, hl, hgl, hsl⟩ := hcut
    clear HG0 HE0 hmE hcapE
    obtain ⟨al, cpl, rfl, hcapl, hml, hcl⟩ := hsl.ex
    have HCL := hid hcl
    clear hcl
    unfold maxLen at hml
    have HL := hid hl
    have HGL := hid hgl
    have HSL := hid hsl
    clear hgl hsl hl
    go_wp2_with fail
    have V8 := hid (show VAt wc.heap.size noneV (wc.alloc (Obj.cells #[nilV, nilV, nilV, nilV] 67)) from ⟨_, _, _, _, _, _, _, _, _, _, _, _, heap_alloc_new wc _, ver_none _⟩)
    have E2 := hid (show Ext w (wc.alloc (Obj.cells #[nilV, nilV, nilV, nilV] 67)) from EA.out.al _)
    have HG8 := hid (show w.heap.size ≤ wc.heap.size from EA.out.size)
    have HEX := hid (show ∀ w', Below w.heap.size w w' → Ext w w' from fun _ h => h)
    have HSZ := hid (show ∀ w', Below w.heap.size w w' → w.heap.size ≤ w'.heap.size from fun _ h => h.size)
    generalize wc.alloc (Obj.cells #[nilV, nilV, nilV, nilV] 67) = w2 at *
    clear EA
    generalize wc.heap.size = g8 at *
    go_loopw [9] (fun t wr => ∃ (i : Nat) (U : Lv), i ≤ l.length ∧ t = .int .i64 i ∧ Below w.heap.size w wr ∧ VAt g8 U wr ∧ (∃ A, StF A U) ∧ (∀ n, n < 4 → (U n).length ≤ 100 * i) ∧ (∀ n, n < 4 → ∀ f, f ∈ U n → FitF f)) (fun t _ => l.length - (intOf t).toNat)
    case atStart => exact ⟨0, noneV, Nat.zero_le _, rfl, E2.out, V8.out, ⟨_, StF.nil⟩, fun n hn => Nat.le_refl _, fun n hn f hf => by cases hf⟩
    case round =>
      clear V8 E2
      obtain ⟨i, U, hi, rfl, hb, v8, hst, hnu, hfu⟩ := hrel
      have HB := hid hb
      have V8 := hid v8
      have HST := hid hst
      have HNU := hid hnu
      have HFU := hid hfu
      clear hb v8 hst hnu hfu
      by_cases hlt : i < l.length
      · have dl : decide ((i : Int) < (l.length : Int)) = true := decide_eq_true (by omega)
        have HGE := hid (HGL.out _ (nth_mem _ _ hlt))
        obtain ⟨bE, oE, rfl, hcell⟩ := HCL.out (by omega)
        have HRA := hid (show ∀ w', Ext w w' → w'.rangeAt bE (oE + i * 5) (eEdS (nth l i)) from fun w' he q v hv => by
          have hq : q < 5 := (List.getElem?_eq_some_iff.1 hv).1
          exact (ext_cellq he (hcell i hlt q hq) hq rfl).trans hv)
        clear hcell HCL
        obtain ⟨x0, y0, z0, x1, y1, z1, x2, y2, z2, x3, y3, z3, G8, HV8⟩ := V8.out
        have HV8 := hid HV8
        have G8 := hid G8
        have HSUB := hid (fun h n => @applyF_sub U (nth l i).ed h n)
        have HAST := hid (show (applyF U (nth l i).ed).1 = 0 → ∃ B, StF B (applyF U (nth l i).ed).2 from fun hz => HST.out.elim fun A hA => apply_st hA hz)
        obtain ⟨R, HRR⟩ : ∃ R, Hid (applyF U (nth l i).ed = R) := ⟨_, rfl⟩
        replace HSUB : Hid (R.1 = 0 → ∀ n, (R.2 n).length ≤ (U n).length + 100 ∧ ∀ f, f ∈ R.2 n → f ∈ U n ∨ f ∈ (nth l i).ed.adds) := by rw [← HRR.out]; exact HSUB
        replace HAST : Hid (R.1 = 0 → ∃ B, StF B R.2) := by rw [← HRR.out]; exact HAST
        have wr_E := hid (HEX.out _ HB.out)
        go_wp2_with fail
        refine wp_drawV (RgJ 42 36 43 10 wr R.1 R.2) (by kernel_rfl) (by kernel_rfl) (fun w9 he => RgJ.start he) ?_
        refine rgv_read 37 [42, 36, 43, 10] (RgJ.keep (by decide) (by decide) (by decide) (by decide) (by decide)) (by rfl) (fun L p w hi hC hL => ob_loadrow (cs := #[.slice x0 y0 z0, .slice x1 y1 z1, .slice x2 y2 z2, .slice x3 y3 z3]) (by rfl) (by rfl) (fun w' he => (he.block _ (Nat.lt_of_lt_of_le (vblk_lt G8.out) hi.b0.size)).trans ((hi.b0.block _ (vblk_lt G8.out)).trans G8.out)) Try.underlying67 rfl (by kernel_rfl)) rfl (by rfl) ?_
        refine rgv_read 38 [42, 36, 43, 10] (RgJ.keep (by decide) (by decide) (by decide) (by decide) (by decide)) (by rfl) (fun L p w hi hC hL => ob_move (by rfl) (by rfl)) rfl (by rfl) ?_
        refine rgv_read 39 [42, 36, 43, 10] (RgJ.keep (by decide) (by decide) (by decide) (by decide) (by decide)) (by rfl) (fun L p w hi hC hL => ob_move (by rfl) (by rfl)) rfl (by rfl) ?_
        refine rgv_read 40 [42, 36, 43, 10] (RgJ.keep (by decide) (by decide) (by decide) (by decide) (by decide)) (by rfl) (fun L p w hi hC hL => ob_index 5 (oE + i * 5) (by rfl) (by rfl) (by rfl) Try.underlying68 (by kernel_rfl) (Int.natCast_nonneg i) (Int.ofNat_lt.2 hlt) (by rw [Int.toNat_natCast])) rfl (by rfl) ?_
        refine rgv_read 41 [42, 36, 43, 10] (RgJ.keep (by decide) (by decide) (by decide) (by decide) (by decide)) (by rfl) (fun L p w hi hC hL => ob_loadmid (cs := eEdS (nth l i)) (by rfl) (by rfl) (fun w' he => HRA.out _ (Ext.tr wr_E.out (Ext.tr hi.b0 he))) Try.underlying75 rfl (by kernel_rfl)) rfl (by rfl) ?_
        refine rgv_eff anyV free_any rfl (fun a L w hx hi hN hC hL he => ?_) ⟨by rfl, ?_⟩
        · have h6 : L 6 = false := (by cases h : L 6 with | false => rfl | true => (have := hC 6 _ rfl h ⟨5, .data⟩ (by simp) rfl; rw [hL] at this; cases this))
          have h7 : L 7 = false := by cases h : L 7 with | false => rfl | true => (have := hC 7 _ rfl h ⟨6, .data⟩ (by simp) rfl; rw [h6] at this; cases this)
          rw [exec_call rfl #[.agg #[.slice x0 y0 z0, .slice x1 y1 z1, .slice x2 y2 z2, .slice x3 y3 z3], .agg (eEdS (nth l i)).toArray] (by simp only [List.map_toArray, List.map_cons, List.map_nil]; rw [hx (.tmp 37) (by simp [Op.operands, Call.operands]) _ rfl, hx (.tmp 41) (by simp [Op.operands, Call.operands]) _ rfl]) cf_apply]
          refine (apply_in _ _ _ _ U (nth l i).ed (nth l i).vd (nth l i).va w (HV8.out.go hi.b0) HFU.out (fun n hn => by have := HNU.out n hn; have := HL.out; omega) (HGE.out.go (Ext.tr wr_E.out hi.b0)).d (HGE.out.go (Ext.tr wr_E.out hi.b0)).a HGE.out.f).mono ?_
          rintro e wz ⟨r0, r1, r2, r3, rfl, hvz, hez⟩
          rw [HRR.out] at hvz ⊢
          obtain ⟨a0, b0, d0, rfl⟩ := isSl_of hvz.s0
          obtain ⟨a1, b1, d1, rfl⟩ := isSl_of hvz.s1
          obtain ⟨a2, b2, d2, rfl⟩ := isSl_of hvz.s2
          obtain ⟨a3, b3, d3, rfl⟩ := isSl_of hvz.s3
          exact ⟨_, rfl, trivial, hi.slot1 hL hez (fun h => absurd rfl h) (fun h => put_far (by decide)) (fun h => put_far (by decide)) (fun h => put_far (by decide)) (by decide) (fun _ => ⟨⟨_, _, _, _, _, _, _, _, _, _, _, _, put_at (show a.tmps.size = 250 from hN) (by decide), hvz⟩, h6, h7⟩) (fun h => by cases h) (fun h => by cases h) (fun h => by cases h) (fun h => by cases h)⟩
        refine rgv_eff anyV free_any rfl (fun a L w hx hi hN hC hL he => ?_) ⟨by rfl, ?_⟩
        · have h5 : L 5 = true := he ⟨5, .data⟩ (by simp) rfl
          rw [exec_move]
          exact ⟨trivial, hi.slot1 hL (Ext.rfl w) (fun h => put_far (by decide)) (fun h => absurd rfl h) (fun h => put_far (by decide)) (fun h => put_far (by decide)) (by decide) (fun h => by cases h) (fun _ => ⟨h5, put_at (show a.tmps.size = 250 from hN) (by decide)⟩) (fun h => by cases h) (fun h => by cases h) (fun h => by cases h)⟩
        refine rgv_eff anyV free_any rfl (fun a L w hx hi hN hC hL he => ?_) ⟨by rfl, ?_⟩
        · have h6 : L 6 = true := he ⟨6, .data⟩ (by simp) rfl
          obtain ⟨h5, e5⟩ := hi.b6 h6
          obtain ⟨a0, b0, d0, a1, b1, d1, a2, b2, d2, a3, b3, d3, e4, hvz⟩ := hi.b5 h5
          rw [exec_extract (i := 0) (show a.eval (.tmp 36) = _ from e5.trans e4) rfl]
          exact ⟨trivial, hi.slot1 hL (Ext.rfl w) (fun h => put_far (by decide)) (fun h => put_far (by decide)) (fun h => absurd rfl h) (fun h => put_far (by decide)) (by decide) (fun h => by cases h) (fun h => by cases h) (fun _ => ⟨h5, by rw [put_at (show a.tmps.size = 250 from hN) (by decide)]; exact e4⟩) (fun h => by cases h) (fun h => by cases h)⟩
        refine rgv_eff (.ex (.int .i64 R.1)) (free_ex _) rfl (fun a L w hx hi hN hC hL he => ?_) ⟨by rfl, ?_⟩
        · have h6 : L 6 = true := he ⟨6, .data⟩ (by simp) rfl
          obtain ⟨h5, e5⟩ := hi.b6 h6
          obtain ⟨a0, b0, d0, a1, b1, d1, a2, b2, d2, a3, b3, d3, e4, hvz⟩ := hi.b5 h5
          rw [exec_extract (i := 1) (show a.eval (.tmp 36) = _ from e5.trans e4) rfl]
          exact ⟨rfl, RgJ.keep (by decide) (by decide) (by decide) (by decide) (by decide) L _ _ w w (fun t ht => (by simp at ht; rcases ht with rfl | rfl | rfl | rfl <;> exact (put_far (by decide)).symm)) hi (Ext.rfl w)⟩
        refine rgv_eff anyV free_any rfl (fun a L w hx hi hN hC hL he => ?_) ⟨by rfl, ?_⟩
        · have h10 : L 10 = false := (by cases h : L 10 with | false => rfl | true => (have := hC 10 _ rfl h ⟨9, .data⟩ (by simp) rfl; rw [hL] at this; cases this))
          rw [exec_alloc4]
          exact ⟨trivial, hi.slot1 hL ((Ext.rfl w).al _) (fun h => put_far (by decide)) (fun h => put_far (by decide)) (fun h => put_far (by decide)) (fun h => absurd rfl h) (by decide) (fun h => by cases h) (fun h => by cases h) (fun h => by cases h) (fun _ => ⟨_, put_at (show a.tmps.size = 250 from hN) (by decide), hi.b0.size, heap_alloc_new w _⟩) (fun _ => h10)⟩
        refine rgv_eff (.ex undef) (free_ex _) rfl (fun a L w hx hi hN hC hL he => ?_) ?_
        · have h7 : L 7 = true := he ⟨7, .data⟩ (by simp) rfl
          have h9 : L 9 = true := he ⟨9, .data⟩ (by simp) rfl
          obtain ⟨h5, e6⟩ := hi.b7 h7
          obtain ⟨a0, b0, d0, a1, b1, d1, a2, b2, d2, a3, b3, d3, e4, hvz⟩ := hi.b5 h5
          have e7 := tup_inj (e6.symm.trans e4)
          obtain ⟨b, q1, q2, q3⟩ := hi.b9 h9 hL
          rw [exec_store (show a.eval (.tmp 10) = _ from q1) (show a.eval (.tmp 43) = _ from e7) (run_store4 w b a0 a1 a2 a3 b0 b1 b2 b3 d0 d1 d2 d3 q3)]
          exact ⟨rfl, hi.store h5 h9 hL (fun t ht => rfl) q1 hvz⟩
        refine rgv_read 11 [42, 36, 43, 10] (RgJ.keep (by decide) (by decide) (by decide) (by decide) (by decide)) (by rfl) (fun L p w hi hC hL => ob_assign (by rfl) (by rfl)) rfl (by rfl) ?_
        refine rgv_end ?_
        intro L ws hall
        simp only [asg, List.set_cons_zero, List.set_cons_succ, List.map_cons, List.map_nil, opens, anyV]
        intro v10 _ v36 _ v42 _ v43 _ hi1
        obtain ⟨g10, a0, b0, d0, a1, b1, d1, a2, b2, d2, a3, b3, d3, e10, l10, G10, hv10⟩ := hi1.b10 (hall 10 (by decide))
        have e10' : v10 = .pointer (some ⟨g10, 0, none⟩) := e10
        subst e10'
        have ES := hid hi1.b0
        have BS := hid (show Below w.heap.size w ws from Below.trans HB.out (Below.mono ES.out (HSZ.out _ HB.out)))
        have V8S := hid (V8.out.go ES.out)
        have V10 := hid hv10
        obtain ⟨c0, c1, c2, c3⟩ := ver_cells G10
        clear hall e10 hi1 V8 HV8 HB wr_E G10 hv10 ES G8
        by_cases hz : R.1 = 0
        · have dz : (R.1 == 0) = true := by simp [hz]
          have HN := hid (HAST.out hz)
          have HS1 := hid (HSUB.out hz)
          have HZ := hid hz
          clear hz HAST HSUB
          obtain ⟨s0, t0, r0, s1, t1, r1, s2, t2, r2, s3, t3, r3, G8S, _⟩ := V8S.out
          have G8S := hid G8S
          have ff : ∀ i, ws.frozen? ⟨g8, i, none⟩ = false := fun i => frozen_of_row _ _ _ _ _ G8S.out
          obtain ⟨f0, f1, f2, f3⟩ := ver_cells G8S.out
          have Y8 := hid (V8S.out.set V10.out)
          have YB := hid (set4_ext BS.out HG8.out (.slice a0 b0 d0) (.slice a1 b1 d1) (.slice a2 b2 d2) (.slice a3 b3 d3))
          clear V8S BS G8S V10
          go_wp2_with fail
          go_roundw
          case rel => exact ⟨i + 1, R.2, hlt, by go_num, YB.out, Y8.out, HN.out, fun n hn => by have h1 := (HS1.out n).1; have h2 := HNU.out n hn; omega, fun n hn f hf => by
            rcases (HS1.out n).2 f hf with h | h
            · exact HFU.out n hn f h
            · exact HGE.out.f f h⟩
          case measure => first | (simp [intOf]; done) | (simp [intOf]; omega)
        · have dz : (R.1 == 0) = false := by simp [hz]
          have HZ := hid hz
          clear hz HAST HSUB
          go_wp2_with fail
          go_roundw
          case rel => exact ⟨i + 1, U, hlt, by go_num, BS.out, V8S.out, HST.out, fun n hn => by have h2 := HNU.out n hn; omega, HFU.out⟩
          case measure => first | (simp [intOf]; done) | (simp [intOf]; omega)
      · have dl : decide ((i : Int) < (l.length : Int)) = false := decide_eq_false (by omega)
        have HLN := hid (show ∀ n, n < 4 → (U n).length ≤ 1000 from fun n hn => by have h1 := HNU.out n hn; have h2 := HL.out; omega)
        obtain ⟨A, hA⟩ := HST.out
        have HA := hid hA
        clear hA HST hi HNU HGL HSL HCL HL hml hcapl
        obtain ⟨x0, y0, z0, x1, y1, z1, x2, y2, z2, x3, y3, z3, G8, HV8⟩ := V8.out
        have HV8 := hid HV8
        have HR8 := hid G8
        obtain ⟨c0, c1, c2, c3⟩ := ver_cells G8
        clear G8
        go_wp2_with fail
        refine (inputs_any HA.out _ _ _ _ lev from_ _ HV8.out (fun n hn => Nat.le_trans (HLN.out n hn) (by decide))).mono ?_
        rintro e w3 ⟨xs, ys, ⟨vx, vy, rfl, hx, hy, he3⟩, hcase⟩
        obtain ⟨aX, capX, rfl, hcX, hmX, hcelX⟩ := hx.ex
        obtain ⟨aY, capY, rfl, hcY, hmY, hcelY⟩ := hy.ex
        unfold maxLen at hmX hmY
        have HX := hid hx
        have HY := hid hy
        have HCX := hid hcelX
        have HCY := hid hcelY
        have E3 := hid he3
        have B3 := hid (show Below w.heap.size w w3 from Below.trans HB.out (Below.mono he3 (HSZ.out _ HB.out)))
        have V83 := hid (V8.out.go he3)
        clear hx hy hcelX hcelY he3 c0 c1 c2 c3
        rcases hcase with ⟨hbad, rfl, rfl⟩ | ⟨k, rfl, hk, hm⟩
        · clear HX HY HCX HCY
          have hR3 : w3.heap[g8]? = some (.cells #[.slice x0 y0 z0, .slice x1 y1 z1, .slice x2 y2 z2, .slice x3 y3 z3] 67 (0, 0)) := (E3.out.block _ (vblk_lt HR8.out)).trans HR8.out
          obtain ⟨c0, c1, c2, c3⟩ := ver_cells hR3
          clear hR3
          have hle := hid (show (U 0).length = y0 ∧ (U 1).length = y1 ∧ (U 2).length = y2 from by
            have h := HV8.out
            obtain ⟨_, _, e0, _⟩ := h.s0.ex
            obtain ⟨_, _, e1, _⟩ := h.s1.ex
            obtain ⟨_, _, e2, _⟩ := h.s2.ex
            simp only [Value.slice.injEq] at e0 e1 e2
            exact ⟨e0.2.1.symm, e1.2.1.symm, e2.2.1.symm⟩)
          rcases hbad with hb1 | hb1 | ⟨n, rfl, hn3, hn0⟩
          · go_wp2_with fail
            go_ret
            exact ⟨rfl, HEX.out _ B3.out⟩
          · have hb2 : ¬ lev < 0 := by omega
            go_wp2_with fail
            go_ret
            exact ⟨rfl, HEX.out _ B3.out⟩
          · obtain ⟨q0, q1, q2⟩ := hle.out
            obtain rfl | rfl | rfl : n = 0 ∨ n = 1 ∨ n = 2 := by omega
            · obtain rfl : y0 = 0 := by omega
              clear hn0 q0 q1 q2 hn3
              go_wp2_with fail
              go_ret
              exact ⟨rfl, HEX.out _ B3.out⟩
            · obtain rfl : y1 = 0 := by omega
              clear hn0 q0 q1 q2 hn3
              go_wp2_with fail
              go_ret
              exact ⟨rfl, HEX.out _ B3.out⟩
            · obtain rfl : y2 = 0 := by omega
              clear hn0 q0 q1 q2 hn3
              go_wp2_with fail
              go_ret
              exact ⟨rfl, HEX.out _ B3.out⟩
        · have hpos := hm.pos
          have HM := hid hm
          have hxb : ((xs.length : Int) == 0) = false := by rw [beq_eq_false_iff_ne]; omega
          have hk1 : ¬ (k : Int) < 0 := by omega
          have hk2 : ¬ (2 : Int) < (k : Int) := by omega
          obtain ⟨bX, oX, rfl, hcell⟩ := HCX.out hpos
          obtain ⟨c0, c1, c2, c3, c4, c5, c6, c7, c8⟩ := SlS.at9 (w := w3) (enc := eFile) (xs := xs) (k := 0) (fun q hq => hcell 0 hpos q hq) rfl
          have nb := cell_lt c3
          have nb1 : w3.heap.size ≠ bX := by omega
          have nb2 : bX ≠ w3.heap.size := by omega
          clear hcell hm
          go_wp2_with fail
          have K14 := hid (show KAt w3.heap.size (nth xs 0).small ((w3.alloc (Obj.cells #[.string (nth xs 0).small.user, .int .u64 (nth xs 0).small.seq, .int .i64 (nth xs 0).small.kind] 42)).alloc (Obj.cells #[.string (nth xs 0).large.user, .int .u64 (nth xs 0).large.seq, .int .i64 (nth xs 0).large.kind] 42)) from KAt.go (heap_alloc_new w3 _) ((Ext.rfl _).al _))
          have hs1 : (w3.alloc (Obj.cells #[.string (nth xs 0).small.user, .int .u64 (nth xs 0).small.seq, .int .i64 (nth xs 0).small.kind] 42)).heap.size = w3.heap.size + 1 := alloc_size _ _
          have K15 := hid (show KAt (w3.heap.size + 1) (nth xs 0).large ((w3.alloc (Obj.cells #[.string (nth xs 0).small.user, .int .u64 (nth xs 0).small.seq, .int .i64 (nth xs 0).small.kind] 42)).alloc (Obj.cells #[.string (nth xs 0).large.user, .int .u64 (nth xs 0).large.seq, .int .i64 (nth xs 0).large.kind] 42)) from by rw [← hs1]; exact heap_alloc_new _ _)
          have E4 := hid (show Ext w3 ((w3.alloc (Obj.cells #[.string (nth xs 0).small.user, .int .u64 (nth xs 0).small.seq, .int .i64 (nth xs 0).small.kind] 42)).alloc (Obj.cells #[.string (nth xs 0).large.user, .int .u64 (nth xs 0).large.seq, .int .i64 (nth xs 0).large.kind] 42)) from ((Ext.rfl _).al _).al _)
          clear hs1 c0 c1 c2 c3 c4 c5 c6 c7 c8
          generalize (w3.alloc (Obj.cells #[.string (nth xs 0).small.user, .int .u64 (nth xs 0).small.seq, .int .i64 (nth xs 0).small.kind] 42)).alloc (Obj.cells #[.string (nth xs 0).large.user, .int .u64 (nth xs 0).large.seq, .int .i64 (nth xs 0).large.kind] 42) = w4 at *
          obtain ⟨g14, hg14⟩ : ∃ g14, g14 = w3.heap.size := ⟨_, rfl⟩
          obtain ⟨g15, hg15⟩ : ∃ g15, g15 = w3.heap.size + 1 := ⟨_, rfl⟩
          rw [← hg14] at K14
          rw [← hg15] at K15
          rw [← hg15, ← hg14]
          have HG14 := hid (show w3.heap.size ≤ g14 by omega)
          have HG15 := hid (show w3.heap.size ≤ g15 by omega)
          have hne1 : g14 ≠ g15 := by omega
          have hne2 : g15 ≠ g14 := by omega
          have HLT := hid (show ∀ (b o : Nat) (v : Value), w3.cell? ⟨b, o, none⟩ = some v → b ≠ g14 ∧ g14 ≠ b ∧ b ≠ g15 ∧ g15 ≠ b from fun b o v hc => by have := cell_lt hc; omega)
          have HX3 := hid (show ∀ w', Below w3.heap.size w3 w' → Ext w3 w' from fun _ h => h)
          clear hg14 hg15 nb nb1 nb2
          obtain ⟨A0, hA0⟩ : ∃ A0, Hid (A0 = (nth xs 0).small) := ⟨_, rfl⟩
          obtain ⟨B0, hB0⟩ : ∃ B0, Hid (B0 = (nth xs 0).large) := ⟨_, rfl⟩
          rw [← hA0.out] at K14
          rw [← hB0.out] at K15
          go_loopw [16] (fun t wr => ∃ i : Nat, i ≤ xs.length ∧ t = .int .i64 i ∧ Ext w3 wr ∧ KAt g14 ((xs.take i).foldl loK A0) wr ∧ KAt g15 ((xs.take i).foldl hiK B0) wr) (fun t _ => xs.length - (intOf t).toNat)
          case atStart => exact ⟨0, Nat.zero_le _, rfl, E4.out, K14.out, K15.out⟩
          case round =>
            obtain ⟨i, hi, rfl, hE, hKA, hKB⟩ := hrel
            by_cases hlt2 : i < xs.length
            · have dl2 : decide ((i : Int) < (xs.length : Int)) = true := decide_eq_true (by omega)
              obtain ⟨_, _, e, hcell⟩ := HCX.out (by omega)
              simp only [Option.some.injEq, Addr.mk.injEq] at e
              obtain ⟨rfl, rfl, _⟩ := e
              obtain ⟨c0, c1, c2, c3, c4, c5, c6, c7, c8⟩ := SlS.at9 (w := w3) (enc := eFile) (xs := xs) (k := i) (fun q hq => hcell i hlt2 q hq) rfl
              obtain ⟨n1, n2, n3, n4⟩ := HLT.out _ _ _ c3
              clear c0 c1 c2 c3 c4 c5 c6 c7 c8
              obtain ⟨c0, c1, c2, c3, c4, c5, c6, c7, c8⟩ := SlS.at9 (w := wr) (enc := eFile) (xs := xs) (k := i) (fun q hq => ext_cellq hE (hcell i hlt2 q hq) hq rfl) rfl
              clear hcell c0 c1 c2
              have HSL := hid (show (xs.take (i + 1)).foldl loK A0 = loK ((xs.take i).foldl loK A0) (nth xs i) by rw [take_succ_nth _ _ hlt2, List.foldl_append]; rfl)
              have HSH := hid (show (xs.take (i + 1)).foldl hiK B0 = hiK ((xs.take i).foldl hiK B0) (nth xs i) by rw [take_succ_nth _ _ hlt2, List.foldl_append]; rfl)
              obtain ⟨a0, a1, a2, af⟩ := hKA.cells
              obtain ⟨b0, b1, b2, bf⟩ := hKB.cells
              have KA := hid hKA
              have KB := hid hKB
              have EE := hid hE
              clear hKA hKB hE
              generalize (xs.take i).foldl loK A0 = ka at *
              generalize (xs.take i).foldl hiK B0 = kb at *
              generalize nth xs i = f at *
              have hlo : (kl f.small.user ka.user = true ∧ loK ka f = f.small) ∨ (kl f.small.user ka.user = false ∧ loK ka f = ka) := by
                unfold loK
                cases kl f.small.user ka.user <;> simp
              have hhi : (kl kb.user f.large.user = true ∧ hiK kb f = f.large) ∨ (kl kb.user f.large.user = false ∧ hiK kb f = kb) := by
                unfold hiK
                cases kl kb.user f.large.user <;> simp
              have T := tri f.large.user kb.user
              rcases hlo with ⟨p1, p2⟩ | ⟨p1, p2⟩
              · have p1' : Op.bytesLess f.small.user.toList ka.user.toList = true := p1
                have HP2 := hid p2
                clear p1 p2
                rcases T with ⟨t1, t3⟩ | ⟨t1, t2, t3⟩ | ⟨t1, t2, t3⟩
                · have HQ : Hid (hiK kb f = kb) := hid (by rcases hhi with ⟨q1, q2⟩ | ⟨q1, q2⟩ <;> first | exact q2 | (rw [q1] at t3; cases t3))
                  clear hhi t3
                  go_wp2_with fail
                  go_quiet (fail)
                  go_wp2_with fail
                  go_quiet (fail)
                  go_wp2_with fail
                  go_roundw
                  case rel => exact ⟨i + 1, hlt2, by go_num, HX3.out _ ((HX3.out _ (set3_below (EE.out.drN _) HG14.out f.small)).drN _), by rw [HSL.out, HP2.out]; exact ((KA.out.go ((Ext.rfl _).drN _)).set (j := f.small)).go ((Ext.rfl _).drN _), by rw [HSH.out, HQ.out]; exact ((KB.out.go ((Ext.rfl _).drN _)).far hne2).go ((Ext.rfl _).drN _)⟩
                  case measure => first | (simp [intOf]; done) | (simp [intOf]; omega)
                · have HQ : Hid (hiK kb f = kb) := hid (by rcases hhi with ⟨q1, q2⟩ | ⟨q1, q2⟩ <;> first | exact q2 | (rw [q1] at t3; cases t3))
                  clear hhi t3
                  go_wp2_with fail
                  go_quiet (fail)
                  go_wp2_with fail
                  go_quiet (fail)
                  go_wp2_with fail
                  go_roundw
                  case rel => exact ⟨i + 1, hlt2, by go_num, HX3.out _ ((HX3.out _ (set3_below (EE.out.drN _) HG14.out f.small)).drN _), by rw [HSL.out, HP2.out]; exact ((KA.out.go ((Ext.rfl _).drN _)).set (j := f.small)).go ((Ext.rfl _).drN _), by rw [HSH.out, HQ.out]; exact ((KB.out.go ((Ext.rfl _).drN _)).far hne2).go ((Ext.rfl _).drN _)⟩
                  case measure => first | (simp [intOf]; done) | (simp [intOf]; omega)
                · have HQ : Hid (hiK kb f = f.large) := hid (by rcases hhi with ⟨q1, q2⟩ | ⟨q1, q2⟩ <;> first | exact q2 | (rw [q1] at t3; cases t3))
                  clear hhi t3
                  go_wp2_with fail
                  go_quiet (fail)
                  go_wp2_with fail
                  go_quiet (fail)
                  go_wp2_with fail
                  go_roundw
                  case rel => exact ⟨i + 1, hlt2, by go_num, HX3.out _ (set3_below ((HX3.out _ (set3_below (EE.out.drN _) HG14.out f.small)).drN _) HG15.out f.large), by rw [HSL.out, HP2.out]; exact (((KA.out.go ((Ext.rfl _).drN _)).set (j := f.small)).go ((Ext.rfl _).drN _)).far hne1, by rw [HSH.out, HQ.out]; exact (((KB.out.go ((Ext.rfl _).drN _)).far hne2).go ((Ext.rfl _).drN _)).set (j := f.large)⟩
                  case measure => first | (simp [intOf]; done) | (simp [intOf]; omega)
              · have p1' : Op.bytesLess f.small.user.toList ka.user.toList = false := p1
                have HP2 := hid p2
                clear p1 p2
                rcases T with ⟨t1, t3⟩ | ⟨t1, t2, t3⟩ | ⟨t1, t2, t3⟩
                · have HQ : Hid (hiK kb f = kb) := hid (by rcases hhi with ⟨q1, q2⟩ | ⟨q1, q2⟩ <;> first | exact q2 | (rw [q1] at t3; cases t3))
                  clear hhi t3
                  go_wp2_with fail
                  go_quiet (fail)
                  go_wp2_with fail
                  go_quiet (fail)
                  go_wp2_with fail
                  go_roundw
                  case rel => exact ⟨i + 1, hlt2, by go_num, HX3.out _ (EE.out.drN _), by rw [HSL.out, HP2.out]; exact KA.out.go ((Ext.rfl _).drN _), by rw [HSH.out, HQ.out]; exact KB.out.go ((Ext.rfl _).drN _)⟩
                  case measure => first | (simp [intOf]; done) | (simp [intOf]; omega)
                · have HQ : Hid (hiK kb f = kb) := hid (by rcases hhi with ⟨q1, q2⟩ | ⟨q1, q2⟩ <;> first | exact q2 | (rw [q1] at t3; cases t3))
                  clear hhi t3
                  go_wp2_with fail
                  go_quiet (fail)
                  go_wp2_with fail
                  go_quiet (fail)
                  go_wp2_with fail
                  go_roundw
                  case rel => exact ⟨i + 1, hlt2, by go_num, HX3.out _ (EE.out.drN _), by rw [HSL.out, HP2.out]; exact KA.out.go ((Ext.rfl _).drN _), by rw [HSH.out, HQ.out]; exact KB.out.go ((Ext.rfl _).drN _)⟩
                  case measure => first | (simp [intOf]; done) | (simp [intOf]; omega)
                · have HQ : Hid (hiK kb f = f.large) := hid (by rcases hhi with ⟨q1, q2⟩ | ⟨q1, q2⟩ <;> first | exact q2 | (rw [q1] at t3; cases t3))
                  clear hhi t3
                  go_wp2_with fail
                  go_quiet (fail)
                  go_wp2_with fail
                  go_quiet (fail)
                  go_wp2_with fail
                  go_roundw
                  case rel => exact ⟨i + 1, hlt2, by go_num, HX3.out _ (set3_below (EE.out.drN _) HG15.out f.large), by rw [HSL.out, HP2.out]; exact (KA.out.go ((Ext.rfl _).drN _)).far hne1, by rw [HSH.out, HQ.out]; exact (KB.out.go ((Ext.rfl _).drN _)).set (j := f.large)⟩
                  case measure => first | (simp [intOf]; done) | (simp [intOf]; omega)
            · obtain rfl : i = xs.length := by omega
              rw [List.take_length] at hKA hKB
              have K14' := hid hKA
              have K15' := hid hKB
              have E4' := hid hE
              clear hKA hKB hE
              go_wp2_with fail
              go_loopw [17] (fun t wr => ∃ i : Nat, i ≤ ys.length ∧ t = .int .i64 i ∧ Ext w3 wr ∧ KAt g14 ((ys.take i).foldl loK (xs.foldl loK A0)) wr ∧ KAt g15 ((ys.take i).foldl hiK (xs.foldl hiK B0)) wr) (fun t _ => ys.length - (intOf t).toNat)
              case atStart => exact ⟨0, Nat.zero_le _, rfl, E4'.out, K14'.out, K15'.out⟩
              case round =>
                obtain ⟨i, hi, rfl, hE, hKA, hKB⟩ := hrel
                by_cases hlt2 : i < ys.length
                · have dl2 : decide ((i : Int) < (ys.length : Int)) = true := decide_eq_true (by omega)
                  obtain ⟨bY, oY, rfl, hcell⟩ := HCY.out (by omega)
                  obtain ⟨c0, c1, c2, c3, c4, c5, c6, c7, c8⟩ := SlS.at9 (w := w3) (enc := eFile) (xs := ys) (k := i) (fun q hq => hcell i hlt2 q hq) rfl
                  obtain ⟨n1, n2, n3, n4⟩ := HLT.out _ _ _ c3
                  clear c0 c1 c2 c3 c4 c5 c6 c7 c8
                  obtain ⟨c0, c1, c2, c3, c4, c5, c6, c7, c8⟩ := SlS.at9 (w := wr) (enc := eFile) (xs := ys) (k := i) (fun q hq => ext_cellq hE (hcell i hlt2 q hq) hq rfl) rfl
                  clear hcell c0 c1 c2
                  have HSL := hid (show (ys.take (i + 1)).foldl loK (xs.foldl loK A0) = loK ((ys.take i).foldl loK (xs.foldl loK A0)) (nth ys i) by rw [take_succ_nth _ _ hlt2, List.foldl_append]; rfl)
                  have HSH := hid (show (ys.take (i + 1)).foldl hiK (xs.foldl hiK B0) = hiK ((ys.take i).foldl hiK (xs.foldl hiK B0)) (nth ys i) by rw [take_succ_nth _ _ hlt2, List.foldl_append]; rfl)
                  obtain ⟨a0, a1, a2, af⟩ := hKA.cells
                  obtain ⟨b0, b1, b2, bf⟩ := hKB.cells
                  have KA := hid hKA
                  have KB := hid hKB
                  have EE := hid hE
                  clear hKA hKB hE
                  generalize (ys.take i).foldl loK (xs.foldl loK A0) = ka at *
                  generalize (ys.take i).foldl hiK (xs.foldl hiK B0) = kb at *
                  generalize nth ys i = f at *
                  have hlo : (kl f.small.user ka.user = true ∧ loK ka f = f.small) ∨ (kl f.small.user ka.user = false ∧ loK ka f = ka) := by
                    unfold loK
                    cases kl f.small.user ka.user <;> simp
                  have hhi : (kl kb.user f.large.user = true ∧ hiK kb f = f.large) ∨ (kl kb.user f.large.user = false ∧ hiK kb f = kb) := by
                    unfold hiK
                    cases kl kb.user f.large.user <;> simp
                  have T := tri f.large.user kb.user
                  rcases hlo with ⟨p1, p2⟩ | ⟨p1, p2⟩
                  · have p1' : Op.bytesLess f.small.user.toList ka.user.toList = true := p1
                    have HP2 := hid p2
                    clear p1 p2
                    rcases T with ⟨t1, t3⟩ | ⟨t1, t2, t3⟩ | ⟨t1, t2, t3⟩
                    · have HQ : Hid (hiK kb f = kb) := hid (by rcases hhi with ⟨q1, q2⟩ | ⟨q1, q2⟩ <;> first | exact q2 | (rw [q1] at t3; cases t3))
                      clear hhi t3
                      go_wp2_with fail
                      go_quiet (fail)
                      go_wp2_with fail
                      go_quiet (fail)
                      go_wp2_with fail
                      go_roundw
                      case rel => exact ⟨i + 1, hlt2, by go_num, HX3.out _ ((HX3.out _ (set3_below (EE.out.drN _) HG14.out f.small)).drN _), by rw [HSL.out, HP2.out]; exact ((KA.out.go ((Ext.rfl _).drN _)).set (j := f.small)).go ((Ext.rfl _).drN _), by rw [HSH.out, HQ.out]; exact ((KB.out.go ((Ext.rfl _).drN _)).far hne2).go ((Ext.rfl _).drN _)⟩
                      case measure => first | (simp [intOf]; done) | (simp [intOf]; omega)
                    · have HQ : Hid (hiK kb f = kb) := hid (by rcases hhi with ⟨q1, q2⟩ | ⟨q1, q2⟩ <;> first | exact q2 | (rw [q1] at t3; cases t3))
                      clear hhi t3
                      go_wp2_with fail
                      go_quiet (fail)
                      go_wp2_with fail
                      go_quiet (fail)
                      go_wp2_with fail
                      go_roundw
                      case rel => exact ⟨i + 1, hlt2, by go_num, HX3.out _ ((HX3.out _ (set3_below (EE.out.drN _) HG14.out f.small)).drN _), by rw [HSL.out, HP2.out]; exact ((KA.out.go ((Ext.rfl _).drN _)).set (j := f.small)).go ((Ext.rfl _).drN _), by rw [HSH.out, HQ.out]; exact ((KB.out.go ((Ext.rfl _).drN _)).far hne2).go ((Ext.rfl _).drN _)⟩
                      case measure => first | (simp [intOf]; done) | (simp [intOf]; omega)
                    · have HQ : Hid (hiK kb f = f.large) := hid (by rcases hhi with ⟨q1, q2⟩ | ⟨q1, q2⟩ <;> first | exact q2 | (rw [q1] at t3; cases t3))
                      clear hhi t3
                      go_wp2_with fail
                      go_quiet (fail)
                      go_wp2_with fail
                      go_quiet (fail)
                      go_wp2_with fail
                      go_roundw
                      case rel => exact ⟨i + 1, hlt2, by go_num, HX3.out _ (set3_below ((HX3.out _ (set3_below (EE.out.drN _) HG14.out f.small)).drN _) HG15.out f.large), by rw [HSL.out, HP2.out]; exact (((KA.out.go ((Ext.rfl _).drN _)).set (j := f.small)).go ((Ext.rfl _).drN _)).far hne1, by rw [HSH.out, HQ.out]; exact (((KB.out.go ((Ext.rfl _).drN _)).far hne2).go ((Ext.rfl _).drN _)).set (j := f.large)⟩
                      case measure => first | (simp [intOf]; done) | (simp [intOf]; omega)
                  · have p1' : Op.bytesLess f.small.user.toList ka.user.toList = false := p1
                    have HP2 := hid p2
                    clear p1 p2
                    rcases T with ⟨t1, t3⟩ | ⟨t1, t2, t3⟩ | ⟨t1, t2, t3⟩
                    · have HQ : Hid (hiK kb f = kb) := hid (by rcases hhi with ⟨q1, q2⟩ | ⟨q1, q2⟩ <;> first | exact q2 | (rw [q1] at t3; cases t3))
                      clear hhi t3
                      go_wp2_with fail
                      go_quiet (fail)
                      go_wp2_with fail
                      go_quiet (fail)
                      go_wp2_with fail
                      go_roundw
                      case rel => exact ⟨i + 1, hlt2, by go_num, HX3.out _ (EE.out.drN _), by rw [HSL.out, HP2.out]; exact KA.out.go ((Ext.rfl _).drN _), by rw [HSH.out, HQ.out]; exact KB.out.go ((Ext.rfl _).drN _)⟩
                      case measure => first | (simp [intOf]; done) | (simp [intOf]; omega)
                    · have HQ : Hid (hiK kb f = kb) := hid (by rcases hhi with ⟨q1, q2⟩ | ⟨q1, q2⟩ <;> first | exact q2 | (rw [q1] at t3; cases t3))
                      clear hhi t3
                      go_wp2_with fail
                      go_quiet (fail)
                      go_wp2_with fail
                      go_quiet (fail)
                      go_wp2_with fail
                      go_roundw
                      case rel => exact ⟨i + 1, hlt2, by go_num, HX3.out _ (EE.out.drN _), by rw [HSL.out, HP2.out]; exact KA.out.go ((Ext.rfl _).drN _), by rw [HSH.out, HQ.out]; exact KB.out.go ((Ext.rfl _).drN _)⟩
                      case measure => first | (simp [intOf]; done) | (simp [intOf]; omega)
                    · have HQ : Hid (hiK kb f = f.large) := hid (by rcases hhi with ⟨q1, q2⟩ | ⟨q1, q2⟩ <;> first | exact q2 | (rw [q1] at t3; cases t3))
                      clear hhi t3
                      go_wp2_with fail
                      go_quiet (fail)
                      go_wp2_with fail
                      go_quiet (fail)
                      go_wp2_with fail
                      go_roundw
                      case rel => exact ⟨i + 1, hlt2, by go_num, HX3.out _ (set3_below (EE.out.drN _) HG15.out f.large), by rw [HSL.out, HP2.out]; exact (KA.out.go ((Ext.rfl _).drN _)).far hne1, by rw [HSH.out, HQ.out]; exact (KB.out.go ((Ext.rfl _).drN _)).set (j := f.large)⟩
                      case measure => first | (simp [intOf]; done) | (simp [intOf]; omega)
                · obtain rfl : i = ys.length := by omega
                  rw [List.take_length] at hKA hKB
                  have K14'' := hid hKA
                  have K15'' := hid hKB
                  have E4'' := hid hE
                  clear hKA hKB hE
                  rw [← List.foldl_append] at K14'' K15''
                  have hlx : xs.length ≤ 1000 := Nat.le_trans HM.out.sub.length_le (HLN.out k (by omega))
                  have hly : ys.length ≤ 1000 := by
                    have h1 := HLN.out (k + 1) (by omega)
                    have h2 : ys.length ≤ (U (k + 1)).length := by rw [HM.out.up]; exact List.length_filter_le _ _
                    omega
                  have EW := hid (show Ext w wr from HEX.out _ (Below.trans B3.out (Below.mono E4''.out (HSZ.out _ B3.out))))
                  have hw := wrap_two xs.length ys.length hlx hly
                  obtain ⟨A2, hA2⟩ : ∃ A2, Hid (A2 = (xs ++ ys).foldl loK A0) := ⟨_, rfl⟩
                  obtain ⟨B2, hB2⟩ : ∃ B2, Hid (B2 = (xs ++ ys).foldl hiK B0) := ⟨_, rfl⟩
                  rw [← hA2.out] at K14''
                  rw [← hB2.out] at K15''
                  obtain ⟨a0, a1, a2, af⟩ := K14''.out.cells
                  obtain ⟨b0, b1, b2, bf⟩ := K15''.out.cells
                  clear K14 K15 K14' K15' E4 E4' hlt2 V8 HR8 HV8
                  by_cases hc : 100 < xs.length + ys.length
                  · have hd : (100 : Int) < wrap64 ((xs.length : Int) + (ys.length : Int)) := by rw [hw]; omega
                    go_wp2_with fail
                    go_ret
                    exact ⟨rfl, EW.out⟩
                  · have hd : ¬ (100 : Int) < wrap64 ((xs.length : Int) + (ys.length : Int)) := by rw [hw]; omega
                    by_cases hu : A2.user = B2.user
                    · have hu1 : (A2.user.toList == B2.user.toList) = true := by rw [hu]; simp
                      clear hu
                      go_wp2_with fail
                      go_ret
                      exact ⟨rfl, EW.out⟩
                    · generalize wr = wP at *
                      have hu1 : (A2.user.toList == B2.user.toList) = false := by
                        rw [beq_eq_false_iff_ne]
                        exact fun e => hu (ba_ext e)
                      have HU := hid hu
                      have HC := hid hc
                      have HE1 := hid (show Ext w3 wP from E4''.out)
                      clear hu hc
                      go_wp2_with fail
                      have P18 := hid (show EAt wP.heap.size [] (wP.alloc (Obj.cells #[.int .u64 0, .int .u64 0, .int .u64 0, nilV, nilV] 75)) from ⟨nilV, heap_alloc_new wP _, ⟨rfl, .inl ⟨rfl, rfl⟩⟩⟩)
                      have E5 := hid (show Ext wP (wP.alloc (Obj.cells #[.int .u64 0, .int .u64 0, .int .u64 0, nilV, nilV] 75)) from (Ext.rfl wP).al _)
                      generalize wP.alloc (Obj.cells #[.int .u64 0, .int .u64 0, .int .u64 0, nilV, nilV] 75) = w5 at *
                      obtain ⟨g18, hg18⟩ : ∃ g18, g18 = wP.heap.size := ⟨_, rfl⟩
                      rw [← hg18] at P18
                      rw [← hg18]
                      have HG18 := hid (show wP.heap.size ≤ g18 by omega)
                      have HX5 := hid (show ∀ w', Below wP.heap.size wP w' → Ext wP w' from fun _ h => h)
                      have HB5 := hid (show ∀ w', Ext wP w' → Below wP.heap.size wP w' from fun _ h => h)
                      have HLT5 := hid (show ∀ (b o : Nat) (v : Value), wP.cell? ⟨b, o, none⟩ = some v → b ≠ g18 ∧ g18 ≠ b from fun b o v hc => by have := cell_lt hc; omega)
                      clear hg18 a0 a1 a2 af b0 b1 b2 bf hd hw hu1
                      go_loopw [19] (fun t wr => ∃ i : Nat, i ≤ xs.length ∧ t = .int .i64 i ∧ Ext wP wr ∧ EAt g18 ((xs.take i).map (fun f : File => (⟨(k : Int), f.num⟩ : Gone))) wr) (fun t _ => xs.length - (intOf t).toNat)
                      case atStart => exact ⟨0, Nat.zero_le _, rfl, E5.out, by simpa using P18.out⟩
                      case round =>
                        obtain ⟨i, hi, rfl, hE, hP⟩ := hrel
                        by_cases hlt3 : i < xs.length
                        · have dl3 : decide ((i : Int) < (xs.length : Int)) = true := decide_eq_true (by omega)
                          obtain ⟨_, _, e, hcell⟩ := HCX.out (by omega)
                          simp only [Option.some.injEq, Addr.mk.injEq] at e
                          obtain ⟨rfl, rfl, _⟩ := e
                          obtain ⟨c0, c1, c2, c3, c4, c5, c6, c7, c8⟩ := SlS.at9 (w := wr) (enc := eFile) (xs := xs) (k := i) (fun q hq => ext_cellq (HE1.out.tr hE) (hcell i hlt3 q hq) hq rfl) rfl
                          clear hcell c0 c2 c3 c4 c5 c6 c7 c8
                          have HDS := hid (show ((xs.take (i + 1)).map (fun f : File => (⟨(k : Int), f.num⟩ : Gone))) = ((xs.take i).map (fun f : File => (⟨(k : Int), f.num⟩ : Gone))) ++ [⟨(k : Int), (nth xs i).num⟩] by rw [take_succ_nth _ _ hlt3, List.map_append]; simp)
                          have hdl : ((xs.take i).map (fun f : File => (⟨(k : Int), f.num⟩ : Gone))).length ≤ 100 := by have := HC.out; simp; omega
                          generalize ((xs.take i).map (fun f : File => (⟨(k : Int), f.num⟩ : Gone))) = ds at *
                          generalize nth xs i = f at *
                          obtain ⟨v, hrow, hown⟩ := hP
                          obtain ⟨aD, capD, rfl, hdm⟩ := slice_ofL hown
                          obtain ⟨d0, d1, d2, d3, d4⟩ := ed_cells hrow
                          have df : ∀ i, wr.frozen? ⟨g18, i, none⟩ = false := fun i => frozen_of_row _ _ _ _ _ hrow
                          have HO := hid hown
                          have HROW := hid hrow
                          have HLT := hid (vblk_lt hrow)
                          have EQ := hid hE
                          have hq0 : g18 < wr.heap.size := HLT.out
                          have hq1 : wr.heap.size ≠ g18 := Nat.ne_of_gt HLT.out
                          clear hown hrow hE d0 d1 d2 d4
                          go_wp2_with fail
                          go_region_law (refine step_appL rfl (.tmp 183) (.tmp 191) 73 rfl goneE (by simp [Act.eval, Act.put]) (owns_ext HO.out (show Ext wr (wr.drew.alloc _) from (Ext.rfl wr).dr.al _)) (ad := ⟨wr.heap.size, 0, none⟩) (m := 1) (c := 1) (news := [.int .i64 (k : Int), .int .u64 f.num]) (by simp [Act.eval, Act.put]) rfl (news_atL wr.drew #[.int .i64 (k : Int), .int .u64 f.num] 97) (one_gone (k : Int) f.num) (by have := hdl; omega) (Nat.le_trans (Nat.succ_le_of_lt HLT.out) ((Ext.rfl wr).dr.al (.cells #[.int .i64 (k : Int), .int .u64 f.num] 97)).size) ?_; intro v' w6 hown6 hb6; obtain ⟨a6, cap6, rfl, _⟩ := slice_ofL hown6; have HR6 := hid ((hb6.block g18 (Nat.lt_succ_self g18)).trans ((((Ext.rfl wr).dr.al (.cells #[.int .i64 (k : Int), .int .u64 f.num] 97)).block g18 HLT.out).trans HROW.out)); have z3 := (ed_cells HR6.out).2.2.2.1; have zf : ∀ i, w6.frozen? ⟨g18, i, none⟩ = false := fun i => frozen_of_row _ _ _ _ _ HR6.out; have HO6 := hid hown6; have HB6 := hid (Below.trans (show Below g18 wr (wr.drew.alloc (.cells #[.int .i64 (k : Int), .int .u64 f.num] 97)) from Below.mono ((Ext.rfl wr).dr.al _) (Nat.le_of_lt HLT.out)) (Below.mono hb6 (Nat.le_succ g18))); clear hown6 hb6)
                          all_goals
                            have RR := hid (show EAt g18 (ds ++ [⟨(k : Int), f.num⟩]) (w6.setCell ⟨g18, 3, none⟩ (.slice a6 (ds.length + 1) cap6)) from ⟨_, (heap_setCell_same _ _ _ _ _ _ HR6.out).trans rfl, by
                              have := owns_setL HO6.out g18 3 (.slice a6 (ds.length + 1) cap6) (Nat.lt_succ_self g18)
                              rw [List.length_append, List.flatMap_append]
                              exact this⟩)
                            have RB := hid (show Ext wP (w6.setCell ⟨g18, 3, none⟩ (.slice a6 (ds.length + 1) cap6)) from HX5.out _ (Below.setCell (p := ⟨g18, 3, none⟩) (Below.trans (HB5.out _ EQ.out) (Below.mono HB6.out HG18.out)) HG18.out _))
                            generalize w6.setCell ⟨g18, 3, none⟩ (.slice a6 (ds.length + 1) cap6) = wz at *
                            clear z3 zf HR6 HO6 HB6 c1 d3 df
                            go_wp2_with fail
                            go_roundw
                            case rel => exact ⟨i + 1, hlt3, by go_num, RB.out, by rw [HDS.out]; exact RR.out⟩
                            case measure => first | (simp [intOf]; done) | (simp [intOf]; omega)
                        · obtain rfl : i = xs.length := by omega
                          rw [List.take_length] at hP
                          have P18' := hid hP
                          have E5' := hid hE
                          clear hP hE
                          go_wp2_with fail
                          generalize wr = wQ at *
                          have hwk : IntKind.i64.wrap ((k : Int) + 1) = (k : Int) + 1 := wrap_oneI k hk
                          go_loopw [20] (fun t wr => ∃ i : Nat, i ≤ ys.length ∧ t = .int .i64 i ∧ Ext wP wr ∧ EAt g18 (xs.map (fun f : File => (⟨(k : Int), f.num⟩ : Gone)) ++ (ys.take i).map (fun f : File => (⟨((k : Int) + 1), f.num⟩ : Gone))) wr) (fun t _ => ys.length - (intOf t).toNat)
                          case atStart => exact ⟨0, Nat.zero_le _, rfl, E5'.out, by simpa using P18'.out⟩
                          case round =>
                            obtain ⟨i, hi, rfl, hE, hP⟩ := hrel
                            by_cases hlt3 : i < ys.length
                            · have dl3 : decide ((i : Int) < (ys.length : Int)) = true := decide_eq_true (by omega)
                              obtain ⟨bY, oY, rfl, hcell⟩ := HCY.out (by omega)
                              obtain ⟨c0, c1, c2, c3, c4, c5, c6, c7, c8⟩ := SlS.at9 (w := wr) (enc := eFile) (xs := ys) (k := i) (fun q hq => ext_cellq (HE1.out.tr hE) (hcell i hlt3 q hq) hq rfl) rfl
                              clear hcell c0 c2 c3 c4 c5 c6 c7 c8
                              have HDS := hid (show (xs.map (fun f : File => (⟨(k : Int), f.num⟩ : Gone)) ++ (ys.take (i + 1)).map (fun f : File => (⟨((k : Int) + 1), f.num⟩ : Gone))) = (xs.map (fun f : File => (⟨(k : Int), f.num⟩ : Gone)) ++ (ys.take i).map (fun f : File => (⟨((k : Int) + 1), f.num⟩ : Gone))) ++ [⟨((k : Int) + 1), (nth ys i).num⟩] by rw [take_succ_nth _ _ hlt3, List.map_append]; simp)
                              have hdl : (xs.map (fun f : File => (⟨(k : Int), f.num⟩ : Gone)) ++ (ys.take i).map (fun f : File => (⟨((k : Int) + 1), f.num⟩ : Gone))).length ≤ 100 := by have := HC.out; simp; omega
                              generalize (xs.map (fun f : File => (⟨(k : Int), f.num⟩ : Gone)) ++ (ys.take i).map (fun f : File => (⟨((k : Int) + 1), f.num⟩ : Gone))) = ds at *
                              generalize nth ys i = f at *
                              obtain ⟨v, hrow, hown⟩ := hP
                              obtain ⟨aD, capD, rfl, hdm⟩ := slice_ofL hown
                              obtain ⟨d0, d1, d2, d3, d4⟩ := ed_cells hrow
                              have df : ∀ i, wr.frozen? ⟨g18, i, none⟩ = false := fun i => frozen_of_row _ _ _ _ _ hrow
                              have HO := hid hown
                              have HROW := hid hrow
                              have HLT := hid (vblk_lt hrow)
                              have EQ := hid hE
                              have hq0 : g18 < wr.heap.size := HLT.out
                              have hq1 : wr.heap.size ≠ g18 := Nat.ne_of_gt HLT.out
                              clear hown hrow hE d0 d1 d2 d4
                              go_wp2_with fail
                              go_region_law (refine step_appL rfl (.tmp 201) (.tmp 210) 73 rfl goneE (by simp [Act.eval, Act.put]) (owns_ext HO.out (show Ext wr (wr.drew.alloc _) from (Ext.rfl wr).dr.al _)) (ad := ⟨wr.heap.size, 0, none⟩) (m := 1) (c := 1) (news := [.int .i64 ((k : Int) + 1), .int .u64 f.num]) (by simp [Act.eval, Act.put]) rfl (news_atL wr.drew #[.int .i64 ((k : Int) + 1), .int .u64 f.num] 97) (one_gone ((k : Int) + 1) f.num) (by have := hdl; omega) (Nat.le_trans (Nat.succ_le_of_lt HLT.out) ((Ext.rfl wr).dr.al (.cells #[.int .i64 ((k : Int) + 1), .int .u64 f.num] 97)).size) ?_; intro v' w6 hown6 hb6; obtain ⟨a6, cap6, rfl, _⟩ := slice_ofL hown6; have HR6 := hid ((hb6.block g18 (Nat.lt_succ_self g18)).trans ((((Ext.rfl wr).dr.al (.cells #[.int .i64 ((k : Int) + 1), .int .u64 f.num] 97)).block g18 HLT.out).trans HROW.out)); have z3 := (ed_cells HR6.out).2.2.2.1; have zf : ∀ i, w6.frozen? ⟨g18, i, none⟩ = false := fun i => frozen_of_row _ _ _ _ _ HR6.out; have HO6 := hid hown6; have HB6 := hid (Below.trans (show Below g18 wr (wr.drew.alloc (.cells #[.int .i64 ((k : Int) + 1), .int .u64 f.num] 97)) from Below.mono ((Ext.rfl wr).dr.al _) (Nat.le_of_lt HLT.out)) (Below.mono hb6 (Nat.le_succ g18))); clear hown6 hb6)
                              all_goals
                                have RR := hid (show EAt g18 (ds ++ [⟨((k : Int) + 1), f.num⟩]) (w6.setCell ⟨g18, 3, none⟩ (.slice a6 (ds.length + 1) cap6)) from ⟨_, (heap_setCell_same _ _ _ _ _ _ HR6.out).trans rfl, by
                                  have := owns_setL HO6.out g18 3 (.slice a6 (ds.length + 1) cap6) (Nat.lt_succ_self g18)
                                  rw [List.length_append, List.flatMap_append]
                                  exact this⟩)
                                have RB := hid (show Ext wP (w6.setCell ⟨g18, 3, none⟩ (.slice a6 (ds.length + 1) cap6)) from HX5.out _ (Below.setCell (p := ⟨g18, 3, none⟩) (Below.trans (HB5.out _ EQ.out) (Below.mono HB6.out HG18.out)) HG18.out _))
                                generalize w6.setCell ⟨g18, 3, none⟩ (.slice a6 (ds.length + 1) cap6) = wz at *
                                clear z3 zf HR6 HO6 HB6 c1 d3 df
                                go_wp2_with fail
                                go_roundw
                                case rel => exact ⟨i + 1, hlt3, by go_num, RB.out, by rw [HDS.out]; exact RR.out⟩
                                case measure => first | (simp [intOf]; done) | (simp [intOf]; omega)
                            · obtain rfl : i = ys.length := by omega
                              rw [List.take_length] at hP
                              have P18'' := hid hP
                              have E5'' := hid hE
                              clear hP hE
                              generalize wr = wR at *
                              have PE := hid P18''.out
                              have EE := hid E5''.out
                              clear P18 P18' P18'' E5 E5' hlt3 HCY
                              have KA := hid (K14''.out.go EE.out)
                              have KB := hid (K15''.out.go EE.out)
                              have VV := hid ((V83.out.go HE1.out).go EE.out)
                              have hg8 : g8 ≠ g18 := by
                                obtain ⟨x0, y0, z0, x1, y1, z1, x2, y2, z2, x3, y3, z3, h1, _⟩ := (V83.out.go HE1.out)
                                have h2 := vblk_lt h1
                                have h3 := HG18.out
                                omega
                              have hg8' : g18 ≠ g8 := fun e => hg8 e.symm
                              obtain ⟨vd, hrow, hown⟩ := PE.out
                              generalize hds : xs.map (fun f : File => (⟨(k : Int), f.num⟩ : Gone)) ++ ys.map (fun f : File => (⟨(k : Int) + 1, f.num⟩ : Gone)) = ds at *
                              obtain ⟨aD, capD, rfl, hdm⟩ := slice_ofL hown
                              obtain ⟨d0, d1, d2, d3, d4⟩ := ed_cells hrow
                              have df : ∀ i, wR.frozen? ⟨g18, i, none⟩ = false := fun i => frozen_of_row _ _ _ _ _ hrow
                              obtain ⟨a0, a1, a2, af⟩ := KA.out.cells
                              obtain ⟨b0, b1, b2, bf⟩ := KB.out.cells
                              obtain ⟨x0, y0, z0, x1, y1, z1, x2, y2, z2, x3, y3, z3, G83, HV83⟩ := V83.out
                              have G8 := ((HE1.out.tr EE.out).block _ (vblk_lt G83)).trans G83
                              obtain ⟨c0, c1, c2, c3⟩ := ver_cells G8
                              have hz1 := vblk_lt hrow
                              have hz2 := vblk_lt G8
                              have hz3 : wR.heap.size ≠ g18 := Nat.ne_of_gt hz1
                              have hz4 : wR.heap.size ≠ g8 := Nat.ne_of_gt hz2
                              have HV83 := hid HV83
                              have HOWN := hid hown
                              have HDS := hid hds
                              clear hown hds af bf
                              have F9 := hid (show ((wR.setCell ⟨g18, 4, none⟩ (.slice (some ⟨wR.heap.size, 0, none⟩) 1 1)).alloc (Obj.cells (fileCells ⟨(k : Int) + 1, 549755813888, 1, A2, B2⟩) 80)).heap[wR.heap.size]? = some (Obj.cells (fileCells ⟨(k : Int) + 1, 549755813888, 1, A2, B2⟩) 80 (0, 0)) from by
                                have h := heap_alloc_new (wR.setCell ⟨g18, 4, none⟩ (.slice (some ⟨wR.heap.size, 0, none⟩) 1 1)) (Obj.cells (fileCells ⟨(k : Int) + 1, 549755813888, 1, A2, B2⟩) 80)
                                rwa [setCell_heap_size] at h)
                              have EW9 := hid (show Ext wP ((wR.setCell ⟨g18, 4, none⟩ (.slice (some ⟨wR.heap.size, 0, none⟩) 1 1)).alloc (Obj.cells (fileCells ⟨(k : Int) + 1, 549755813888, 1, A2, B2⟩) 80)) from (HX5.out _ (Below.setCell (p := ⟨g18, 4, none⟩) (HB5.out _ EE.out) HG18.out _)).al _)
                              have OW9 := hid (owns_ext (owns_setL HOWN.out g18 4 (.slice (some ⟨wR.heap.size, 0, none⟩) 1 1) (Nat.lt_succ_self g18)) ((Ext.rfl _).al (Obj.cells (fileCells ⟨(k : Int) + 1, 549755813888, 1, A2, B2⟩) 80)))
                              go_wp2_with fail
                              generalize (wR.setCell ⟨g18, 4, none⟩ (.slice (some ⟨wR.heap.size, 0, none⟩) 1 1)).alloc (Obj.cells (fileCells ⟨(k : Int) + 1, 549755813888, 1, A2, B2⟩) 80) = w9 at *
                              have HRES := hid (leaves_ok HA.out hk HM.out (a := A2) (b := B2) (by rw [hA2.out, hA0.out]) (by rw [hB2.out, hB0.out]) HU.out (Nat.le_of_not_lt HC.out))
                              have HFT := hid (mrg_fit hk HM.out HFU.out (a := A2) (b := B2) (by rw [hA2.out, hA0.out]) (by rw [hB2.out, hB0.out]))
                              have HSUB := hid (fun h n => @applyF_sub U (mrgE k xs ys A2 B2) h n)
                              have V9 := hid (show VAt g8 U w9 from (V83.out.go HE1.out).go EW9.out)
                              have hdd : (mrgE k xs ys A2 B2).dels = ds := HDS.out
                              clear a0 a1 a2 b0 b1 b2 c0 c1 c2 c3 d0 d1 d2 d3 d4 df hz1 hz2 hz3 hz4 hrow G8 G83
                              obtain ⟨R, HRR⟩ : ∃ R, Hid (applyF U (mrgE k xs ys A2 B2) = R) := ⟨_, rfl⟩
                              replace HRES : Hid (R.1 = 142 ∨ (R.1 = 0 ∧ ovs (nth xs 0).small.user (nth xs 0).large.user (R.2 k) = [])) := by rw [← HRR.out]; exact HRES
                              replace HSUB : Hid (R.1 = 0 → ∀ n, (R.2 n).length ≤ (U n).length + 100 ∧ ∀ f, f ∈ R.2 n → f ∈ U n ∨ f ∈ (mrgE k xs ys A2 B2).adds) := by rw [← HRR.out]; exact HSUB
                              have HV9 := hid (show Ver w9 (.slice x0 y0 z0) (.slice x1 y1 z1) (.slice x2 y2 z2) (.slice x3 y3 z3) U from HV83.out.go (HE1.out.tr EW9.out))
                              refine (apply_in _ _ _ _ U (mrgE k xs ys A2 B2) _ _ _ HV9.out HFU.out (fun n hn => Nat.le_trans (HLN.out n hn) (by decide)) (by rw [hdd]; exact EAt.sl OW9.out) (sl_atL _ F9.out) (fun f hf => by rw [List.mem_singleton.1 hf]; exact HFT.out)).mono ?_
                              rintro e w10 ⟨r0, r1, r2, r3, rfl, hv10, he10⟩
                              rw [HRR.out] at hv10 ⊢
                              obtain ⟨p0, q0, s0, rfl⟩ := isSl_of hv10.s0
                              obtain ⟨p1, q1, s1, rfl⟩ := isSl_of hv10.s1
                              obtain ⟨p2, q2, s2, rfl⟩ := isSl_of hv10.s2
                              obtain ⟨p3, q3, s3, rfl⟩ := isSl_of hv10.s3
                              have E10 := hid (EW9.out.tr he10)
                              have V10 := hid hv10
                              have EWP := hid (show Ext w wP from EW.out)
                              clear hv10 he10 F9 OW9 V9 HV9
                              rcases HRES.out with hz | ⟨hz, hov⟩
                              · have dz : (R.1 == 142) = true := by simp [hz]
                                have HZ := hid hz
                                clear hz HRES
                                go_wp2_with fail
                                go_ret
                                exact ⟨rfl, (EWP.out.tr E10.out).al _⟩
                              · have dz1 : (R.1 == 142) = false := by simp [hz]
                                have dz2 : (R.1 != 0) = false := by simp [hz]
                                have HN := hid (fun n => (HSUB.out hz n).1)
                                have HOV := hid hov
                                have HZ := hid hz
                                clear hz hov HRES HSUB
                                go_wp2_with fail
                                have G21 := hid (show (w10.alloc (Obj.cells #[.slice p0 q0 s0, .slice p1 q1 s1, .slice p2 q2 s2, .slice p3 q3 s3] 67)).heap[w10.heap.size]? = some (Obj.cells #[.slice p0 q0 s0, .slice p1 q1 s1, .slice p2 q2 s2, .slice p3 q3 s3] 67 (0, 0)) from heap_alloc_new w10 _)
                                have HV11 := hid (V10.out.go ((Ext.rfl w10).al (Obj.cells #[.slice p0 q0 s0, .slice p1 q1 s1, .slice p2 q2 s2, .slice p3 q3 s3] 67)))
                                have E11 := hid (show Ext w3 (w10.alloc (Obj.cells #[.slice p0 q0 s0, .slice p1 q1 s1, .slice p2 q2 s2, .slice p3 q3 s3] 67)) from (HE1.out.tr E10.out).al _)
                                have EW11 := hid (show Ext w (w10.alloc (Obj.cells #[.slice p0 q0 s0, .slice p1 q1 s1, .slice p2 q2 s2, .slice p3 q3 s3] 67)) from (EWP.out.tr E10.out).al _)
                                generalize w10.alloc (Obj.cells #[.slice p0 q0 s0, .slice p1 q1 s1, .slice p2 q2 s2, .slice p3 q3 s3] 67) = w11 at *
                                generalize w10.heap.size = g21 at *
                                obtain ⟨_, _, e, hcell⟩ := HCX.out hpos
                                simp only [Option.some.injEq, Addr.mk.injEq] at e
                                obtain ⟨rfl, rfl, _⟩ := e
                                have HC0 := hid (fun j hj => hcell 0 hpos j hj)
                                have HLR := hid (show (R.2 k).length ≤ 1000000 from by have h1 := HN.out k; have h2 := HLN.out k (by omega); omega)
                                clear hcell HCX dz1 dz2 V10 E10 HN
                                refine wp_draw (by kernel_rfl) (by kernel_rfl) ?_
                                refine rg_step 231 (ob_loadrow (cs := #[.slice p0 q0 s0, .slice p1 q1 s1, .slice p2 q2 s2, .slice p3 q3 s3]) (by rfl) (by rfl) (fun w' he => (he.block _ (vblk_lt G21.out)).trans G21.out) Try.underlying67 rfl (by kernel_rfl)) rfl (by rfl) ?_
                                refine rg_step 232 (ob_move (by rfl) (by rfl)) rfl (by rfl) ?_
                                refine rg_step 233 (ob_move (by rfl) (by rfl)) rfl (by rfl) ?_
                                refine rg_step 234 (ob_index 9 (oX + 0 * 9) (by rfl) (by rfl) (by rfl) Try.underlying64 (by kernel_rfl) (Int.le_refl 0) (by omega) rfl) rfl (by rfl) ?_
                                refine rg_step 235 (ob_field (n := 2) (oX + 0 * 9 + 3) 3 42 (by rfl) (by rfl) Try.underlying80 (by rfl) (by kernel_rfl) rfl) rfl (by rfl) ?_
                                refine rg_step 236 (ob_field (n := 0) (oX + 0 * 9 + 3) 0 9 (by rfl) (by rfl) Try.underlying42 (by rfl) (by kernel_rfl) rfl) rfl (by rfl) ?_
                                refine rg_step 237 (ob_load (v := .string (nth xs 0).small.user) (by rfl) (by rfl) (by rfl) (fun w' he => (ext_cellq (E11.out.tr he) (HC0.out 3 (by decide)) (show 3 < 9 by decide) rfl).trans rfl)) rfl (by rfl) ?_
                                refine rg_step 238 (ob_move (by rfl) (by rfl)) rfl (by rfl) ?_
                                refine rg_step 239 (ob_index 9 (oX + 0 * 9) (by rfl) (by rfl) (by rfl) Try.underlying64 (by kernel_rfl) (Int.le_refl 0) (by omega) rfl) rfl (by rfl) ?_
                                refine rg_step 240 (ob_field (n := 2) (oX + 0 * 9 + 6) 6 42 (by rfl) (by rfl) Try.underlying80 (by rfl) (by kernel_rfl) rfl) rfl (by rfl) ?_
                                refine rg_step 241 (ob_field (n := 0) (oX + 0 * 9 + 6) 0 9 (by rfl) (by rfl) Try.underlying42 (by rfl) (by kernel_rfl) rfl) rfl (by rfl) ?_
                                refine rg_step 242 (ob_load (v := .string (nth xs 0).large.user) (by rfl) (by rfl) (by rfl) (fun w' he => (ext_cellq (E11.out.tr he) (HC0.out 6 (by decide)) (show 6 < 9 by decide) rfl).trans rfl)) rfl (by rfl) ?_
                                refine rg_step 243 (ob_call (SlRl []) (by rfl) cf_over (fun w' he => (vover_in _ _ _ _ R.2 k k rfl (by omega) (nth xs 0).small.user (nth xs 0).large.user w' (HV11.out.go he) HLR.out).mono fun e w'' ⟨v', h1, h2, h3⟩ => ⟨_, h1, h3, (by rw [HOV.out] at h2; exact OwnFiles.sl h2)⟩)) rfl (by rfl) ?_
                                refine rg_step 23 (ob_assign (by rfl) (by rfl)) rfl (by rfl) ?_
                                refine rg_end ?_
                                intro w12 he12
                                simp only [asg, List.set_cons_zero, List.set_cons_succ, List.map_cons, List.map_nil, opens, SlRl]
                                intro v23 h23 v243 h243
                                obtain ⟨a12, c12, rfl, _⟩ := h23.ex
                                have E12 := hid (EW11.out.tr he12)
                                clear h23 h243 he12
                                go_wp2_with fail
                                go_ret
                                exact ⟨rfl, E12.out⟩
end Go.Proofs.Ytoonhcmeklmnlaa
