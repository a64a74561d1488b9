/- The walk of the law ScoreGrows. -/
import Derived.Test.YtoonhcmeklmnlaaGrQ
import Derived.Deep.CutRange
import Derived.Deep.RegionLaw
import Derived.OwnWalk
import Derived.BigQuiet
set_option linter.unusedSimpArgs false
set_option linter.unusedVariables false
set_option linter.unnecessarySimpa false
namespace Go.Proofs.Ytoonhcmeklmnlaa
open Go.RowKit Go.Rg Go.St

theorem sl_four {w : World} {v : Value} {rs : List Nat} (h : SlFloat w v rs) (hl : rs.length = 4) : ∃ b off cap, v = .slice (some ⟨b, off, none⟩) 4 cap ∧ ∀ i, i < 4 → w.cell? ⟨b, off + i, none⟩ = some (.float .f64 (nth rs i)) := by
  obtain ⟨a, cap, e, _, _, hc⟩ := h.ex
  rw [hl] at e hc
  obtain ⟨b, off, rfl, hcc⟩ := hc (by decide)
  exact ⟨b, off, cap, e, hcc⟩
set_option maxRecDepth 100000 in
set_option maxHeartbeats 32000000 in
theorem scoreGrows_walk (ve : Value) (es : List EdS) (tr : Nat) (vt : Value) (tg : List Nat) (w : World) (he : SlS w ve 5 eEdS es) (hg : ∀ x, x ∈ es → GoodE w x) (ht : SlFloat w vt tg) :
    Calls Try.prog 14 #[ve, .float .f64 tr, vt] w (TruePost w) := by
  obtain ⟨aE, capE, rfl, hcapE, hmE, _⟩ := he.ex
  unfold maxLen at hmE
  obtain ⟨aT, capT, rfl, hcapT, hmT, hcT⟩ := ht.ex
  have HE0 := hid he
  have HG0 := hid hg
  have HT := hid (fun w' (he : Ext w w') => ht.go he)
  have HCT := hid hcT
  clear he hg ht hcT
  go_enter Try.func14, Try.ntmps14
  go_wp2_with fail
  refine (awake18 _).mono ?_
  rintro e wa ⟨rfl, hea⟩
  have EA := hid hea
  clear hea
  go_upto_if 21 with fail
  go_cut [0] from 19 to 23 (fun v wx => wx = wa ∧ ∃ l : List EdS, l.length ≤ 10 ∧ (∀ x, x ∈ l → GoodE w x) ∧ SlS w v 5 eEdS l)
  case first =>
    by_cases hlt : 10 < es.length
    · have hd : decide ((10 : Int) < (es.length : Int)) = true := decide_eq_true (by omega)
      go_wp2_with fail
      go_meet
      case rel => exact ⟨rfl, es.take 10, by rw [List.length_take]; omega, fun x hx => HG0.out x (List.mem_of_mem_take hx), slS_takeE HE0.out 10 (Nat.le_of_lt hlt)⟩
    · have hd : decide ((10 : Int) < (es.length : Int)) = false := decide_eq_false (by omega)
      go_wp2_with fail
      go_meet
      case rel => exact ⟨rfl, es, by omega, HG0.out, HE0.out⟩
  case rest =>
    obtain ⟨rfl, l, hl, hgl, hsl⟩ := hcut
    clear HG0 HE0 hmE hcapE
    obtain ⟨al, cpl, rfl, hcapl, hml, hcl⟩ := hsl.ex
    have HCL := hid hcl
    clear hcl
    unfold maxLen at hml
    have HL := hid hl
    have HGL := hid hgl
    have HSL := hid hsl
    clear hgl hsl hl
    go_wp2_with fail
    have V8 := hid (show VAt wc.heap.size noneV (wc.alloc (Obj.cells #[nilV, nilV, nilV, nilV] 67)) from ⟨_, _, _, _, _, _, _, _, _, _, _, _, heap_alloc_new wc _, ver_none _⟩)
    have E2 := hid (show Ext w (wc.alloc (Obj.cells #[nilV, nilV, nilV, nilV] 67)) from EA.out.al _)
    have HG8 := hid (show w.heap.size ≤ wc.heap.size from EA.out.size)
    have HEX := hid (show ∀ w', Below w.heap.size w w' → Ext w w' from fun _ h => h)
    have HSZ := hid (show ∀ w', Below w.heap.size w w' → w.heap.size ≤ w'.heap.size from fun _ h => h.size)
    generalize wc.alloc (Obj.cells #[nilV, nilV, nilV, nilV] 67) = w2 at *
    clear EA
    generalize wc.heap.size = g8 at *
    go_loopw [9] (fun t wr => ∃ (i : Nat) (U : Lv), i ≤ l.length ∧ t = .int .i64 i ∧ Below w.heap.size w wr ∧ VAt g8 U wr ∧ (∃ A, StF A U) ∧ (∀ n, n < 4 → (U n).length ≤ 100 * i) ∧ (∀ n, n < 4 → ∀ f, f ∈ U n → FitF f)) (fun t _ => l.length - (intOf t).toNat)
    case atStart => exact ⟨0, noneV, Nat.zero_le _, rfl, E2.out, V8.out, ⟨_, StF.nil⟩, fun n hn => Nat.le_refl _, fun n hn f hf => by cases hf⟩
    case round =>
      clear V8 E2
      obtain ⟨i, U, hi, rfl, hb, v8, hst, hnu, hfu⟩ := hrel
      have HB := hid hb
      have V8 := hid v8
      have HST := hid hst
      have HNU := hid hnu
      have HFU := hid hfu
      clear hb v8 hst hnu hfu
      by_cases hlt : i < l.length
      · have dl : decide ((i : Int) < (l.length : Int)) = true := decide_eq_true (by omega)
        have HGE := hid (HGL.out _ (nth_mem _ _ hlt))
        obtain ⟨bE, oE, rfl, hcell⟩ := HCL.out (by omega)
        have HRA := hid (show ∀ w', Ext w w' → w'.rangeAt bE (oE + i * 5) (eEdS (nth l i)) from fun w' he q v hv => by
          have hq : q < 5 := (List.getElem?_eq_some_iff.1 hv).1
          exact (ext_cellq he (hcell i hlt q hq) hq rfl).trans hv)
        clear hcell HCL
        obtain ⟨x0, y0, z0, x1, y1, z1, x2, y2, z2, x3, y3, z3, G8, HV8⟩ := V8.out
        have HV8 := hid HV8
        have G8 := hid G8
        have HSUB := hid (fun h n => @applyF_sub U (nth l i).ed h n)
        have HGRO := hid (fun h hd n => @applyF_grow U (nth l i).ed h hd n)
        have HAST := hid (show (applyF U (nth l i).ed).1 = 0 → ∃ B, StF B (applyF U (nth l i).ed).2 from fun hz => HST.out.elim fun A hA => apply_st hA hz)
        obtain ⟨R, HRR⟩ : ∃ R, Hid (applyF U (nth l i).ed = R) := ⟨_, rfl⟩
        replace HSUB : Hid (R.1 = 0 → ∀ n, (R.2 n).length ≤ (U n).length + 100 ∧ ∀ f, f ∈ R.2 n → f ∈ U n ∨ f ∈ (nth l i).ed.adds) := by rw [← HRR.out]; exact HSUB
        replace HGRO : Hid (R.1 = 0 → (nth l i).ed.dels.length = 0 → ∀ n, (U n).length ≤ (R.2 n).length ∧ szF (U n) ≤ szF (R.2 n)) := by rw [← HRR.out]; exact HGRO
        replace HAST : Hid (R.1 = 0 → ∃ B, StF B R.2) := by rw [← HRR.out]; exact HAST
        have wr_E := hid (HEX.out _ HB.out)
        go_wp2_with fail
        refine wp_drawV (RgJ 36 30 37 10 wr R.1 R.2) (by kernel_rfl) (by kernel_rfl) (fun w9 he => RgJ.start he) ?_
        refine rgv_read 31 [36, 30, 37, 10] (RgJ.keep (by decide) (by decide) (by decide) (by decide) (by decide)) (by rfl) (fun L p w hi hC hL => ob_loadrow (cs := #[.slice x0 y0 z0, .slice x1 y1 z1, .slice x2 y2 z2, .slice x3 y3 z3]) (by rfl) (by rfl) (fun w' he => (he.block _ (Nat.lt_of_lt_of_le (vblk_lt G8.out) hi.b0.size)).trans ((hi.b0.block _ (vblk_lt G8.out)).trans G8.out)) Try.underlying67 rfl (by kernel_rfl)) rfl (by rfl) ?_
        refine rgv_read 32 [36, 30, 37, 10] (RgJ.keep (by decide) (by decide) (by decide) (by decide) (by decide)) (by rfl) (fun L p w hi hC hL => ob_move (by rfl) (by rfl)) rfl (by rfl) ?_
        refine rgv_read 33 [36, 30, 37, 10] (RgJ.keep (by decide) (by decide) (by decide) (by decide) (by decide)) (by rfl) (fun L p w hi hC hL => ob_move (by rfl) (by rfl)) rfl (by rfl) ?_
        refine rgv_read 34 [36, 30, 37, 10] (RgJ.keep (by decide) (by decide) (by decide) (by decide) (by decide)) (by rfl) (fun L p w hi hC hL => ob_index 5 (oE + i * 5) (by rfl) (by rfl) (by rfl) Try.underlying68 (by kernel_rfl) (Int.natCast_nonneg i) (Int.ofNat_lt.2 hlt) (by rw [Int.toNat_natCast])) rfl (by rfl) ?_
        refine rgv_read 35 [36, 30, 37, 10] (RgJ.keep (by decide) (by decide) (by decide) (by decide) (by decide)) (by rfl) (fun L p w hi hC hL => ob_loadmid (cs := eEdS (nth l i)) (by rfl) (by rfl) (fun w' he => HRA.out _ (Ext.tr wr_E.out (Ext.tr hi.b0 he))) Try.underlying75 rfl (by kernel_rfl)) rfl (by rfl) ?_
        refine rgv_eff anyV free_any rfl (fun a L w hx hi hN hC hL he => ?_) ⟨by rfl, ?_⟩
        · have h6 : L 6 = false := (by cases h : L 6 with | false => rfl | true => (have := hC 6 _ rfl h ⟨5, .data⟩ (by simp) rfl; rw [hL] at this; cases this))
          have h7 : L 7 = false := by cases h : L 7 with | false => rfl | true => (have := hC 7 _ rfl h ⟨6, .data⟩ (by simp) rfl; rw [h6] at this; cases this)
          rw [exec_call rfl #[.agg #[.slice x0 y0 z0, .slice x1 y1 z1, .slice x2 y2 z2, .slice x3 y3 z3], .agg (eEdS (nth l i)).toArray] (by simp only [List.map_toArray, List.map_cons, List.map_nil]; rw [hx (.tmp 31) (by simp [Op.operands, Call.operands]) _ rfl, hx (.tmp 35) (by simp [Op.operands, Call.operands]) _ rfl]) cf_apply]
          refine (apply_in _ _ _ _ U (nth l i).ed (nth l i).vd (nth l i).va w (HV8.out.go hi.b0) HFU.out (fun n hn => by have := HNU.out n hn; have := HL.out; omega) (HGE.out.go (Ext.tr wr_E.out hi.b0)).d (HGE.out.go (Ext.tr wr_E.out hi.b0)).a HGE.out.f).mono ?_
          rintro e wz ⟨r0, r1, r2, r3, rfl, hvz, hez⟩
          rw [HRR.out] at hvz ⊢
          obtain ⟨a0, b0, d0, rfl⟩ := isSl_of hvz.s0
          obtain ⟨a1, b1, d1, rfl⟩ := isSl_of hvz.s1
          obtain ⟨a2, b2, d2, rfl⟩ := isSl_of hvz.s2
          obtain ⟨a3, b3, d3, rfl⟩ := isSl_of hvz.s3
          exact ⟨_, rfl, trivial, hi.slot1 hL hez (fun h => absurd rfl h) (fun h => put_far (by decide)) (fun h => put_far (by decide)) (fun h => put_far (by decide)) (by decide) (fun _ => ⟨⟨_, _, _, _, _, _, _, _, _, _, _, _, put_at (show a.tmps.size = 132 from hN) (by decide), hvz⟩, h6, h7⟩) (fun h => by cases h) (fun h => by cases h) (fun h => by cases h) (fun h => by cases h)⟩
        refine rgv_eff anyV free_any rfl (fun a L w hx hi hN hC hL he => ?_) ⟨by rfl, ?_⟩
        · have h5 : L 5 = true := he ⟨5, .data⟩ (by simp) rfl
          rw [exec_move]
          exact ⟨trivial, hi.slot1 hL (Ext.rfl w) (fun h => put_far (by decide)) (fun h => absurd rfl h) (fun h => put_far (by decide)) (fun h => put_far (by decide)) (by decide) (fun h => by cases h) (fun _ => ⟨h5, put_at (show a.tmps.size = 132 from hN) (by decide)⟩) (fun h => by cases h) (fun h => by cases h) (fun h => by cases h)⟩
        refine rgv_eff anyV free_any rfl (fun a L w hx hi hN hC hL he => ?_) ⟨by rfl, ?_⟩
        · have h6 : L 6 = true := he ⟨6, .data⟩ (by simp) rfl
          obtain ⟨h5, e5⟩ := hi.b6 h6
          obtain ⟨a0, b0, d0, a1, b1, d1, a2, b2, d2, a3, b3, d3, e4, hvz⟩ := hi.b5 h5
          rw [exec_extract (i := 0) (show a.eval (.tmp 30) = _ from e5.trans e4) rfl]
          exact ⟨trivial, hi.slot1 hL (Ext.rfl w) (fun h => put_far (by decide)) (fun h => put_far (by decide)) (fun h => absurd rfl h) (fun h => put_far (by decide)) (by decide) (fun h => by cases h) (fun h => by cases h) (fun _ => ⟨h5, by rw [put_at (show a.tmps.size = 132 from hN) (by decide)]; exact e4⟩) (fun h => by cases h) (fun h => by cases h)⟩
        refine rgv_eff (.ex (.int .i64 R.1)) (free_ex _) rfl (fun a L w hx hi hN hC hL he => ?_) ⟨by rfl, ?_⟩
        · have h6 : L 6 = true := he ⟨6, .data⟩ (by simp) rfl
          obtain ⟨h5, e5⟩ := hi.b6 h6
          obtain ⟨a0, b0, d0, a1, b1, d1, a2, b2, d2, a3, b3, d3, e4, hvz⟩ := hi.b5 h5
          rw [exec_extract (i := 1) (show a.eval (.tmp 30) = _ from e5.trans e4) rfl]
          exact ⟨rfl, RgJ.keep (by decide) (by decide) (by decide) (by decide) (by decide) L _ _ w w (fun t ht => (by simp at ht; rcases ht with rfl | rfl | rfl | rfl <;> exact (put_far (by decide)).symm)) hi (Ext.rfl w)⟩
        refine rgv_eff anyV free_any rfl (fun a L w hx hi hN hC hL he => ?_) ⟨by rfl, ?_⟩
        · have h10 : L 10 = false := (by cases h : L 10 with | false => rfl | true => (have := hC 10 _ rfl h ⟨9, .data⟩ (by simp) rfl; rw [hL] at this; cases this))
          rw [exec_alloc4]
          exact ⟨trivial, hi.slot1 hL ((Ext.rfl w).al _) (fun h => put_far (by decide)) (fun h => put_far (by decide)) (fun h => put_far (by decide)) (fun h => absurd rfl h) (by decide) (fun h => by cases h) (fun h => by cases h) (fun h => by cases h) (fun _ => ⟨_, put_at (show a.tmps.size = 132 from hN) (by decide), hi.b0.size, heap_alloc_new w _⟩) (fun _ => h10)⟩
        refine rgv_eff (.ex undef) (free_ex _) rfl (fun a L w hx hi hN hC hL he => ?_) ?_
        · have h7 : L 7 = true := he ⟨7, .data⟩ (by simp) rfl
          have h9 : L 9 = true := he ⟨9, .data⟩ (by simp) rfl
          obtain ⟨h5, e6⟩ := hi.b7 h7
          obtain ⟨a0, b0, d0, a1, b1, d1, a2, b2, d2, a3, b3, d3, e4, hvz⟩ := hi.b5 h5
          have e7 := tup_inj (e6.symm.trans e4)
          obtain ⟨b, q1, q2, q3⟩ := hi.b9 h9 hL
          rw [exec_store (show a.eval (.tmp 10) = _ from q1) (show a.eval (.tmp 37) = _ from e7) (run_store4 w b a0 a1 a2 a3 b0 b1 b2 b3 d0 d1 d2 d3 q3)]
          exact ⟨rfl, hi.store h5 h9 hL (fun t ht => rfl) q1 hvz⟩
        refine rgv_read 11 [36, 30, 37, 10] (RgJ.keep (by decide) (by decide) (by decide) (by decide) (by decide)) (by rfl) (fun L p w hi hC hL => ob_assign (by rfl) (by rfl)) rfl (by rfl) ?_
        refine rgv_end ?_
        intro L ws hall
        simp only [asg, List.set_cons_zero, List.set_cons_succ, List.map_cons, List.map_nil, opens, anyV]
        intro v10 _ v30 _ v36 _ v37 _ hi1
        obtain ⟨g10, a0, b0, d0, a1, b1, d1, a2, b2, d2, a3, b3, d3, e10, l10, G10, hv10⟩ := hi1.b10 (hall 10 (by decide))
        have e10' : v10 = .pointer (some ⟨g10, 0, none⟩) := e10
        subst e10'
        have ES := hid hi1.b0
        have BS := hid (show Below w.heap.size w ws from Below.trans HB.out (Below.mono ES.out (HSZ.out _ HB.out)))
        have V8S := hid (V8.out.go ES.out)
        have V10 := hid hv10
        have G10 := hid G10
        have hdc := HRA.out ws (HEX.out _ BS.out) 3 _ rfl
        obtain ⟨aD, capD, hvd, _, hmD, _⟩ := HGE.out.d.ex
        rw [hvd] at hdc
        clear hall e10 hi1 V8 HV8 HB wr_E ES G8 hvd
        by_cases hz : R.1 = 0
        · have dz : (R.1 == 0) = true := by simp [hz]
          have HN := hid (HAST.out hz)
          have HS1 := hid (HSUB.out hz)
          have HG1 := hid (HGRO.out hz)
          have HZ := hid hz
          clear hz HAST HSUB HGRO
          by_cases hd0 : (nth l i).ed.dels.length = 0
          · have dd : (((nth l i).ed.dels.length : Int) == 0) = true := by rw [hd0]; rfl
            have HG2 := hid (HG1.out hd0)
            obtain ⟨s0, t0, r0, s1, t1, r1, s2, t2, r2, s3, t3, r3, G8S, HV8S⟩ := V8S.out
            have G8S := hid G8S
            have HV8S := hid HV8S
            have HD0 := hid hd0
            obtain ⟨f0, f1, f2, f3⟩ := ver_cells G8S.out
            clear hd0 HG1
            go_wp2_with fail
            refine (scores_any _ _ _ _ U tr _ tg _ HV8S.out (HT.out _ (HEX.out _ BS.out))).mono ?_
            rintro e wA ⟨va, xa, rfl, hokA, hslA, heA⟩
            have OKA := hid hokA
            have SLA := hid hslA
            have EA1 := hid heA
            obtain ⟨c0, c1, c2, c3⟩ := ver_cells ((heA.block _ (vblk_lt G10.out)).trans G10.out)
            clear hokA hslA heA f0 f1 f2 f3 hdc dd
            go_wp2_with fail
            refine (scores_any _ _ _ _ R.2 tr _ tg _ (V10.out.go EA1.out) (HT.out _ ((HEX.out _ BS.out).tr EA1.out))).mono ?_
            rintro e wB ⟨vb, xb, rfl, hokB, hslB, heB⟩
            obtain ⟨bA, oA, capA, rfl, hcA⟩ := sl_four (SLA.out.go heB) OKA.out.1
            obtain ⟨bB, oB, capB, rfl, hcB⟩ := sl_four hslB hokB.1
            have HCA := hid hcA
            have HCB := hid hcB
            have EB := hid (show Ext ws wB from EA1.out.tr heB)
            have HNO := hid (show ∀ k, k < 4 → (ford (scT tr tg k) 0 == some .gt) = true → ¬ fOrd (nth xb k) (nth xa k) < 0 from fun k hk hp => by
              obtain ⟨A, hA⟩ := HST.out
              obtain ⟨B, hB⟩ := HN.out
              refine grows_ok hA hB (fun n hn => ?_) (fun n hn => ?_) HG2.out OKA.out hokB hk hp
              · have h1 := HNU.out n hn; have h2 := HL.out; omega
              · have h1 := HNU.out n hn; have h2 := HL.out; have h3 := (HS1.out n).1; omega)
            clear hcA hcB hokB hslB heB c0 c1 c2 c3 SLA EA1 OKA
            go_wp2_with fail
            go_loopw [14] (fun t wx => ∃ k : Nat, k ≤ 4 ∧ t = .int .i64 k ∧ Ext wB wx) (fun t _ => 4 - (intOf t).toNat)
            case atStart => exact ⟨0, Nat.zero_le _, rfl, Ext.rfl _⟩
            case round =>
              obtain ⟨k, hk, rfl, hX⟩ := hrel
              have EX := hid hX
              clear hX
              by_cases hk4 : k < 4
              · have hd4 : decide ((k : Int) < 4) = true := decide_eq_true (by omega)
                have ca := ext_cell EX.out (HCA.out k hk4)
                have cb := ext_cell EX.out (HCB.out k hk4)
                have HK := hid hk
                have HK4 := hid hk4
                by_cases hk0 : k = 0
                · have dk0 : ((k : Int) == 0) = true := by rw [hk0]; rfl
                  have dk1 : ¬ (0 < k) := by omega
                  have dk2 : decide ((0 : Int) < (k : Int)) = false := decide_eq_false (by omega)
                  cases hp : (ford tr 0 == some .gt) with
                  | true =>
                    have hp1 : (FloatKind.f64.format.order tr 0 == some .gt) = true := hp
                    have hno := HNO.out k hk4 (by rw [hk0]; exact hp)
                    clear hk hk4 hk0 hp
                    go_wp2_with fail
                    go_quiet ((go_at_call 55; exact Calls.quiet_of_same (order_same _ _ _)))
                    go_wp2_with fail
                    go_roundw
                    case rel => exact ⟨k + 1, HK4.out, by go_num, EX.out.drN _⟩
                    case measure => first | (simp [intOf]; done) | (have := HK4.out; simp [intOf]; omega)
                  | false =>
                    have hp1 : (FloatKind.f64.format.order tr 0 == some .gt) = false := hp
                    clear hk hk4 hk0 hp
                    go_wp2_with fail
                    go_quiet ((go_at_call 55; exact Calls.quiet_of_same (order_same _ _ _)))
                    go_wp2_with fail
                    go_roundw
                    case rel => exact ⟨k + 1, HK4.out, by go_num, EX.out.drN _⟩
                    case measure => first | (simp [intOf]; done) | (have := HK4.out; simp [intOf]; omega)
                · have dk0 : ((k : Int) == 0) = false := by rw [beq_eq_false_iff_ne]; omega
                  have dk1 : 0 < k := by omega
                  have dk2 : decide ((0 : Int) < (k : Int)) = true := decide_eq_true (by omega)
                  by_cases hkl : k ≤ tg.length
                  · have dkl : decide ((k : Int) ≤ (tg.length : Int)) = true := decide_eq_true (by omega)
                    obtain ⟨bT, oT, rfl, hct⟩ := HCT.out (by omega)
                    have ct := ext_cell ((HEX.out _ BS.out).tr (EB.out.tr EX.out)) (hct (k - 1) (by omega))
                    have ek : ((k : Int) - 1).toNat = k - 1 := by omega
                    clear hct HCT
                    cases hp : (ford (nth tg (k - 1)) 0 == some .gt) with
                    | true =>
                      have hp1 : (FloatKind.f64.format.order (nth tg (k - 1)) 0 == some .gt) = true := hp
                      have hno := HNO.out k hk4 (by rw [scT_one tr tg dk1 hkl]; exact hp)
                      clear hp
                      go_wp2_with fail
                      go_quiet ((go_at_call 55; exact Calls.quiet_of_same (order_same _ _ _)))
                      go_wp2_with fail
                      go_roundw
                      case rel => exact ⟨k + 1, HK4.out, by go_num, EX.out.drN _⟩
                      case measure => first | (simp [intOf]; done) | (have := HK4.out; simp [intOf]; omega)
                    | false =>
                      have hp1 : (FloatKind.f64.format.order (nth tg (k - 1)) 0 == some .gt) = false := hp
                      clear hp
                      go_wp2_with fail
                      go_quiet ((go_at_call 55; exact Calls.quiet_of_same (order_same _ _ _)))
                      go_wp2_with fail
                      go_roundw
                      case rel => exact ⟨k + 1, HK4.out, by go_num, EX.out.drN _⟩
                      case measure => first | (simp [intOf]; done) | (have := HK4.out; simp [intOf]; omega)
                  · have dkl : decide ((k : Int) ≤ (tg.length : Int)) = false := decide_eq_false (by omega)
                    go_wp2_with fail
                    go_quiet ((go_at_call 55; exact Calls.quiet_of_same (order_same _ _ _)))
                    go_wp2_with fail
                    go_roundw
                    case rel => exact ⟨k + 1, HK4.out, by go_num, EX.out.drN _⟩
                    case measure => first | (simp [intOf]; done) | (have := HK4.out; simp [intOf]; omega)
              · obtain rfl : k = 4 := by omega
                have BX := hid (show Below w.heap.size w wr from Below.trans BS.out (Below.mono (EB.out.tr EX.out) (HSZ.out _ BS.out)))
                have EBX := hid (show Ext ws wr from EB.out.tr EX.out)
                have G8X := hid ((EBX.out.block _ (vblk_lt G8S.out)).trans G8S.out)
                have Y8 := hid ((V8S.out.go EBX.out).set (V10.out.go EBX.out))
                have YB := hid (set4_ext BX.out HG8.out (.slice a0 b0 d0) (.slice a1 b1 d1) (.slice a2 b2 d2) (.slice a3 b3 d3))
                obtain ⟨f0, f1, f2, f3⟩ := ver_cells G8X.out
                have ff : ∀ i, wr.frozen? ⟨g8, i, none⟩ = false := fun i => frozen_of_row _ _ _ _ _ G8X.out
                obtain ⟨c0, c1, c2, c3⟩ := ver_cells ((EBX.out.block _ (vblk_lt G10.out)).trans G10.out)
                clear V8S BS G8S V10 G10 EB EX hk hk4 HV8S
                go_wp2_with fail
                go_roundw
                case rel => exact ⟨i + 1, R.2, hlt, by go_num, YB.out, Y8.out, HN.out, fun n hn => by have h1 := (HS1.out n).1; have h2 := HNU.out n hn; omega, fun n hn f hf => by
                  rcases (HS1.out n).2 f hf with h | h
                  · exact HFU.out n hn f h
                  · exact HGE.out.f f h⟩
                case measure => first | (simp [intOf]; done) | (simp [intOf]; omega)
          · have dd : (((nth l i).ed.dels.length : Int) == 0) = false := by rw [beq_eq_false_iff_ne]; omega
            have HD0 := hid hd0
            clear hd0 HG1
            go_wp2_with fail
            go_roundw
            case rel => exact ⟨i + 1, U, hlt, by go_num, BS.out, V8S.out, HST.out, fun n hn => by have h2 := HNU.out n hn; omega, HFU.out⟩
            case measure => first | (simp [intOf]; done) | (simp [intOf]; omega)
        · have dz : (R.1 == 0) = false := by simp [hz]
          have HZ := hid hz
          clear hz HAST HSUB HGRO
          go_wp2_with fail
          go_roundw
          case rel => exact ⟨i + 1, U, hlt, by go_num, BS.out, V8S.out, HST.out, fun n hn => by have h2 := HNU.out n hn; omega, HFU.out⟩
          case measure => first | (simp [intOf]; done) | (simp [intOf]; omega)
      · have dl : decide ((i : Int) < (l.length : Int)) = false := decide_eq_false (by omega)
        have HLN := hid (show ∀ n, n < 4 → (U n).length ≤ 1100 from fun n hn => by have h1 := HNU.out n hn; have h2 := HL.out; omega)
        obtain ⟨A, hA⟩ := HST.out
        have HA := hid hA
        clear hA HST hi HNU HGL HSL HCL HL hml hcapl
        obtain ⟨x0, y0, z0, x1, y1, z1, x2, y2, z2, x3, y3, z3, G8, HV8⟩ := V8.out
        have hle := hid (show (U 0).length = y0 from by
          obtain ⟨_, _, e0, _⟩ := HV8.s0.ex
          simp only [Value.slice.injEq] at e0
          exact e0.2.1.symm)
        have HV8 := hid HV8
        obtain ⟨c0, c1, c2, c3⟩ := ver_cells G8
        clear G8
        cases hp : (ford tr fone == some .gt || ford tr fone == some .eq) with
        | false =>
          have hp1 : (FloatKind.f64.format.order tr 4607182418800017408 == some .gt || FloatKind.f64.format.order tr 4607182418800017408 == some .eq) = false := hp
          clear hp
          go_wp2_with fail
          go_ret
          exact ⟨rfl, HEX.out _ HB.out⟩
        | true =>
          have hp1 : (FloatKind.f64.format.order tr 4607182418800017408 == some .gt || FloatKind.f64.format.order tr 4607182418800017408 == some .eq) = true := hp
          have HP := hid hp
          clear hp
          go_wp2_with fail
          refine (scores_any _ _ _ _ U tr _ [] _ HV8.out (Sl1.nil _ _)).mono ?_
          rintro e wA ⟨va, xa, rfl, hokA, hslA, heA⟩
          obtain ⟨bA, oA, capA, rfl, hcA⟩ := sl_four hslA hokA.1
          have hca := hcA 0 (by decide)
          rw [Nat.add_zero] at hca
          have HONE := hid (one_ok HA.out HLN.out hokA HP.out)
          rw [hle.out] at HONE
          have EA1 := hid heA
          clear hcA hokA hslA heA hp1 c0 c1 c2 c3
          go_wp2_with (go_at_call 55; refine (order_any _ _ _).mono ?_; rintro e w' ⟨rfl, rfl⟩)
          go_ret
          refine ⟨?_, (HEX.out _ HB.out).tr EA1.out⟩
          have h1 := HONE.out
          unfold fone ford at h1
          simp [h1]
end Go.Proofs.Ytoonhcmeklmnlaa
