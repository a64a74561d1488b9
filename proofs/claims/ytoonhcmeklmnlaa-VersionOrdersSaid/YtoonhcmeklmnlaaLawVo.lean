/- The walk of the law VersionOrders. -/
import Derived.Test.YtoonhcmeklmnlaaVrQ
import Derived.Test.YtoonhcmeklmnlaaVrK
import Derived.Deep.CutRange
set_option linter.unusedSimpArgs false
set_option linter.unusedVariables false
set_option linter.unnecessarySimpa false
namespace Go.Proofs.Ytoonhcmeklmnlaa
open Go.RowKit Go.Rg Go.St

/-- a Version in a block -/
def VAt (g : Nat) (U : Lv) (w : World) : Prop := ∃ x0 y0 z0 x1 y1 z1 x2 y2 z2 x3 y3 z3, w.heap[g]? = some (.cells #[.slice x0 y0 z0, .slice x1 y1 z1, .slice x2 y2 z2, .slice x3 y3 z3] 67 (0, 0)) ∧ Ver w (.slice x0 y0 z0) (.slice x1 y1 z1) (.slice x2 y2 z2) (.slice x3 y3 z3) U
theorem VAt.go {g : Nat} {U : Lv} {w w' : World} (h : VAt g U w) (he : Ext w w') : VAt g U w' := by
  obtain ⟨x0, y0, z0, x1, y1, z1, x2, y2, z2, x3, y3, z3, h1, h2⟩ := h
  exact ⟨x0, y0, z0, x1, y1, z1, x2, y2, z2, x3, y3, z3, (he.block _ (vblk_lt h1)).trans h1, h2.go he⟩
theorem VAt.far {g : Nat} {U U' : Lv} {w : World} (h : VAt g U w) {b : Nat} (hb : VAt b U' w) (hne : g ≠ b) {u0 u1 u2 u3 : Value} (j0 : IsSl u0) (j1 : IsSl u1) (j2 : IsSl u2) (j3 : IsSl u3) : VAt g U (set4 w b u0 u1 u2 u3) := by
  obtain ⟨aa0, ab0, ac0, aa1, ab1, ac1, aa2, ab2, ac2, aa3, ab3, ac3, h1, h2⟩ := h
  obtain ⟨xa0, xb0, xc0, xa1, xb1, xc1, xa2, xb2, xc2, xa3, xb3, xc3, x1, x2⟩ := hb
  refine ⟨aa0, ab0, ac0, aa1, ab1, ac1, aa2, ab2, ac2, aa3, ab3, ac3, ?_, ver_set4 h2 ⟨_, _, _, rfl⟩ ⟨_, _, _, rfl⟩ ⟨_, _, _, rfl⟩ ⟨_, _, _, rfl⟩ x1 j0 j1 j2 j3 rfl⟩
  rw [← h1]
  unfold set4
  rw [heap_setCell_other _ _ _ _ hne, heap_setCell_other _ _ _ _ hne, heap_setCell_other _ _ _ _ hne, heap_setCell_other _ _ _ _ hne]
theorem VAt.set {b : Nat} {U U' : Lv} {w : World} (hb : VAt b U' w) {a0 b0 c0 a1 b1 c1 a2 b2 c2 a3 b3 c3} (hv : Ver w (.slice a0 b0 c0) (.slice a1 b1 c1) (.slice a2 b2 c2) (.slice a3 b3 c3) U) : VAt b U (set4 w b (.slice a0 b0 c0) (.slice a1 b1 c1) (.slice a2 b2 c2) (.slice a3 b3 c3)) := by
  obtain ⟨xa0, xb0, xc0, xa1, xb1, xc1, xa2, xb2, xc2, xa3, xb3, xc3, x1, x2⟩ := hb
  exact ⟨_, _, _, _, _, _, _, _, _, _, _, _, set4_heap x1 _ _ _ _, ver_set4 hv ⟨_, _, _, rfl⟩ ⟨_, _, _, rfl⟩ ⟨_, _, _, rfl⟩ ⟨_, _, _, rfl⟩ x1 ⟨_, _, _, rfl⟩ ⟨_, _, _, rfl⟩ ⟨_, _, _, rfl⟩ ⟨_, _, _, rfl⟩ rfl⟩
theorem ver_cong {w : World} {v0 v1 v2 v3 : Value} {V U : Lv} (h : Ver w v0 v1 v2 v3 V) (e : ∀ n, n < 4 → V n = U n) : Ver w v0 v1 v2 v3 U :=
  ⟨e 0 (by omega) ▸ h.s0, e 1 (by omega) ▸ h.s1, e 2 (by omega) ▸ h.s2, e 3 (by omega) ▸ h.s3⟩
theorem StF.lens {A : List File} {V : Lv} (h : StF A V) (hA : A.length ≤ 100) : ∀ n, n < 4 → (V n).length ≤ 100 := fun n hn => by
  rw [(h.lv n hn).2.length_eq]
  exact Nat.le_trans (List.length_filter_le _ _) hA
theorem StF.fits {A : List File} {V : Lv} (h : StF A V) (hA : ∀ f, f ∈ A → FitF f) : ∀ n, n < 4 → ∀ f, f ∈ V n → FitF f := fun n hn f hf => hA f ((h.mem hn).1 hf).1
theorem nil_at (w : World) : Ver w nilV nilV nilV nilV noneV := ⟨SlS.nil _ _ _, SlS.nil _ _ _, SlS.nil _ _ _, SlS.nil _ _ _⟩
/-- one more file, if it is not refused -/
theorem more_ok {A : List File} {V : Lv} (h : StF A V) {f : File} (hz : (applyF V (laysF [f])).1 = 0) : StF (f :: A) (applyF V (laysF [f])).2 := by
  rw [apply_one h f] at hz ⊢
  by_cases h1 : fileC f ≠ 0
  · rw [if_pos h1] at hz; exact absurd hz h1
  · rw [if_neg h1] at hz ⊢
    have h0 : fileC f = 0 := by simpa using h1
    by_cases h2 : addE V f ≠ 0
    · rw [if_pos h2] at hz; exact absurd hz h2
    · rw [if_neg h2]
      exact h.add h0 ((addE_iff h h0).1 (by simpa using h2))
theorem more_yes {A : List File} {V : Lv} (h : StF A V) {f : File} (hf : fileC f = 0) (hc : ∀ g, g ∈ A → Compat f g) : (applyF V (laysF [f])).1 = 0 := by
  rw [apply_one h f, if_neg (by rw [hf]; decide), if_neg (by rw [(addE_iff h hf).2 hc]; decide)]
theorem slS_takeF {w : World} {a : Option Addr} {m cap : Nat} {xs : List File} (h : SlFile w (.slice a m cap) xs) (n : Nat) (hn : n ≤ xs.length) : SlFile w (.slice a n cap) (xs.take n) := by
  obtain ⟨a', c', e, h0, h1, h2⟩ := h.ex
  simp only [Value.slice.injEq] at e
  obtain ⟨rfl, rfl, rfl⟩ := e
  have hl : (xs.take n).length = n := by rw [List.length_take]; omega
  refine ⟨⟨a, cap, by rw [hl], by omega, h1, fun hp => ?_⟩⟩
  obtain ⟨b, off, e2, hc⟩ := h2 (by omega)
  refine ⟨b, off, e2, fun i hi j hj => ?_⟩
  rw [hc i (by omega) j hj]
  congr 2
  rw [nth_eq _ _ hi, nth_eq _ _ (by omega), List.getElem_take]
set_option maxRecDepth 100000 in
set_option maxHeartbeats 32000000 in
theorem versionOrders_walk (v0 : Value) (l0 : List File) (w : World) (h0 : SlFile w v0 l0) (hf0 : ∀ f, f ∈ l0 → FitF f) :
    Calls Try.prog 12 #[v0] w (AwakeP w) := by
  obtain ⟨a0, cap0, rfl, hcap0, hm0, _⟩ := h0.ex
  have H0 := hid h0
  have HF0 := hid hf0
  unfold maxLen at hm0
  clear h0 hf0
  go_enter Try.func12, Try.ntmps12
  go_wp2_with fail
  refine (awake14 _).mono ?_
  rintro e wa ⟨rfl, hea⟩
  have EA := hid hea
  clear hea
  go_upto_if 19 with fail
  go_cut [0] from 17 to 21 (fun v wx => wx = wa ∧ ∃ l : List File, l.length ≤ 100 ∧ (∀ x, x ∈ l → FitF x) ∧ SlFile w v l)
  case first =>
    by_cases hlt : 100 < l0.length
    · have hd : decide ((100 : Int) < (l0.length : Int)) = true := decide_eq_true (by omega)
      go_wp2_with fail
      go_meet
      case rel => exact ⟨rfl, l0.take 100, by rw [List.length_take]; omega, fun x hx => HF0.out x (List.mem_of_mem_take hx), slS_takeF H0.out 100 (Nat.le_of_lt hlt)⟩
    · have hd : decide ((100 : Int) < (l0.length : Int)) = false := decide_eq_false (by omega)
      go_wp2_with fail
      go_meet
      case rel => exact ⟨rfl, l0, by omega, HF0.out, H0.out⟩
  case rest =>
    obtain ⟨rfl, l, hl, hfl, hsl⟩ := hcut
    clear HF0 H0 hm0 hcap0
    obtain ⟨al, cpl, rfl, hcapl, hml, hcl⟩ := hsl.ex
    have HCL := hid hcl
    unfold maxLen at hml
    have HFL := hid hfl
    have HSL := hid hsl
    clear hfl hsl hcl
    go_wp2_with fail
    have hs1 : (wc.alloc (Obj.cells #[nilV, nilV, nilV, nilV] 67)).heap.size = wc.heap.size + 1 := alloc_size _ _
    have V4 := hid (show VAt wc.heap.size noneV ((wc.alloc (Obj.cells #[nilV, nilV, nilV, nilV] 67)).alloc (Obj.cells #[nilV, nilV, nilV, nilV] 67)) from VAt.go ⟨_, _, _, _, _, _, _, _, _, _, _, _, heap_alloc_new wc _, nil_at _⟩ ((Ext.rfl _).al _))
    have V5 := hid (show VAt (wc.heap.size + 1) noneV ((wc.alloc (Obj.cells #[nilV, nilV, nilV, nilV] 67)).alloc (Obj.cells #[nilV, nilV, nilV, nilV] 67)) from ⟨_, _, _, _, _, _, _, _, _, _, _, _, by rw [← hs1]; exact heap_alloc_new _ _, nil_at _⟩)
    have E2 := hid (show Ext w ((wc.alloc (Obj.cells #[nilV, nilV, nilV, nilV] 67)).alloc (Obj.cells #[nilV, nilV, nilV, nilV] 67)) from (EA.out.al _).al _)
    have HG4 := hid (show w.heap.size ≤ wc.heap.size from EA.out.size)
    have HEX := hid (show ∀ w', Below w.heap.size w w' → Ext w w' from fun _ h => h)
    have HSZ := hid (show ∀ w', Below w.heap.size w w' → w.heap.size ≤ w'.heap.size from fun _ h => h.size)
    clear hs1
    generalize (wc.alloc (Obj.cells #[nilV, nilV, nilV, nilV] 67)).alloc (Obj.cells #[nilV, nilV, nilV, nilV] 67) = w2 at *
    obtain ⟨g5, hg5⟩ : ∃ g5, g5 = wc.heap.size + 1 := ⟨_, rfl⟩
    rw [← hg5] at V5 ⊢
    have HG5 := hid (show wc.heap.size < g5 by omega)
    clear hg5 EA
    generalize wc.heap.size = g4 at *
    go_loopw [6] (fun t wr => ∃ (i : Nat) (U : Lv), i ≤ l.length ∧ t = .int .i64 i ∧ Below w.heap.size w wr ∧ VAt g4 U wr ∧ VAt g5 noneV wr ∧ StF (l.take i).reverse U) (fun t _ => l.length - (intOf t).toNat)
    case atStart => exact ⟨0, noneV, Nat.zero_le _, rfl, E2.out, V4.out, V5.out, StF.nil⟩
    case round =>
      clear V4 V5 E2
      obtain ⟨i, U, hi, rfl, hb, v4, v5, hst⟩ := hrel
      have HB := hid hb
      have V4 := hid v4
      have V5 := hid v5
      have HST := hid hst
      clear hb v4 v5 hst
      by_cases hlt : i < l.length
      · have dl : decide ((i : Int) < (l.length : Int)) = true := decide_eq_true (by omega)
        obtain ⟨bE, oE, rfl, hcell⟩ := HCL.out (by omega)
        have HRA := hid (show ∀ w', Ext w w' → w'.rangeAt bE (oE + i * 9) (eFile (nth l i)) from fun w' he q v hv => by
          have hq : q < 9 := (List.getElem?_eq_some_iff.1 hv).1
          exact (ext_cellq he (hcell i hlt q hq) hq rfl).trans hv)
        have HFF := hid (HFL.out _ (nth_mem l i hlt))
        have HFU := hid (HST.out.fits fun f hf => HFL.out f (List.mem_of_mem_take (List.mem_reverse.1 hf)))
        have HLU := hid (HST.out.lens (by rw [List.length_reverse, List.length_take]; omega))
        have HTK := hid (show (l.take (i + 1)).reverse = nth l i :: (l.take i).reverse by rw [take_succ_nth _ _ hlt, List.reverse_append]; rfl)
        clear hcell
        generalize nth l i = F at *
        obtain ⟨R, HRR⟩ : ∃ R, Hid (applyF U (laysF [F]) = R) := ⟨_, rfl⟩
        obtain ⟨x0, y0, z0, x1, y1, z1, x2, y2, z2, x3, y3, z3, G4, HV4⟩ := V4.out
        have HV4 := hid HV4
        have G4 := hid G4
        have wr_E := hid (HEX.out _ HB.out)
        go_wp2_with fail
        refine wp_drawV (RgO 34 35 36 28 37 7 wr F R.1 R.2) (by kernel_rfl) (by kernel_rfl) (fun w9 he => RgO.start he) ?_
        refine rgv_read 29 [34, 35, 36, 28, 37, 7] (RgO.keep (by decide) (by decide) (by decide) (by decide) (by decide) (by decide) (by decide)) (by rfl) (fun L p w hi hC hL => ob_loadrow (cs := #[.slice x0 y0 z0, .slice x1 y1 z1, .slice x2 y2 z2, .slice x3 y3 z3]) (by rfl) (by rfl) (fun w' he => (he.block _ (Nat.lt_of_lt_of_le (vblk_lt G4.out) hi.b0.size)).trans ((hi.b0.block _ (vblk_lt G4.out)).trans G4.out)) Try.underlying67 rfl (by kernel_rfl)) rfl (by rfl) ?_
        refine rgv_read 30 [34, 35, 36, 28, 37, 7] (RgO.keep (by decide) (by decide) (by decide) (by decide) (by decide) (by decide) (by decide)) (by rfl) (fun L p w hi hC hL => ob_move (by rfl) (by rfl)) rfl (by rfl) ?_
        refine rgv_read 31 [34, 35, 36, 28, 37, 7] (RgO.keep (by decide) (by decide) (by decide) (by decide) (by decide) (by decide) (by decide)) (by rfl) (fun L p w hi hC hL => ob_move (by rfl) (by rfl)) rfl (by rfl) ?_
        refine rgv_read 32 [34, 35, 36, 28, 37, 7] (RgO.keep (by decide) (by decide) (by decide) (by decide) (by decide) (by decide) (by decide)) (by rfl) (fun L p w hi hC hL => ob_index 9 (oE + i * 9) (by rfl) (by rfl) (by rfl) Try.underlying64 (by kernel_rfl) (Int.natCast_nonneg i) (Int.ofNat_lt.2 hlt) (by rw [Int.toNat_natCast])) rfl (by rfl) ?_
        refine rgv_read 33 [34, 35, 36, 28, 37, 7] (RgO.keep (by decide) (by decide) (by decide) (by decide) (by decide) (by decide) (by decide)) (by rfl) (fun L p w hi hC hL => ob_loadmid (cs := eFile F) (by rfl) (by rfl) (fun w' he => HRA.out _ (Ext.tr wr_E.out (Ext.tr hi.b0 he))) Try.underlying80 rfl (by kernel_rfl)) rfl (by rfl) ?_
        refine rgv_eff anyV free_any rfl (fun a L w hx hi hN hC hL he => ?_) ⟨by rfl, ?_⟩
        · rw [exec_build1 F _ _ _ _ _ _ _ _ (hx (.tmp 33) (by simp [Op.operands]) _ rfl)]
          exact ⟨trivial, hi.slot1 hL ((Ext.rfl w).al _) (fun h => absurd rfl h) (fun h => put_far (by decide)) (fun h => put_far (by decide)) (fun h => put_far (by decide)) (fun h => put_far (by decide)) (fun h => put_far (by decide)) (by decide) (fun _ => ⟨_, put_at (show a.tmps.size = 96 from hN) (by decide), heap_alloc_new w _⟩) (fun h => by cases h) (fun h => by cases h) (fun h => by cases h) (fun h => by cases h) (fun h => by cases h) (fun h => by cases h)⟩
        refine rgv_eff anyV free_any rfl (fun a L w hx hi hN hC hL he => ?_) ⟨by rfl, ?_⟩
        · have h2 : L 5 = true := he ⟨5, .data⟩ (by simp) rfl
          have h4 : L 7 = false := (by cases h : L 7 with | false => rfl | true => (have := hC 7 _ rfl h ⟨6, .data⟩ (by simp) rfl; rw [hL] at this; cases this))
          obtain ⟨b, e1, e2⟩ := hi.b2 h2 h4
          rw [exec_build5 w _ _ _ _ _ _ (show a.eval (.tmp 34) = _ from e1)]
          exact ⟨trivial, hi.slot1 hL (Ext.rfl w) (fun h => put_far (by decide)) (fun h => absurd rfl h) (fun h => put_far (by decide)) (fun h => put_far (by decide)) (fun h => put_far (by decide)) (fun h => put_far (by decide)) (by decide) (fun h => by cases h) (fun _ => ⟨b, put_at (show a.tmps.size = 96 from hN) (by decide), e2⟩) (fun h => by cases h) (fun h => by cases h) (fun h => by cases h) (fun h => by cases h) (fun h => by cases h)⟩
        refine rgv_eff anyV free_any rfl (fun a L w hx hi hN hC hL he => ?_) ⟨by rfl, ?_⟩
        · have h3 : L 6 = true := he ⟨6, .data⟩ (by simp) rfl
          have h5 : L 8 = false := (by cases h : L 8 with | false => rfl | true => (have := hC 8 _ rfl h ⟨7, .data⟩ (by simp) rfl; rw [hL] at this; cases this))
          have h6 : L 9 = false := by cases h : L 9 with | false => rfl | true => (have := hC 9 _ rfl h ⟨8, .data⟩ (by simp) rfl; rw [h5] at this; cases this)
          obtain ⟨b, e1, e2⟩ := hi.b3 h3 hL
          rw [exec_call rfl #[.agg #[.slice x0 y0 z0, .slice x1 y1 z1, .slice x2 y2 z2, .slice x3 y3 z3], .agg #[.int .u64 0, .int .u64 0, .int .u64 0, nilV, .slice (some ⟨b, 0, none⟩) 1 1]] (by simp only [List.map_toArray, List.map_cons, List.map_nil]; rw [hx (.tmp 29) (by simp [Op.operands, Call.operands]) _ rfl, show a.eval (.tmp 35) = _ from e1]) cf_apply]
          refine (apply_in _ _ _ _ U (laysF [F]) nilV (.slice (some ⟨b, 0, none⟩) 1 1) w (HV4.out.go hi.b0) HFU.out (fun n hn => Nat.le_trans (HLU.out n hn) (by decide)) (SlS.nil _ _ _) (sl_at F e2) (fun f hf => by rw [List.mem_singleton.1 hf]; exact HFF.out)).mono ?_
          rintro e wz ⟨r0, r1, r2, r3, rfl, hvz, hez⟩
          rw [HRR.out] at hvz ⊢
          obtain ⟨a0, b0, d0, rfl⟩ := isSl_of hvz.s0
          obtain ⟨a1, b1, d1, rfl⟩ := isSl_of hvz.s1
          obtain ⟨a2, b2, d2, rfl⟩ := isSl_of hvz.s2
          obtain ⟨a3, b3, d3, rfl⟩ := isSl_of hvz.s3
          exact ⟨_, rfl, trivial, hi.slot1 hL hez (fun h => put_far (by decide)) (fun h => put_far (by decide)) (fun h => absurd rfl h) (fun h => put_far (by decide)) (fun h => put_far (by decide)) (fun h => put_far (by decide)) (by decide) (fun h => by cases h) (fun h => by cases h) (fun _ => ⟨⟨_, _, _, _, _, _, _, _, _, _, _, _, put_at (show a.tmps.size = 96 from hN) (by decide), hvz⟩, h5, h6⟩) (fun h => by cases h) (fun h => by cases h) (fun h => by cases h) (fun h => by cases h)⟩
        refine rgv_eff anyV free_any rfl (fun a L w hx hi hN hC hL he => ?_) ⟨by rfl, ?_⟩
        · have h4 : L 7 = true := he ⟨7, .data⟩ (by simp) rfl
          rw [exec_move]
          exact ⟨trivial, hi.slot1 hL (Ext.rfl w) (fun h => put_far (by decide)) (fun h => put_far (by decide)) (fun h => put_far (by decide)) (fun h => absurd rfl h) (fun h => put_far (by decide)) (fun h => put_far (by decide)) (by decide) (fun h => by cases h) (fun h => by cases h) (fun h => by cases h) (fun _ => ⟨h4, put_at (show a.tmps.size = 96 from hN) (by decide)⟩) (fun h => by cases h) (fun h => by cases h) (fun h => by cases h)⟩
        refine rgv_eff anyV free_any rfl (fun a L w hx hi hN hC hL he => ?_) ⟨by rfl, ?_⟩
        · have h5 : L 8 = true := he ⟨8, .data⟩ (by simp) rfl
          obtain ⟨h4, e5⟩ := hi.b5 h5
          obtain ⟨a0, b0, d0, a1, b1, d1, a2, b2, d2, a3, b3, d3, e4, hvz⟩ := hi.b4 h4
          rw [exec_extract (i := 0) (show a.eval (.tmp 28) = _ from e5.trans e4) rfl]
          exact ⟨trivial, hi.slot1 hL (Ext.rfl w) (fun h => put_far (by decide)) (fun h => put_far (by decide)) (fun h => put_far (by decide)) (fun h => put_far (by decide)) (fun h => absurd rfl h) (fun h => put_far (by decide)) (by decide) (fun h => by cases h) (fun h => by cases h) (fun h => by cases h) (fun h => by cases h) (fun _ => ⟨h4, by rw [put_at (show a.tmps.size = 96 from hN) (by decide)]; exact e4⟩) (fun h => by cases h) (fun h => by cases h)⟩
        refine rgv_eff (.ex (.int .i64 R.1)) (free_ex _) rfl (fun a L w hx hi hN hC hL he => ?_) ⟨by rfl, ?_⟩
        · have h5 : L 8 = true := he ⟨8, .data⟩ (by simp) rfl
          obtain ⟨h4, e5⟩ := hi.b5 h5
          obtain ⟨a0, b0, d0, a1, b1, d1, a2, b2, d2, a3, b3, d3, e4, hvz⟩ := hi.b4 h4
          rw [exec_extract (i := 1) (show a.eval (.tmp 28) = _ from e5.trans e4) rfl]
          exact ⟨rfl, RgO.keep (by decide) (by decide) (by decide) (by decide) (by decide) (by decide) (by decide) L _ _ w w (fun t ht => (by simp at ht; rcases ht with rfl | rfl | rfl | rfl | rfl | rfl <;> exact (put_far (by decide)).symm)) hi (Ext.rfl w)⟩
        refine rgv_eff anyV free_any rfl (fun a L w hx hi hN hC hL he => ?_) ⟨by rfl, ?_⟩
        · have h9 : L 12 = false := (by cases h : L 12 with | false => rfl | true => (have := hC 12 _ rfl h ⟨11, .data⟩ (by simp) rfl; rw [hL] at this; cases this))
          rw [exec_alloc4]
          exact ⟨trivial, hi.slot1 hL ((Ext.rfl w).al _) (fun h => put_far (by decide)) (fun h => put_far (by decide)) (fun h => put_far (by decide)) (fun h => put_far (by decide)) (fun h => put_far (by decide)) (fun h => absurd rfl h) (by decide) (fun h => by cases h) (fun h => by cases h) (fun h => by cases h) (fun h => by cases h) (fun h => by cases h) (fun _ => ⟨_, put_at (show a.tmps.size = 96 from hN) (by decide), hi.b0.size, heap_alloc_new w _⟩) (fun _ => h9)⟩
        refine rgv_eff (.ex undef) (free_ex _) rfl (fun a L w hx hi hN hC hL he => ?_) ?_
        · have h6 : L 9 = true := he ⟨9, .data⟩ (by simp) rfl
          have h8 : L 11 = true := he ⟨11, .data⟩ (by simp) rfl
          obtain ⟨h4, e6⟩ := hi.b6 h6
          obtain ⟨a0, b0, d0, a1, b1, d1, a2, b2, d2, a3, b3, d3, e4, hvz⟩ := hi.b4 h4
          have e7 := tup_inj (e6.symm.trans e4)
          obtain ⟨b, q1, q2, q3⟩ := hi.b8 h8 hL
          rw [exec_store (show a.eval (.tmp 7) = _ from q1) (show a.eval (.tmp 37) = _ from e7) (run_store4 w b a0 a1 a2 a3 b0 b1 b2 b3 d0 d1 d2 d3 q3)]
          exact ⟨rfl, hi.store h4 h8 hL (fun t ht => rfl) q1 hvz⟩
        refine rgv_read 8 [34, 35, 36, 28, 37, 7] (RgO.keep (by decide) (by decide) (by decide) (by decide) (by decide) (by decide) (by decide)) (by rfl) (fun L p w hi hC hL => ob_assign (by rfl) (by rfl)) rfl (by rfl) ?_
        refine rgv_end ?_
        intro L ws hall
        simp only [asg, List.set_cons_zero, List.set_cons_succ, List.map_cons, List.map_nil, opens, anyV]
        intro v7 _ v28 _ v34 _ v35 _ v36 _ v37 _ hi1
        obtain ⟨g7, u0, u1, u2, u3, e7, l7, G7, hv7⟩ := hi1.b9 (hall 12 (by decide))
        have e7' : v7 = .pointer (some ⟨g7, 0, none⟩) := e7
        subst e7'
        obtain ⟨p0, q0, r0, rfl⟩ := isSl_of hv7.s0
        obtain ⟨p1, q1, r1, rfl⟩ := isSl_of hv7.s1
        obtain ⟨p2, q2, r2, rfl⟩ := isSl_of hv7.s2
        obtain ⟨p3, q3, r3, rfl⟩ := isSl_of hv7.s3
        have ES := hid hi1.b0
        have BS := hid (show Below w.heap.size w ws from Below.trans HB.out (Below.mono ES.out (HSZ.out _ HB.out)))
        have V4S := hid (V4.out.go ES.out)
        have V5S := hid (V5.out.go ES.out)
        have V7 := hid hv7
        obtain ⟨c0, c1, c2, c3⟩ := ver_cells G7
        clear hall e7 hi1 V4 V5 HV4 HB wr_E G7 hv7 ES
        by_cases hz : R.1 = 0
        · have dz : (R.1 != 0) = false := by simp [hz]
          have HN := hid (show StF (F :: (l.take i).reverse) R.2 from by rw [← HRR.out]; exact more_ok HST.out (by rw [HRR.out]; exact hz))
          have HZ := hid hz
          clear hz
          obtain ⟨s0, t0, a0', s1, t1, a1', s2, t2, a2', s3, t3, a3', G4S, _⟩ := V4S.out
          have G4S := hid G4S
          have ff : ∀ i, ws.frozen? ⟨g4, i, none⟩ = false := fun i => frozen_of_row _ _ _ _ _ G4S.out
          obtain ⟨d0, d1, d2, d3⟩ := ver_cells G4S.out
          have Y4 := hid (V4S.out.set V7.out)
          have Y5 := hid (V5S.out.far V4S.out (Nat.ne_of_gt HG5.out) ⟨_, _, _, rfl⟩ ⟨_, _, _, rfl⟩ ⟨_, _, _, rfl⟩ ⟨_, _, _, rfl⟩ : VAt g5 noneV (set4 ws g4 (.slice p0 q0 r0) (.slice p1 q1 r1) (.slice p2 q2 r2) (.slice p3 q3 r3)))
          have YB := hid (set4_ext BS.out HG4.out (.slice p0 q0 r0) (.slice p1 q1 r1) (.slice p2 q2 r2) (.slice p3 q3 r3))
          clear V4S V5S BS G4S V7
          go_wp2_with fail
          go_roundw
          case rel => exact ⟨i + 1, R.2, hlt, by go_num, YB.out, Y4.out, Y5.out, by rw [HTK.out]; exact HN.out⟩
          case measure => first | (simp [intOf]; done) | (simp [intOf]; omega)
        · have dz : (R.1 != 0) = true := by simp [hz]
          have HZ := hid hz
          clear hz
          go_wp2_with fail
          go_ret
          exact ⟨rfl, HEX.out _ BS.out⟩
      · have dl : decide ((i : Int) < (l.length : Int)) = false := decide_eq_false (by omega)
        obtain rfl : i = l.length := by omega
        rw [List.take_length] at HST
        have HOK := hid (show ∀ f, f ∈ l → fileC f = 0 from fun f hf => HST.out.ok f (List.mem_reverse.2 hf))
        have HPW := hid (show l.Pairwise Compat from (List.pairwise_reverse.1 HST.out.pw).imp fun h => h.symm)
        have HLA := hid (HST.out.lens (by rw [List.length_reverse]; exact hl))
        clear hlt dl hi
        go_wp2_with fail
        go_loopw [9] (fun t wr => ∃ (j : Nat) (z : Int) (U2 : Lv), z = (j : Int) - 1 ∧ j ≤ l.length ∧ t = .int .i64 z ∧ Below w.heap.size w wr ∧ VAt g4 U wr ∧ VAt g5 U2 wr ∧ StF (l.drop j) U2) (fun t _ => (intOf t + 1).toNat)
        case atStart => exact ⟨l.length, (l.length : Int) - 1, noneV, rfl, Nat.le_refl _, by go_num, HB.out, V4.out, V5.out, by rw [List.drop_length]; exact StF.nil⟩
        case round =>
          clear HB V4 V5
          obtain ⟨j, z, U2, hz, hj, rfl, hb, v4, v5, hst⟩ := hrel
          have HB := hid hb
          have V4 := hid v4
          have V5 := hid v5
          have HS2 := hid hst
          clear hb v4 v5 hst
          rcases j with _ | k
          · obtain rfl : z = -1 := by omega
            clear hz hj
            rw [List.drop_zero] at HS2
            have HALL := hid (apply_all hl HOK.out HPW.out)
            obtain ⟨R, HRR⟩ : ∃ R, Hid (applyF noneV (laysF l) = R) := ⟨_, rfl⟩
            rw [HRR.out] at HALL
            have wr_E := hid (HEX.out _ HB.out)
            go_wp2_with fail
            refine (apply_in _ _ _ _ noneV (laysF l) nilV _ _ (nil_at _) (fun n _ f hf => by cases hf) (fun n _ => Nat.zero_le _) (SlS.nil _ _ _) (HSL.out.file wr_E.out) HFL.out).mono ?_
            rintro e ws ⟨r0, r1, r2, r3, rfl, hvz, hez⟩
            rw [HRR.out] at hvz ⊢
            obtain ⟨p0, q0, s0, rfl⟩ := isSl_of hvz.s0
            obtain ⟨p1, q1, s1, rfl⟩ := isSl_of hvz.s1
            obtain ⟨p2, q2, s2, rfl⟩ := isSl_of hvz.s2
            obtain ⟨p3, q3, s3, rfl⟩ := isSl_of hvz.s3
            have hz : R.1 = 0 := HALL.out.1
            rw [hz]
            clear hz
            go_upto_region 21 with fail
            have V12 := hid (show VAt ws.heap.size R.2 (ws.alloc (Obj.cells #[.slice p0 q0 s0, .slice p1 q1 s1, .slice p2 q2 s2, .slice p3 q3 s3] 67)) from ⟨_, _, _, _, _, _, _, _, _, _, _, _, heap_alloc_new ws _, hvz.go ((Ext.rfl ws).al _)⟩)
            have ES := hid (hez.al (Obj.cells #[.slice p0 q0 s0, .slice p1 q1 s1, .slice p2 q2 s2, .slice p3 q3 s3] 67))
            clear hvz hez
            generalize ws.alloc (Obj.cells #[.slice p0 q0 s0, .slice p1 q1 s1, .slice p2 q2 s2, .slice p3 q3 s3] 67) = wt at *
            generalize ws.heap.size = g12 at *
            have V4T := hid (V4.out.go ES.out)
            have V5T := hid (V5.out.go ES.out)
            have ET := hid (wr_E.out.tr ES.out)
            clear V4 V5 HB wr_E ES
            obtain ⟨x0, y0, z0, x1, y1, z1, x2, y2, z2, x3, y3, z3, G4, HV4⟩ := V4T.out
            obtain ⟨e0, e1, e2, e3, e4, e5, e6, e7, e8, e9, e10, e11, G5, HV5⟩ := V5T.out
            obtain ⟨f0, f1, f2, f3, f4, f5, f6, f7, f8, f9, f10, f11, G12, HV12⟩ := V12.out
            have HV4 := hid HV4
            have HV5 := hid HV5
            have HV12 := hid HV12
            have HG4C := hid (fun (w' : World) (h : Ext wt w') => ver_cells ((h.block _ (vblk_lt G4)).trans G4))
            have HG12C := hid (fun (w' : World) (h : Ext wt w') => ver_cells ((h.block _ (vblk_lt G12)).trans G12))
            obtain ⟨d0, d1, d2, d3⟩ := ver_cells G5
            obtain ⟨c0, c1, c2, c3⟩ := HG4C.out _ (Ext.rfl wt)
            clear G4 G5 G12 V4T V5T V12
            have HSA := hid (fun n (hn : n < 4) => HS2.out.same HST.out (List.reverse_perm l).symm hn)
            have HSB2 := hid (fun n (hn : n < 4) => HALL.out.2.same HST.out (List.Perm.refl _) hn)
            go_wp2_with fail
            refine (same_in _ _ _ _ _ _ _ _ U U2 _ HV4.out HV5.out HSA.out).mono ?_
            rintro e wu ⟨rfl, heu⟩
            have EU := hid heu
            clear heu c0 c1 c2 c3 d0 d1 d2 d3
            obtain ⟨c0, c1, c2, c3⟩ := HG4C.out _ EU.out
            obtain ⟨d0, d1, d2, d3⟩ := HG12C.out _ EU.out
            go_wp2_with fail
            refine (same_in _ _ _ _ _ _ _ _ U R.2 _ (HV4.out.go EU.out) (HV12.out.go EU.out) HSB2.out).mono ?_
            rintro e wv ⟨rfl, hev⟩
            have EV := hid (EU.out.tr hev)
            clear hev c0 c1 c2 c3 d0 d1 d2 d3
            obtain ⟨c0, c1, c2, c3⟩ := HG4C.out _ EV.out
            go_wp2_with fail
            refine (nums_in _ _ _ _ U _ (HV4.out.go EV.out) (fun n hn => Nat.le_trans (HLA.out n hn) (by decide))).mono ?_
            rintro e wn ⟨vn, no, rfl, hp, hs, hsl, hen⟩
            obtain ⟨an, cn, rfl, _, _, _⟩ := hsl.ex
            have hnl : no.length = l.length := by rw [hp.length_eq, HST.out.len, List.length_reverse]
            have EN := hid (EV.out.tr hen)
            have hnb : ((no.length : Int) == (l.length : Int)) = true := by rw [hnl]; simp
            have hnd : decide (no.length = l.length) = true := decide_eq_true hnl
            have HNL := hid hnl
            clear hp hs hsl hen hnl c0 c1 c2 c3
            go_wp2_with fail
            go_ret
            exact ⟨rfl, ET.out.tr EN.out⟩
          · obtain rfl : z = k := by omega
            clear hz
            have hlt : k < l.length := by omega
            have dl : decide (0 ≤ (k : Int)) = true := decide_eq_true (by omega)
            obtain ⟨bE, oE, rfl, hcell⟩ := HCL.out (by omega)
            have HRA := hid (show ∀ w', Ext w w' → w'.rangeAt bE (oE + k * 9) (eFile (nth l k)) from fun w' he q v hv => by
              have hq : q < 9 := (List.getElem?_eq_some_iff.1 hv).1
              exact (ext_cellq he (hcell k hlt q hq) hq rfl).trans hv)
            have HFF := hid (HFL.out _ (nth_mem l k hlt))
            have HFU := hid (HS2.out.fits fun f hf => HFL.out f (List.mem_of_mem_drop hf))
            have HLU := hid (HS2.out.lens (by rw [List.length_drop]; omega))
            have HDR := hid (show l.drop k = nth l k :: l.drop (k + 1) from drop_cons_nth l k hlt)
            have HYS := hid (more_yes HS2.out (HOK.out _ (nth_mem l k hlt)) (fun g hg => by
              have h1 := HPW.out
              rw [← List.take_append_drop k l, HDR.out, List.pairwise_append] at h1
              exact (List.pairwise_cons.1 h1.2.1).1 g hg))
            clear hcell hj
            generalize nth l k = F at *
            obtain ⟨R, HRR⟩ : ∃ R, Hid (applyF U2 (laysF [F]) = R) := ⟨_, rfl⟩
            obtain ⟨x0, y0, z0, x1, y1, z1, x2, y2, z2, x3, y3, z3, G5, HV5⟩ := V5.out
            have HV5 := hid HV5
            have G5 := hid G5
            have wr_E := hid (HEX.out _ HB.out)
            go_wp2_with fail
            refine wp_drawV (RgO 56 57 58 50 59 10 wr F R.1 R.2) (by kernel_rfl) (by kernel_rfl) (fun w9 he => RgO.start he) ?_
            refine rgv_read 51 [56, 57, 58, 50, 59, 10] (RgO.keep (by decide) (by decide) (by decide) (by decide) (by decide) (by decide) (by decide)) (by rfl) (fun L p w hi hC hL => ob_loadrow (cs := #[.slice x0 y0 z0, .slice x1 y1 z1, .slice x2 y2 z2, .slice x3 y3 z3]) (by rfl) (by rfl) (fun w' he => (he.block _ (Nat.lt_of_lt_of_le (vblk_lt G5.out) hi.b0.size)).trans ((hi.b0.block _ (vblk_lt G5.out)).trans G5.out)) Try.underlying67 rfl (by kernel_rfl)) rfl (by rfl) ?_
            refine rgv_read 52 [56, 57, 58, 50, 59, 10] (RgO.keep (by decide) (by decide) (by decide) (by decide) (by decide) (by decide) (by decide)) (by rfl) (fun L p w hi hC hL => ob_move (by rfl) (by rfl)) rfl (by rfl) ?_
            refine rgv_read 53 [56, 57, 58, 50, 59, 10] (RgO.keep (by decide) (by decide) (by decide) (by decide) (by decide) (by decide) (by decide)) (by rfl) (fun L p w hi hC hL => ob_move (by rfl) (by rfl)) rfl (by rfl) ?_
            refine rgv_read 54 [56, 57, 58, 50, 59, 10] (RgO.keep (by decide) (by decide) (by decide) (by decide) (by decide) (by decide) (by decide)) (by rfl) (fun L p w hi hC hL => ob_index 9 (oE + k * 9) (by rfl) (by rfl) (by rfl) Try.underlying64 (by kernel_rfl) (Int.natCast_nonneg k) (Int.ofNat_lt.2 hlt) (by rw [Int.toNat_natCast])) rfl (by rfl) ?_
            refine rgv_read 55 [56, 57, 58, 50, 59, 10] (RgO.keep (by decide) (by decide) (by decide) (by decide) (by decide) (by decide) (by decide)) (by rfl) (fun L p w hi hC hL => ob_loadmid (cs := eFile F) (by rfl) (by rfl) (fun w' he => HRA.out _ (Ext.tr wr_E.out (Ext.tr hi.b0 he))) Try.underlying80 rfl (by kernel_rfl)) rfl (by rfl) ?_
            refine rgv_eff anyV free_any rfl (fun a L w hx hi hN hC hL he => ?_) ⟨by rfl, ?_⟩
            · rw [exec_build1 F _ _ _ _ _ _ _ _ (hx (.tmp 55) (by simp [Op.operands]) _ rfl)]
              exact ⟨trivial, hi.slot1 hL ((Ext.rfl w).al _) (fun h => absurd rfl h) (fun h => put_far (by decide)) (fun h => put_far (by decide)) (fun h => put_far (by decide)) (fun h => put_far (by decide)) (fun h => put_far (by decide)) (by decide) (fun _ => ⟨_, put_at (show a.tmps.size = 96 from hN) (by decide), heap_alloc_new w _⟩) (fun h => by cases h) (fun h => by cases h) (fun h => by cases h) (fun h => by cases h) (fun h => by cases h) (fun h => by cases h)⟩
            refine rgv_eff anyV free_any rfl (fun a L w hx hi hN hC hL he => ?_) ⟨by rfl, ?_⟩
            · have h2 : L 5 = true := he ⟨5, .data⟩ (by simp) rfl
              have h4 : L 7 = false := (by cases h : L 7 with | false => rfl | true => (have := hC 7 _ rfl h ⟨6, .data⟩ (by simp) rfl; rw [hL] at this; cases this))
              obtain ⟨b, e1, e2⟩ := hi.b2 h2 h4
              rw [exec_build5 w _ _ _ _ _ _ (show a.eval (.tmp 56) = _ from e1)]
              exact ⟨trivial, hi.slot1 hL (Ext.rfl w) (fun h => put_far (by decide)) (fun h => absurd rfl h) (fun h => put_far (by decide)) (fun h => put_far (by decide)) (fun h => put_far (by decide)) (fun h => put_far (by decide)) (by decide) (fun h => by cases h) (fun _ => ⟨b, put_at (show a.tmps.size = 96 from hN) (by decide), e2⟩) (fun h => by cases h) (fun h => by cases h) (fun h => by cases h) (fun h => by cases h) (fun h => by cases h)⟩
            refine rgv_eff anyV free_any rfl (fun a L w hx hi hN hC hL he => ?_) ⟨by rfl, ?_⟩
            · have h3 : L 6 = true := he ⟨6, .data⟩ (by simp) rfl
              have h5 : L 8 = false := (by cases h : L 8 with | false => rfl | true => (have := hC 8 _ rfl h ⟨7, .data⟩ (by simp) rfl; rw [hL] at this; cases this))
              have h6 : L 9 = false := by cases h : L 9 with | false => rfl | true => (have := hC 9 _ rfl h ⟨8, .data⟩ (by simp) rfl; rw [h5] at this; cases this)
              obtain ⟨b, e1, e2⟩ := hi.b3 h3 hL
              rw [exec_call rfl #[.agg #[.slice x0 y0 z0, .slice x1 y1 z1, .slice x2 y2 z2, .slice x3 y3 z3], .agg #[.int .u64 0, .int .u64 0, .int .u64 0, nilV, .slice (some ⟨b, 0, none⟩) 1 1]] (by simp only [List.map_toArray, List.map_cons, List.map_nil]; rw [hx (.tmp 51) (by simp [Op.operands, Call.operands]) _ rfl, show a.eval (.tmp 57) = _ from e1]) cf_apply]
              refine (apply_in _ _ _ _ U2 (laysF [F]) nilV (.slice (some ⟨b, 0, none⟩) 1 1) w (HV5.out.go hi.b0) HFU.out (fun n hn => Nat.le_trans (HLU.out n hn) (by decide)) (SlS.nil _ _ _) (sl_at F e2) (fun f hf => by rw [List.mem_singleton.1 hf]; exact HFF.out)).mono ?_
              rintro e wz ⟨r0, r1, r2, r3, rfl, hvz, hez⟩
              rw [HRR.out] at hvz ⊢
              obtain ⟨a0, b0, d0, rfl⟩ := isSl_of hvz.s0
              obtain ⟨a1, b1, d1, rfl⟩ := isSl_of hvz.s1
              obtain ⟨a2, b2, d2, rfl⟩ := isSl_of hvz.s2
              obtain ⟨a3, b3, d3, rfl⟩ := isSl_of hvz.s3
              exact ⟨_, rfl, trivial, hi.slot1 hL hez (fun h => put_far (by decide)) (fun h => put_far (by decide)) (fun h => absurd rfl h) (fun h => put_far (by decide)) (fun h => put_far (by decide)) (fun h => put_far (by decide)) (by decide) (fun h => by cases h) (fun h => by cases h) (fun _ => ⟨⟨_, _, _, _, _, _, _, _, _, _, _, _, put_at (show a.tmps.size = 96 from hN) (by decide), hvz⟩, h5, h6⟩) (fun h => by cases h) (fun h => by cases h) (fun h => by cases h) (fun h => by cases h)⟩
            refine rgv_eff anyV free_any rfl (fun a L w hx hi hN hC hL he => ?_) ⟨by rfl, ?_⟩
            · have h4 : L 7 = true := he ⟨7, .data⟩ (by simp) rfl
              rw [exec_move]
              exact ⟨trivial, hi.slot1 hL (Ext.rfl w) (fun h => put_far (by decide)) (fun h => put_far (by decide)) (fun h => put_far (by decide)) (fun h => absurd rfl h) (fun h => put_far (by decide)) (fun h => put_far (by decide)) (by decide) (fun h => by cases h) (fun h => by cases h) (fun h => by cases h) (fun _ => ⟨h4, put_at (show a.tmps.size = 96 from hN) (by decide)⟩) (fun h => by cases h) (fun h => by cases h) (fun h => by cases h)⟩
            refine rgv_eff anyV free_any rfl (fun a L w hx hi hN hC hL he => ?_) ⟨by rfl, ?_⟩
            · have h5 : L 8 = true := he ⟨8, .data⟩ (by simp) rfl
              obtain ⟨h4, e5⟩ := hi.b5 h5
              obtain ⟨a0, b0, d0, a1, b1, d1, a2, b2, d2, a3, b3, d3, e4, hvz⟩ := hi.b4 h4
              rw [exec_extract (i := 0) (show a.eval (.tmp 50) = _ from e5.trans e4) rfl]
              exact ⟨trivial, hi.slot1 hL (Ext.rfl w) (fun h => put_far (by decide)) (fun h => put_far (by decide)) (fun h => put_far (by decide)) (fun h => put_far (by decide)) (fun h => absurd rfl h) (fun h => put_far (by decide)) (by decide) (fun h => by cases h) (fun h => by cases h) (fun h => by cases h) (fun h => by cases h) (fun _ => ⟨h4, by rw [put_at (show a.tmps.size = 96 from hN) (by decide)]; exact e4⟩) (fun h => by cases h) (fun h => by cases h)⟩
            refine rgv_eff (.ex (.int .i64 R.1)) (free_ex _) rfl (fun a L w hx hi hN hC hL he => ?_) ⟨by rfl, ?_⟩
            · have h5 : L 8 = true := he ⟨8, .data⟩ (by simp) rfl
              obtain ⟨h4, e5⟩ := hi.b5 h5
              obtain ⟨a0, b0, d0, a1, b1, d1, a2, b2, d2, a3, b3, d3, e4, hvz⟩ := hi.b4 h4
              rw [exec_extract (i := 1) (show a.eval (.tmp 50) = _ from e5.trans e4) rfl]
              exact ⟨rfl, RgO.keep (by decide) (by decide) (by decide) (by decide) (by decide) (by decide) (by decide) L _ _ w w (fun t ht => (by simp at ht; rcases ht with rfl | rfl | rfl | rfl | rfl | rfl <;> exact (put_far (by decide)).symm)) hi (Ext.rfl w)⟩
            refine rgv_eff anyV free_any rfl (fun a L w hx hi hN hC hL he => ?_) ⟨by rfl, ?_⟩
            · have h9 : L 12 = false := (by cases h : L 12 with | false => rfl | true => (have := hC 12 _ rfl h ⟨11, .data⟩ (by simp) rfl; rw [hL] at this; cases this))
              rw [exec_alloc4]
              exact ⟨trivial, hi.slot1 hL ((Ext.rfl w).al _) (fun h => put_far (by decide)) (fun h => put_far (by decide)) (fun h => put_far (by decide)) (fun h => put_far (by decide)) (fun h => put_far (by decide)) (fun h => absurd rfl h) (by decide) (fun h => by cases h) (fun h => by cases h) (fun h => by cases h) (fun h => by cases h) (fun h => by cases h) (fun _ => ⟨_, put_at (show a.tmps.size = 96 from hN) (by decide), hi.b0.size, heap_alloc_new w _⟩) (fun _ => h9)⟩
            refine rgv_eff (.ex undef) (free_ex _) rfl (fun a L w hx hi hN hC hL he => ?_) ?_
            · have h6 : L 9 = true := he ⟨9, .data⟩ (by simp) rfl
              have h8 : L 11 = true := he ⟨11, .data⟩ (by simp) rfl
              obtain ⟨h4, e6⟩ := hi.b6 h6
              obtain ⟨a0, b0, d0, a1, b1, d1, a2, b2, d2, a3, b3, d3, e4, hvz⟩ := hi.b4 h4
              have e7 := tup_inj (e6.symm.trans e4)
              obtain ⟨b, q1, q2, q3⟩ := hi.b8 h8 hL
              rw [exec_store (show a.eval (.tmp 10) = _ from q1) (show a.eval (.tmp 59) = _ from e7) (run_store4 w b a0 a1 a2 a3 b0 b1 b2 b3 d0 d1 d2 d3 q3)]
              exact ⟨rfl, hi.store h4 h8 hL (fun t ht => rfl) q1 hvz⟩
            refine rgv_read 11 [56, 57, 58, 50, 59, 10] (RgO.keep (by decide) (by decide) (by decide) (by decide) (by decide) (by decide) (by decide)) (by rfl) (fun L p w hi hC hL => ob_assign (by rfl) (by rfl)) rfl (by rfl) ?_
            refine rgv_end ?_
            intro L ws hall
            simp only [asg, List.set_cons_zero, List.set_cons_succ, List.map_cons, List.map_nil, opens, anyV]
            intro v10 _ v50 _ v56 _ v57 _ v58 _ v59 _ hi1
            obtain ⟨g10, u0, u1, u2, u3, e10, l10, G10, hv10⟩ := hi1.b9 (hall 12 (by decide))
            have e10' : v10 = .pointer (some ⟨g10, 0, none⟩) := e10
            subst e10'
            obtain ⟨p0, q0, r0, rfl⟩ := isSl_of hv10.s0
            obtain ⟨p1, q1, r1, rfl⟩ := isSl_of hv10.s1
            obtain ⟨p2, q2, r2, rfl⟩ := isSl_of hv10.s2
            obtain ⟨p3, q3, r3, rfl⟩ := isSl_of hv10.s3
            have ES := hid hi1.b0
            have BS := hid (show Below w.heap.size w ws from Below.trans HB.out (Below.mono ES.out (HSZ.out _ HB.out)))
            have V4S := hid (V4.out.go ES.out)
            have V5S := hid (V5.out.go ES.out)
            have V10 := hid hv10
            obtain ⟨c0, c1, c2, c3⟩ := ver_cells G10
            clear hall e10 hi1 V4 V5 HV5 HB wr_E G10 hv10 ES
            have hz : R.1 = 0 := by rw [← HRR.out]; exact HYS.out
            have dz : (R.1 != 0) = false := by simp [hz]
            have HN := hid (show StF (l.drop k) R.2 from by rw [HDR.out, ← HRR.out]; exact more_ok HS2.out HYS.out)
            clear hz
            obtain ⟨s0, t0, a0', s1, t1, a1', s2, t2, a2', s3, t3, a3', G5S, _⟩ := V5S.out
            have G5S := hid G5S
            have ff : ∀ i, ws.frozen? ⟨g5, i, none⟩ = false := fun i => frozen_of_row _ _ _ _ _ G5S.out
            obtain ⟨d0, d1, d2, d3⟩ := ver_cells G5S.out
            have Y5 := hid (V5S.out.set V10.out)
            have Y4 := hid (V4S.out.far V5S.out (Nat.ne_of_lt HG5.out) ⟨_, _, _, rfl⟩ ⟨_, _, _, rfl⟩ ⟨_, _, _, rfl⟩ ⟨_, _, _, rfl⟩ : VAt g4 U (set4 ws g5 (.slice p0 q0 r0) (.slice p1 q1 r1) (.slice p2 q2 r2) (.slice p3 q3 r3)))
            have YB := hid (set4_ext BS.out (Nat.le_trans HG4.out (Nat.le_of_lt HG5.out)) (.slice p0 q0 r0) (.slice p1 q1 r1) (.slice p2 q2 r2) (.slice p3 q3 r3))
            clear V4S V5S BS G5S V10
            go_wp2_with fail
            go_roundw
            case rel => exact ⟨k, (k : Int) - 1, R.2, rfl, Nat.le_of_lt hlt, by go_num, YB.out, Y4.out, Y5.out, HN.out⟩
            case measure => first | (simp [intOf]; done) | (simp [intOf]; omega)
end Go.Proofs.Ytoonhcmeklmnlaa
