/- The walk of the law VersionPlays. -/
import Derived.Test.YtoonhcmeklmnlaaRgJ
import Derived.Deep.CutRange
set_option linter.unusedSimpArgs false
set_option linter.unusedVariables false
set_option linter.unnecessarySimpa false
namespace Go.Proofs.Ytoonhcmeklmnlaa
open Go.RowKit Go.Rg Go.St

theorem cf_vcheck (args : Array Value) (w : World) : (callFunc 42 args).run Try.prog w = .ok (.enter 42 args) w := by kernel_rfl
theorem cf_rvcheck (args : Array Value) (w : World) : (callFunc 43 args).run Try.prog w = .ok (.enter 43 args) w := by kernel_rfl
theorem cf_rapply (args : Array Value) (w : World) : (callFunc 40 args).run Try.prog w = .ok (.enter 40 args) w := by kernel_rfl
/-- a Version in a block -/
def PlAt (g : Nat) (U : Lv) (w : World) : Prop := ∃ aa0 ab0 ac0 aa1 ab1 ac1 aa2 ab2 ac2 aa3 ab3 ac3, w.heap[g]? = some (.cells #[.slice aa0 ab0 ac0, .slice aa1 ab1 ac1, .slice aa2 ab2 ac2, .slice aa3 ab3 ac3] 67 (0, 0)) ∧ Ver w (.slice aa0 ab0 ac0) (.slice aa1 ab1 ac1) (.slice aa2 ab2 ac2) (.slice aa3 ab3 ac3) U
theorem PlAt.go {g : Nat} {U : Lv} {w w' : World} (h : PlAt g U w) (he : Ext w w') : PlAt g U w' := by
  obtain ⟨aa0, ab0, ac0, aa1, ab1, ac1, aa2, ab2, ac2, aa3, ab3, ac3, h1, h2⟩ := h
  exact ⟨aa0, ab0, ac0, aa1, ab1, ac1, aa2, ab2, ac2, aa3, ab3, ac3, (he.block _ (vblk_lt h1)).trans h1, h2.go he⟩
theorem PlAt.far {g : Nat} {U U' : Lv} {w : World} (h : PlAt g U w) {b : Nat} (hb : PlAt b U' w) (hne : g ≠ b) {u0 u1 u2 u3 : Value} (j0 : IsSl u0) (j1 : IsSl u1) (j2 : IsSl u2) (j3 : IsSl u3) : PlAt g U (set4 w b u0 u1 u2 u3) := by
  obtain ⟨aa0, ab0, ac0, aa1, ab1, ac1, aa2, ab2, ac2, aa3, ab3, ac3, h1, h2⟩ := h
  obtain ⟨xa0, xb0, xc0, xa1, xb1, xc1, xa2, xb2, xc2, xa3, xb3, xc3, x1, x2⟩ := hb
  refine ⟨aa0, ab0, ac0, aa1, ab1, ac1, aa2, ab2, ac2, aa3, ab3, ac3, ?_, ver_set4 h2 ⟨_, _, _, rfl⟩ ⟨_, _, _, rfl⟩ ⟨_, _, _, rfl⟩ ⟨_, _, _, rfl⟩ x1 j0 j1 j2 j3 rfl⟩
  rw [← h1]
  unfold set4
  rw [heap_setCell_other _ _ _ _ hne, heap_setCell_other _ _ _ _ hne, heap_setCell_other _ _ _ _ hne, heap_setCell_other _ _ _ _ hne]
theorem PlAt.set {b : Nat} {U U' : Lv} {w : World} (hb : PlAt b U' w) {a0 b0 c0 a1 b1 c1 a2 b2 c2 a3 b3 c3} (hv : Ver w (.slice a0 b0 c0) (.slice a1 b1 c1) (.slice a2 b2 c2) (.slice a3 b3 c3) U) : PlAt b U (set4 w b (.slice a0 b0 c0) (.slice a1 b1 c1) (.slice a2 b2 c2) (.slice a3 b3 c3)) := by
  obtain ⟨xa0, xb0, xc0, xa1, xb1, xc1, xa2, xb2, xc2, xa3, xb3, xc3, x1, x2⟩ := hb
  exact ⟨_, _, _, _, _, _, _, _, _, _, _, _, set4_heap x1 _ _ _ _, ver_set4 hv ⟨_, _, _, rfl⟩ ⟨_, _, _, rfl⟩ ⟨_, _, _, rfl⟩ ⟨_, _, _, rfl⟩ x1 ⟨_, _, _, rfl⟩ ⟨_, _, _, rfl⟩ ⟨_, _, _, rfl⟩ ⟨_, _, _, rfl⟩ rfl⟩
theorem slS_take14 {α : Type} [Inhabited α] {w : World} {a : Option Addr} {m cap sz : Nat} {enc : α → List Value} {xs : List α} (h : SlS w (.slice a m cap) sz enc xs) (n : Nat) (hn : n ≤ xs.length) : SlS w (.slice a n cap) sz enc (xs.take n) := by
  obtain ⟨a', c', e, h0, h1, h2⟩ := h.ex
  simp only [Value.slice.injEq] at e
  obtain ⟨rfl, rfl, rfl⟩ := e
  have hl : (xs.take n).length = n := by rw [List.length_take]; omega
  refine ⟨⟨a, cap, by rw [hl], by omega, h1, fun hp => ?_⟩⟩
  obtain ⟨b, off, e2, hc⟩ := h2 (by omega)
  refine ⟨b, off, e2, fun i hi j hj => ?_⟩
  rw [hc i (by omega) j hj]
  congr 2
  rw [nth_eq _ _ hi, nth_eq _ _ (by omega), List.getElem_take]

theorem slS_takeE {w : World} {a : Option Addr} {m cap sz : Nat} {enc : EdS → List Value} {xs : List EdS} (h : SlS w (.slice a m cap) sz enc xs) (n : Nat) (hn : n ≤ xs.length) : SlS w (.slice a n cap) sz enc (xs.take n) := slS_take14 h n hn

set_option maxRecDepth 100000 in
set_option maxHeartbeats 16000000 in
theorem versionPlays_walk (v0 v1 v2 v3 ve : Value) (V : Lv) (es : List EdS) (w : World) (hV : Ver w v0 v1 v2 v3 V) (hn : ∀ i, i < 4 → (V i).length ≤ 140737488351232) (hfV : ∀ n, n < 4 → ∀ f, f ∈ V n → FitF f)
    (he : SlS w ve 5 eEdS es) (hg : ∀ x, x ∈ es → GoodE w x) : Calls Try.prog 11 #[.agg #[v0, v1, v2, v3], ve] w (AwakeP w) := by
  obtain ⟨aE, capE, rfl, hcapE, hmE, _⟩ := he.ex
  unfold maxLen at hmE
  have HE0 := hid he
  have HG0 := hid hg
  have HFV := hid hfV
  have HN := hid hn
  clear he hg hfV hn
  obtain ⟨va0, vb0, vc0, rfl⟩ := isSl_of hV.s0
  obtain ⟨va1, vb1, vc1, rfl⟩ := isSl_of hV.s1
  obtain ⟨va2, vb2, vc2, rfl⟩ := isSl_of hV.s2
  obtain ⟨va3, vb3, vc3, rfl⟩ := isSl_of hV.s3
  have HV := hid hV
  clear hV
  go_enter Try.func11, Try.ntmps11
  go_wp2_with fail
  obtain ⟨B, HBX, HB0⟩ : ∃ B, Hid (∀ w', Below B w w' → Ext w w') ∧ Hid (B = w.heap.size) := ⟨_, fun _ h => h, rfl⟩
  have HLEB := hid (show ∀ w', Below B w w' → B ≤ w'.heap.size from fun w' h => by rw [HB0.out]; exact h.size)
  have HBX0 := hid (show ∀ w', Ext w w' → Below B w w' from fun w' h => by rw [HB0.out]; exact h)
  have P0 := hid (show PlAt w.heap.size V (w.alloc (Obj.cells #[.slice va0 vb0 vc0, .slice va1 vb1 vc1, .slice va2 vb2 vc2, .slice va3 vb3 vc3] 67)) from ⟨_, _, _, _, _, _, _, _, _, _, _, _, heap_alloc_new w _, HV.out.go ((Ext.rfl w).al _)⟩)
  have EX1 := hid ((Ext.rfl w).al (Obj.cells #[.slice va0 vb0 vc0, .slice va1 vb1 vc1, .slice va2 vb2 vc2, .slice va3 vb3 vc3] 67))
  generalize w.alloc (Obj.cells #[.slice va0 vb0 vc0, .slice va1 vb1 vc1, .slice va2 vb2 vc2, .slice va3 vb3 vc3] 67) = w1 at *
  have HG2 := hid (show B ≤ w.heap.size by rw [HB0.out]; exact Nat.le_refl _)
  generalize w.heap.size = g2 at *
  refine (awake14 _).mono ?_
  rintro e wa ⟨rfl, hea⟩
  have EXA := hid (EX1.out.tr hea)
  have PA := hid (P0.out.go hea)
  clear hea
  obtain ⟨pa0, pb0, pc0, pa1, pb1, pc1, pa2, pb2, pc2, pa3, pb3, pc3, G2, HVA⟩ := PA.out
  have HVA := hid HVA
  have G2 := hid G2
  obtain ⟨c0, c1, c2, c3⟩ := ver_cells G2.out
  go_wp2_with fail
  refine (many14_in _ _ _ _ V _ HVA.out HN.out).mono ?_
  rintro e w2 ⟨rfl, he2⟩
  have EX2 := hid (EXA.out.tr he2)
  have P2 := hid (PA.out.go he2)
  clear he2 c0 c1 c2 c3 HVA G2
  by_cases hm : 1000 < sumL V 4
  · have dm : decide (1000 < sumL V 4) = true := decide_eq_true hm
    rw [dm]
    go_wp2_with fail
    go_ret
    exact ⟨rfl, EX2.out⟩
  have dm : decide (1000 < sumL V 4) = false := decide_eq_false hm
  rw [dm]
  have HNV := hid (sumL_each (Nat.le_of_not_lt hm))
  clear hm dm
  go_upto_if 21 with fail
  go_cut [1] from 19 to 23 (fun v wx => wx = w2 ∧ ∃ l : List EdS, l.length ≤ 10 ∧ (∀ x, x ∈ l → GoodE w x) ∧ SlS w v 5 eEdS l)
  case first =>
    by_cases hlt : 10 < es.length
    · have hd : decide ((10 : Int) < (es.length : Int)) = true := decide_eq_true (by omega)
      go_wp2_with fail
      go_meet
      case rel => exact ⟨rfl, es.take 10, by rw [List.length_take]; omega, fun x hx => HG0.out x (List.mem_of_mem_take hx), slS_takeE HE0.out 10 (Nat.le_of_lt hlt)⟩
    · have hd : decide ((10 : Int) < (es.length : Int)) = false := decide_eq_false (by omega)
      go_wp2_with fail
      go_meet
      case rel => exact ⟨rfl, es, by omega, HG0.out, HE0.out⟩
  case rest =>
    obtain ⟨rfl, l, hl, hgl, hsl⟩ := hcut
    clear HG0 hmE hcapE
    obtain ⟨al, cpl, rfl, hcapl, hml, hcl⟩ := hsl.ex
    have HCL := hid hcl
    clear hcl
    unfold maxLen at hml
    have HL := hid hl
    have HGL := hid hgl
    have HSL := hid hsl
    clear hgl hsl hl
    obtain ⟨pa0, pb0, pc0, pa1, pb1, pc1, pa2, pb2, pc2, pa3, pb3, pc3, G2, HVA⟩ := P2.out
    have HVA := hid HVA
    have G2 := hid G2
    obtain ⟨c0, c1, c2, c3⟩ := ver_cells G2.out
    go_wp2_with fail
    refine (own_in _ _ _ _ V _ HVA.out (fun n hn => Nat.le_trans (HNV.out n hn) (by decide))).mono ?_
    rintro e w3 ⟨r0, r1, r2, r3, rfl, hv3, he3⟩
    clear c0 c1 c2 c3
    obtain ⟨ra0, rb0, rc0, rfl⟩ := isSl_of hv3.s0
    obtain ⟨ra1, rb1, rc1, rfl⟩ := isSl_of hv3.s1
    obtain ⟨ra2, rb2, rc2, rfl⟩ := isSl_of hv3.s2
    obtain ⟨ra3, rb3, rc3, rfl⟩ := isSl_of hv3.s3
    have P3 := hid (P2.out.go (he3.al (Obj.cells #[.slice ra0 rb0 rc0, .slice ra1 rb1 rc1, .slice ra2 rb2 rc2, .slice ra3 rb3 rc3] 67)))
    have E3 := hid (EX2.out.tr (he3.al (Obj.cells #[.slice ra0 rb0 rc0, .slice ra1 rb1 rc1, .slice ra2 rb2 rc2, .slice ra3 rb3 rc3] 67)))
    have E23 := hid (he3.al (Obj.cells #[.slice ra0 rb0 rc0, .slice ra1 rb1 rc1, .slice ra2 rb2 rc2, .slice ra3 rb3 rc3] 67))
    have P6 := hid (show PlAt w3.heap.size V (w3.alloc (Obj.cells #[.slice ra0 rb0 rc0, .slice ra1 rb1 rc1, .slice ra2 rb2 rc2, .slice ra3 rb3 rc3] 67)) from ⟨_, _, _, _, _, _, _, _, _, _, _, _, heap_alloc_new w3 _, hv3.go ((Ext.rfl w3).al _)⟩)
    have HG6 := hid (show B ≤ w3.heap.size from Nat.le_trans HG2.out (Nat.le_trans (Nat.le_of_lt (vblk_lt G2.out)) he3.size))
    have HNE := hid (show w3.heap.size ≠ g2 from Nat.ne_of_gt (Nat.lt_of_lt_of_le (vblk_lt G2.out) he3.size))
    clear hv3 he3 G2 HVA
    go_wp2_with fail
    generalize w3.alloc (Obj.cells #[.slice ra0 rb0 rc0, .slice ra1 rb1 rc1, .slice ra2 rb2 rc2, .slice ra3 rb3 rc3] 67) = w4 at *
    generalize w3.heap.size = g6 at *
    go_loopw [7] (fun t wr => ∃ (i : Nat) (U : Lv), i ≤ l.length ∧ t = .int .i64 i ∧ Below B w wr ∧ PlAt g2 U wr ∧ PlAt g6 U wr ∧ (∀ n, n < 4 → (U n).length ≤ 1000 + 100 * i) ∧ (∀ n, n < 4 → ∀ f, f ∈ U n → FitF f)) (fun t _ => l.length - (intOf t).toNat)
    case atStart => exact ⟨0, V, Nat.zero_le _, rfl, HBX0.out _ E3.out, P3.out, P6.out, fun n hn => HNV.out n hn, HFV.out⟩
    case round =>
      obtain ⟨i, U, hi, rfl, hb, p2, p6, hnu, hfu⟩ := hrel
      have HB := hid hb
      have P2 := hid p2
      have P6 := hid p6
      have HNU := hid hnu
      have HFU := hid hfu
      clear hb p2 p6 hnu hfu P3
      have dlt : ∀ b, decide (i < l.length) = b → decide ((i : Int) < (l.length : Int)) = b := fun b h => by rw [← h]; simp
      by_cases hlt : i < l.length
      · have dl : decide ((i : Int) < (l.length : Int)) = true := decide_eq_true (by omega)
        clear dlt
        have HGE := hid (HGL.out _ (nth_mem _ _ hlt))
        obtain ⟨bE, oE, rfl, hcell⟩ := HCL.out (by omega)
        have HRA := hid (show ∀ w', Ext w w' → w'.rangeAt bE (oE + i * 5) (eEdS (nth l i)) from fun w' he q v hv => by
          have hq : q < 5 := (List.getElem?_eq_some_iff.1 hv).1
          exact (ext_cellq he (hcell i hlt q hq) hq rfl).trans hv)
        clear hcell HCL
        obtain ⟨pa0, pb0, pc0, pa1, pb1, pc1, pa2, pb2, pc2, pa3, pb3, pc3, G2, HVA⟩ := P2.out
        have HVA := hid HVA
        have G2 := hid G2
        obtain ⟨c0, c1, c2, c3⟩ := ver_cells G2.out
        go_wp2_with fail
        refine (own_in _ _ _ _ U _ HVA.out (fun n hn => by have := HNU.out n hn; have := HL.out; omega)).mono ?_
        rintro e w5 ⟨r0, r1, r2, r3, rfl, hv5, he5⟩
        clear c0 c1 c2 c3
        obtain ⟨qa0, qb0, qc0, rfl⟩ := isSl_of hv5.s0
        obtain ⟨qa1, qb1, qc1, rfl⟩ := isSl_of hv5.s1
        obtain ⟨qa2, qb2, qc2, rfl⟩ := isSl_of hv5.s2
        obtain ⟨qa3, qb3, qc3, rfl⟩ := isSl_of hv5.s3
        have EQ := hid (he5.al (Obj.cells #[.slice qa0 qb0 qc0, .slice qa1 qb1 qc1, .slice qa2 qb2 qc2, .slice qa3 qb3 qc3] 67))
        have P8 := hid (show PlAt w5.heap.size U (w5.alloc (Obj.cells #[.slice qa0 qb0 qc0, .slice qa1 qb1 qc1, .slice qa2 qb2 qc2, .slice qa3 qb3 qc3] 67)) from ⟨_, _, _, _, _, _, _, _, _, _, _, _, heap_alloc_new w5 _, hv5.go ((Ext.rfl w5).al _)⟩)
        have HV8 := hid (hv5.go ((Ext.rfl w5).al (Obj.cells #[.slice qa0 qb0 qc0, .slice qa1 qb1 qc1, .slice qa2 qb2 qc2, .slice qa3 qb3 qc3] 67)))
        have G8 := hid (show (w5.alloc (Obj.cells #[.slice qa0 qb0 qc0, .slice qa1 qb1 qc1, .slice qa2 qb2 qc2, .slice qa3 qb3 qc3] 67)).heap[w5.heap.size]? = some (Obj.cells #[.slice qa0 qb0 qc0, .slice qa1 qb1 qc1, .slice qa2 qb2 qc2, .slice qa3 qb3 qc3] 67 (0, 0)) from heap_alloc_new w5 _)
        have HB8 := hid (show B ≤ w5.heap.size from Nat.le_trans HG2.out (Nat.le_trans (Nat.le_of_lt (vblk_lt G2.out)) he5.size))
        clear hv5 he5
        go_wp2_with fail
        generalize w5.alloc (Obj.cells #[.slice qa0 qb0 qc0, .slice qa1 qb1 qc1, .slice qa2 qb2 qc2, .slice qa3 qb3 qc3] 67) = wq at *
        generalize w5.heap.size = g8 at *
        have wq_E := hid (show Ext w wq from HBX.out _ (Below.trans HB.out (Below.mono EQ.out (Nat.le_of_lt (Nat.lt_of_le_of_lt HG2.out (vblk_lt G2.out))))))
        have HBQ := hid (show Below B w wq from Below.trans HB.out (Below.mono EQ.out (Nat.le_of_lt (Nat.lt_of_le_of_lt HG2.out (vblk_lt G2.out)))))
        have P2Q := hid (P2.out.go EQ.out)
        have P6Q := hid (P6.out.go EQ.out)
        clear P2 P6 G2 HVA EQ
        have HSUB := hid (fun h n => @applyF_sub U (nth l i).ed h n)
        obtain ⟨R, HRR⟩ : ∃ R, Hid (applyF U (nth l i).ed = R) := ⟨_, rfl⟩
        replace HSUB : Hid (R.1 = 0 → ∀ n, (R.2 n).length ≤ (U n).length + 100 ∧ ∀ f, f ∈ R.2 n → f ∈ U n ∨ f ∈ (nth l i).ed.adds) := by rw [← HRR.out]; exact HSUB
        refine wp_drawV (RgJ 40 34 41 9 wq R.1 R.2) (by kernel_rfl) (by kernel_rfl) (fun w9 he => RgJ.start he) ?_
        refine rgv_read 35 [40, 34, 41, 9] (RgJ.keep (by decide) (by decide) (by decide) (by decide) (by decide)) (by rfl) (fun L p w hi hC hL => ob_loadrow (cs := #[.slice qa0 qb0 qc0, .slice qa1 qb1 qc1, .slice qa2 qb2 qc2, .slice qa3 qb3 qc3]) (by rfl) (by rfl) (fun w' he => (he.block _ (Nat.lt_of_lt_of_le (vblk_lt G8.out) hi.b0.size)).trans ((hi.b0.block _ (vblk_lt G8.out)).trans G8.out)) Try.underlying67 rfl (by kernel_rfl)) rfl (by rfl) ?_
        refine rgv_read 36 [40, 34, 41, 9] (RgJ.keep (by decide) (by decide) (by decide) (by decide) (by decide)) (by rfl) (fun L p w hi hC hL => ob_move (by rfl) (by rfl)) rfl (by rfl) ?_
        refine rgv_read 37 [40, 34, 41, 9] (RgJ.keep (by decide) (by decide) (by decide) (by decide) (by decide)) (by rfl) (fun L p w hi hC hL => ob_move (by rfl) (by rfl)) rfl (by rfl) ?_
        refine rgv_read 38 [40, 34, 41, 9] (RgJ.keep (by decide) (by decide) (by decide) (by decide) (by decide)) (by rfl) (fun L p w hi hC hL => ob_index 5 (oE + i * 5) (by rfl) (by rfl) (by rfl) Try.underlying68 (by kernel_rfl) (Int.natCast_nonneg i) (Int.ofNat_lt.2 hlt) (by rw [Int.toNat_natCast])) rfl (by rfl) ?_
        refine rgv_read 39 [40, 34, 41, 9] (RgJ.keep (by decide) (by decide) (by decide) (by decide) (by decide)) (by rfl) (fun L p w hi hC hL => ob_loadmid (cs := eEdS (nth l i)) (by rfl) (by rfl) (fun w' he => HRA.out _ (Ext.tr wq_E.out (Ext.tr hi.b0 he))) Try.underlying75 rfl (by kernel_rfl)) rfl (by rfl) ?_
        refine rgv_eff anyV free_any rfl (fun a L w hx hi hN hC hL he => ?_) ⟨by rfl, ?_⟩
        · have h6 : L 6 = false := (by cases h : L 6 with | false => rfl | true => (have := hC 6 _ rfl h ⟨5, .data⟩ (by simp) rfl; rw [hL] at this; cases this))
          have h7 : L 7 = false := by cases h : L 7 with | false => rfl | true => (have := hC 7 _ rfl h ⟨6, .data⟩ (by simp) rfl; rw [h6] at this; cases this)
          rw [exec_call rfl #[.agg #[.slice qa0 qb0 qc0, .slice qa1 qb1 qc1, .slice qa2 qb2 qc2, .slice qa3 qb3 qc3], .agg (eEdS (nth l i)).toArray] (by simp only [List.map_toArray, List.map_cons, List.map_nil]; rw [hx (.tmp 35) (by simp [Op.operands, Call.operands]) _ rfl, hx (.tmp 39) (by simp [Op.operands, Call.operands]) _ rfl]) cf_apply]
          refine (apply_in _ _ _ _ U (nth l i).ed (nth l i).vd (nth l i).va w (HV8.out.go hi.b0) HFU.out (fun n hn => by have := HNU.out n hn; have := HL.out; omega) (HGE.out.go (Ext.tr wq_E.out hi.b0)).d (HGE.out.go (Ext.tr wq_E.out hi.b0)).a HGE.out.f).mono ?_
          rintro e wz ⟨r0, r1, r2, r3, rfl, hvz, hez⟩
          rw [HRR.out] at hvz ⊢
          obtain ⟨a0, b0, d0, rfl⟩ := isSl_of hvz.s0
          obtain ⟨a1, b1, d1, rfl⟩ := isSl_of hvz.s1
          obtain ⟨a2, b2, d2, rfl⟩ := isSl_of hvz.s2
          obtain ⟨a3, b3, d3, rfl⟩ := isSl_of hvz.s3
          exact ⟨_, rfl, trivial, hi.slot1 hL hez (fun h => absurd rfl h) (fun h => put_far (by decide)) (fun h => put_far (by decide)) (fun h => put_far (by decide)) (by decide) (fun _ => ⟨⟨_, _, _, _, _, _, _, _, _, _, _, _, put_at (show a.tmps.size = 88 from hN) (by decide), hvz⟩, h6, h7⟩) (fun h => by cases h) (fun h => by cases h) (fun h => by cases h) (fun h => by cases h)⟩
        refine rgv_eff anyV free_any rfl (fun a L w hx hi hN hC hL he => ?_) ⟨by rfl, ?_⟩
        · have h5 : L 5 = true := he ⟨5, .data⟩ (by simp) rfl
          rw [exec_move]
          exact ⟨trivial, hi.slot1 hL (Ext.rfl w) (fun h => put_far (by decide)) (fun h => absurd rfl h) (fun h => put_far (by decide)) (fun h => put_far (by decide)) (by decide) (fun h => by cases h) (fun _ => ⟨h5, put_at (show a.tmps.size = 88 from hN) (by decide)⟩) (fun h => by cases h) (fun h => by cases h) (fun h => by cases h)⟩
        refine rgv_eff anyV free_any rfl (fun a L w hx hi hN hC hL he => ?_) ⟨by rfl, ?_⟩
        · have h6 : L 6 = true := he ⟨6, .data⟩ (by simp) rfl
          obtain ⟨h5, e5⟩ := hi.b6 h6
          obtain ⟨a0, b0, d0, a1, b1, d1, a2, b2, d2, a3, b3, d3, e4, hvz⟩ := hi.b5 h5
          rw [exec_extract (i := 0) (show a.eval (.tmp 34) = _ from e5.trans e4) rfl]
          exact ⟨trivial, hi.slot1 hL (Ext.rfl w) (fun h => put_far (by decide)) (fun h => put_far (by decide)) (fun h => absurd rfl h) (fun h => put_far (by decide)) (by decide) (fun h => by cases h) (fun h => by cases h) (fun _ => ⟨h5, by rw [put_at (show a.tmps.size = 88 from hN) (by decide)]; exact e4⟩) (fun h => by cases h) (fun h => by cases h)⟩
        refine rgv_eff (.ex (.int .i64 R.1)) (free_ex _) rfl (fun a L w hx hi hN hC hL he => ?_) ⟨by rfl, ?_⟩
        · have h6 : L 6 = true := he ⟨6, .data⟩ (by simp) rfl
          obtain ⟨h5, e5⟩ := hi.b6 h6
          obtain ⟨a0, b0, d0, a1, b1, d1, a2, b2, d2, a3, b3, d3, e4, hvz⟩ := hi.b5 h5
          rw [exec_extract (i := 1) (show a.eval (.tmp 34) = _ from e5.trans e4) rfl]
          exact ⟨rfl, RgJ.keep (by decide) (by decide) (by decide) (by decide) (by decide) L _ _ w w (fun t ht => (by simp at ht; rcases ht with rfl | rfl | rfl | rfl <;> exact (put_far (by decide)).symm)) hi (Ext.rfl w)⟩
        refine rgv_eff anyV free_any rfl (fun a L w hx hi hN hC hL he => ?_) ⟨by rfl, ?_⟩
        · have h10 : L 10 = false := (by cases h : L 10 with | false => rfl | true => (have := hC 10 _ rfl h ⟨9, .data⟩ (by simp) rfl; rw [hL] at this; cases this))
          rw [exec_alloc4]
          exact ⟨trivial, hi.slot1 hL ((Ext.rfl w).al _) (fun h => put_far (by decide)) (fun h => put_far (by decide)) (fun h => put_far (by decide)) (fun h => absurd rfl h) (by decide) (fun h => by cases h) (fun h => by cases h) (fun h => by cases h) (fun _ => ⟨_, put_at (show a.tmps.size = 88 from hN) (by decide), hi.b0.size, heap_alloc_new w _⟩) (fun _ => h10)⟩
        refine rgv_eff (.ex undef) (free_ex _) rfl (fun a L w hx hi hN hC hL he => ?_) ?_
        · have h7 : L 7 = true := he ⟨7, .data⟩ (by simp) rfl
          have h9 : L 9 = true := he ⟨9, .data⟩ (by simp) rfl
          obtain ⟨h5, e6⟩ := hi.b7 h7
          obtain ⟨a0, b0, d0, a1, b1, d1, a2, b2, d2, a3, b3, d3, e4, hvz⟩ := hi.b5 h5
          have e7 := tup_inj (e6.symm.trans e4)
          obtain ⟨b, q1, q2, q3⟩ := hi.b9 h9 hL
          rw [exec_store (show a.eval (.tmp 9) = _ from q1) (show a.eval (.tmp 41) = _ from e7) (run_store4 w b a0 a1 a2 a3 b0 b1 b2 b3 d0 d1 d2 d3 q3)]
          exact ⟨rfl, hi.store h5 h9 hL (fun t ht => rfl) q1 hvz⟩
        refine rgv_read 10 [40, 34, 41, 9] (RgJ.keep (by decide) (by decide) (by decide) (by decide) (by decide)) (by rfl) (fun L p w hi hC hL => ob_assign (by rfl) (by rfl)) rfl (by rfl) ?_
        refine rgv_end ?_
        intro L ws hall
        simp only [asg, List.set_cons_zero, List.set_cons_succ, List.map_cons, List.map_nil, opens, anyV]
        intro v9 _ v34 _ v40 _ v41 _ hi1
        obtain ⟨g9, na0, nb0, nc0, na1, nb1, nc1, na2, nb2, nc2, na3, nb3, nc3, e9, l9, G9, hv9⟩ := hi1.b10 (hall 10 (by decide))
        have e9' : v9 = .pointer (some ⟨g9, 0, none⟩) := e9
        subst e9'
        have EQS := hid hi1.b0
        clear hall e9 hi1
        have P9 := hid (show PlAt g9 R.2 ws from ⟨_, _, _, _, _, _, _, _, _, _, _, _, G9, hv9⟩)
        have H9 := hid (show g2 < g9 ∧ g6 < g9 ∧ g8 < g9 from ⟨Nat.lt_of_lt_of_le (by obtain ⟨pa0, pb0, pc0, pa1, pb1, pc1, pa2, pb2, pc2, pa3, pb3, pc3, G2, HVA⟩ := P2Q.out; exact vblk_lt G2) l9, Nat.lt_of_lt_of_le (by obtain ⟨pa0, pb0, pc0, pa1, pb1, pc1, pa2, pb2, pc2, pa3, pb3, pc3, G2, HVA⟩ := P6Q.out; exact vblk_lt G2) l9, Nat.lt_of_lt_of_le (vblk_lt G8.out) l9⟩)
        clear G9 hv9 l9
        have ws_E := hid (Ext.tr wq_E.out EQS.out)
        have HBS := hid (show Below B w ws from Below.trans HBQ.out (Below.mono EQS.out (Nat.le_of_lt (Nat.lt_of_le_of_lt HB8.out (vblk_lt G8.out)))))
        have P2S := hid (P2Q.out.go EQS.out)
        have P6S := hid (P6Q.out.go EQS.out)
        have P8S := hid (P8.out.go EQS.out)
        clear P2Q P6Q P8 G8 HV8 HBQ wq_E EQS
        obtain ⟨ya0, yb0, yc0, ya1, yb1, yc1, ya2, yb2, yc2, ya3, yb3, yc3, G6, HV6⟩ := P6S.out
        have HV6 := hid HV6
        have G6 := hid G6
        go_wp2_with fail
        refine wp_drawV (RgJ 49 43 50 11 ws R.1 R.2) (by kernel_rfl) (by kernel_rfl) (fun w9 he => RgJ.start he) ?_
        refine rgv_read 44 [49, 43, 50, 11] (RgJ.keep (by decide) (by decide) (by decide) (by decide) (by decide)) (by rfl) (fun L p w hi hC hL => ob_loadrow (cs := #[.slice ya0 yb0 yc0, .slice ya1 yb1 yc1, .slice ya2 yb2 yc2, .slice ya3 yb3 yc3]) (by rfl) (by rfl) (fun w' he => (he.block _ (Nat.lt_of_lt_of_le (vblk_lt G6.out) hi.b0.size)).trans ((hi.b0.block _ (vblk_lt G6.out)).trans G6.out)) Try.underlying67 rfl (by kernel_rfl)) rfl (by rfl) ?_
        refine rgv_read 45 [49, 43, 50, 11] (RgJ.keep (by decide) (by decide) (by decide) (by decide) (by decide)) (by rfl) (fun L p w hi hC hL => ob_move (by rfl) (by rfl)) rfl (by rfl) ?_
        refine rgv_read 46 [49, 43, 50, 11] (RgJ.keep (by decide) (by decide) (by decide) (by decide) (by decide)) (by rfl) (fun L p w hi hC hL => ob_move (by rfl) (by rfl)) rfl (by rfl) ?_
        refine rgv_read 47 [49, 43, 50, 11] (RgJ.keep (by decide) (by decide) (by decide) (by decide) (by decide)) (by rfl) (fun L p w hi hC hL => ob_index 5 (oE + i * 5) (by rfl) (by rfl) (by rfl) Try.underlying68 (by kernel_rfl) (Int.natCast_nonneg i) (Int.ofNat_lt.2 hlt) (by rw [Int.toNat_natCast])) rfl (by rfl) ?_
        refine rgv_read 48 [49, 43, 50, 11] (RgJ.keep (by decide) (by decide) (by decide) (by decide) (by decide)) (by rfl) (fun L p w hi hC hL => ob_loadmid (cs := eEdS (nth l i)) (by rfl) (by rfl) (fun w' he => HRA.out _ (Ext.tr ws_E.out (Ext.tr hi.b0 he))) Try.underlying75 rfl (by kernel_rfl)) rfl (by rfl) ?_
        refine rgv_eff anyV free_any rfl (fun a L w hx hi hN hC hL he => ?_) ⟨by rfl, ?_⟩
        · have h6 : L 6 = false := (by cases h : L 6 with | false => rfl | true => (have := hC 6 _ rfl h ⟨5, .data⟩ (by simp) rfl; rw [hL] at this; cases this))
          have h7 : L 7 = false := by cases h : L 7 with | false => rfl | true => (have := hC 7 _ rfl h ⟨6, .data⟩ (by simp) rfl; rw [h6] at this; cases this)
          rw [exec_call rfl #[.agg #[.slice ya0 yb0 yc0, .slice ya1 yb1 yc1, .slice ya2 yb2 yc2, .slice ya3 yb3 yc3], .agg (eEdS (nth l i)).toArray] (by simp only [List.map_toArray, List.map_cons, List.map_nil]; rw [hx (.tmp 44) (by simp [Op.operands, Call.operands]) _ rfl, hx (.tmp 48) (by simp [Op.operands, Call.operands]) _ rfl]) cf_rapply]
          refine (rapply_in _ _ _ _ U (nth l i).ed (nth l i).vd (nth l i).va w (HV6.out.go hi.b0) HFU.out (fun n hn => by have := HNU.out n hn; have := HL.out; omega) (HGE.out.go (Ext.tr ws_E.out hi.b0)).d (HGE.out.go (Ext.tr ws_E.out hi.b0)).a HGE.out.f).mono ?_
          rintro e wz ⟨r0, r1, r2, r3, rfl, hvz, hez⟩
          rw [HRR.out] at hvz ⊢
          obtain ⟨a0, b0, d0, rfl⟩ := isSl_of hvz.s0
          obtain ⟨a1, b1, d1, rfl⟩ := isSl_of hvz.s1
          obtain ⟨a2, b2, d2, rfl⟩ := isSl_of hvz.s2
          obtain ⟨a3, b3, d3, rfl⟩ := isSl_of hvz.s3
          exact ⟨_, rfl, trivial, hi.slot1 hL hez (fun h => absurd rfl h) (fun h => put_far (by decide)) (fun h => put_far (by decide)) (fun h => put_far (by decide)) (by decide) (fun _ => ⟨⟨_, _, _, _, _, _, _, _, _, _, _, _, put_at (show a.tmps.size = 88 from hN) (by decide), hvz⟩, h6, h7⟩) (fun h => by cases h) (fun h => by cases h) (fun h => by cases h) (fun h => by cases h)⟩
        refine rgv_eff anyV free_any rfl (fun a L w hx hi hN hC hL he => ?_) ⟨by rfl, ?_⟩
        · have h5 : L 5 = true := he ⟨5, .data⟩ (by simp) rfl
          rw [exec_move]
          exact ⟨trivial, hi.slot1 hL (Ext.rfl w) (fun h => put_far (by decide)) (fun h => absurd rfl h) (fun h => put_far (by decide)) (fun h => put_far (by decide)) (by decide) (fun h => by cases h) (fun _ => ⟨h5, put_at (show a.tmps.size = 88 from hN) (by decide)⟩) (fun h => by cases h) (fun h => by cases h) (fun h => by cases h)⟩
        refine rgv_eff anyV free_any rfl (fun a L w hx hi hN hC hL he => ?_) ⟨by rfl, ?_⟩
        · have h6 : L 6 = true := he ⟨6, .data⟩ (by simp) rfl
          obtain ⟨h5, e5⟩ := hi.b6 h6
          obtain ⟨a0, b0, d0, a1, b1, d1, a2, b2, d2, a3, b3, d3, e4, hvz⟩ := hi.b5 h5
          rw [exec_extract (i := 0) (show a.eval (.tmp 43) = _ from e5.trans e4) rfl]
          exact ⟨trivial, hi.slot1 hL (Ext.rfl w) (fun h => put_far (by decide)) (fun h => put_far (by decide)) (fun h => absurd rfl h) (fun h => put_far (by decide)) (by decide) (fun h => by cases h) (fun h => by cases h) (fun _ => ⟨h5, by rw [put_at (show a.tmps.size = 88 from hN) (by decide)]; exact e4⟩) (fun h => by cases h) (fun h => by cases h)⟩
        refine rgv_eff (.ex (.int .i64 R.1)) (free_ex _) rfl (fun a L w hx hi hN hC hL he => ?_) ⟨by rfl, ?_⟩
        · have h6 : L 6 = true := he ⟨6, .data⟩ (by simp) rfl
          obtain ⟨h5, e5⟩ := hi.b6 h6
          obtain ⟨a0, b0, d0, a1, b1, d1, a2, b2, d2, a3, b3, d3, e4, hvz⟩ := hi.b5 h5
          rw [exec_extract (i := 1) (show a.eval (.tmp 43) = _ from e5.trans e4) rfl]
          exact ⟨rfl, RgJ.keep (by decide) (by decide) (by decide) (by decide) (by decide) L _ _ w w (fun t ht => (by simp at ht; rcases ht with rfl | rfl | rfl | rfl <;> exact (put_far (by decide)).symm)) hi (Ext.rfl w)⟩
        refine rgv_eff anyV free_any rfl (fun a L w hx hi hN hC hL he => ?_) ⟨by rfl, ?_⟩
        · have h10 : L 10 = false := (by cases h : L 10 with | false => rfl | true => (have := hC 10 _ rfl h ⟨9, .data⟩ (by simp) rfl; rw [hL] at this; cases this))
          rw [exec_alloc4]
          exact ⟨trivial, hi.slot1 hL ((Ext.rfl w).al _) (fun h => put_far (by decide)) (fun h => put_far (by decide)) (fun h => put_far (by decide)) (fun h => absurd rfl h) (by decide) (fun h => by cases h) (fun h => by cases h) (fun h => by cases h) (fun _ => ⟨_, put_at (show a.tmps.size = 88 from hN) (by decide), hi.b0.size, heap_alloc_new w _⟩) (fun _ => h10)⟩
        refine rgv_eff (.ex undef) (free_ex _) rfl (fun a L w hx hi hN hC hL he => ?_) ?_
        · have h7 : L 7 = true := he ⟨7, .data⟩ (by simp) rfl
          have h9 : L 9 = true := he ⟨9, .data⟩ (by simp) rfl
          obtain ⟨h5, e6⟩ := hi.b7 h7
          obtain ⟨a0, b0, d0, a1, b1, d1, a2, b2, d2, a3, b3, d3, e4, hvz⟩ := hi.b5 h5
          have e7 := tup_inj (e6.symm.trans e4)
          obtain ⟨b, q1, q2, q3⟩ := hi.b9 h9 hL
          rw [exec_store (show a.eval (.tmp 11) = _ from q1) (show a.eval (.tmp 50) = _ from e7) (run_store4 w b a0 a1 a2 a3 b0 b1 b2 b3 d0 d1 d2 d3 q3)]
          exact ⟨rfl, hi.store h5 h9 hL (fun t ht => rfl) q1 hvz⟩
        refine rgv_read 12 [49, 43, 50, 11] (RgJ.keep (by decide) (by decide) (by decide) (by decide) (by decide)) (by rfl) (fun L p w hi hC hL => ob_assign (by rfl) (by rfl)) rfl (by rfl) ?_
        refine rgv_end ?_
        intro L wt hall
        simp only [asg, List.set_cons_zero, List.set_cons_succ, List.map_cons, List.map_nil, opens, anyV]
        intro v11 _ v43 _ v49 _ v50 _ hi1
        obtain ⟨g11, ma0, mb0, mc0, ma1, mb1, mc1, ma2, mb2, mc2, ma3, mb3, mc3, e11, l11, G11, hv11⟩ := hi1.b10 (hall 10 (by decide))
        have e11' : v11 = .pointer (some ⟨g11, 0, none⟩) := e11
        subst e11'
        have EST := hid hi1.b0
        clear hall e11 hi1
        have P11 := hid (show PlAt g11 R.2 wt from ⟨_, _, _, _, _, _, _, _, _, _, _, _, G11, hv11⟩)
        have H11 := hid (show g2 < g11 ∧ g6 < g11 from ⟨Nat.lt_of_lt_of_le (by obtain ⟨pa0, pb0, pc0, pa1, pb1, pc1, pa2, pb2, pc2, pa3, pb3, pc3, G2, HVA⟩ := P2S.out; exact vblk_lt G2) l11, Nat.lt_of_lt_of_le (vblk_lt G6.out) l11⟩)
        clear G11 hv11 l11
        have HBT := hid (show Below B w wt from Below.trans HBS.out (Below.mono EST.out (Nat.le_of_lt (Nat.lt_of_le_of_lt HG6.out (vblk_lt G6.out)))))
        have P2T := hid (P2S.out.go EST.out)
        have P6T := hid (P6S.out.go EST.out)
        have P8T := hid (P8S.out.go EST.out)
        have P9T := hid (P9.out.go EST.out)
        clear P2S P6S P8S P9 G6 HV6 HBS EST
        obtain ⟨na0, nb0, nc0, na1, nb1, nc1, na2, nb2, nc2, na3, nb3, nc3, G9, HV9⟩ := P9T.out
        obtain ⟨ma0, mb0, mc0, ma1, mb1, mc1, ma2, mb2, mc2, ma3, mb3, mc3, G11, HV11⟩ := P11.out
        have HV9 := hid HV9
        have HV11 := hid HV11
        obtain ⟨c0, c1, c2, c3⟩ := ver_cells G9
        obtain ⟨d0, d1, d2, d3⟩ := ver_cells G11
        clear G9 G11
        go_wp2_with fail
        refine (same_in _ _ _ _ _ _ _ _ R.2 R.2 _ HV9.out HV11.out (fun n hn => rfl)).mono ?_
        rintro e w6 ⟨rfl, he6⟩
        have HB6 := hid (show Below B w w6 from Below.trans HBT.out (Below.mono he6 (HLEB.out _ HBT.out)))
        have P2U := hid (P2T.out.go he6)
        have P6U := hid (P6T.out.go he6)
        have P8U := hid (P8T.out.go he6)
        have P9U := hid (P9T.out.go he6)
        have P11U := hid (P11.out.go he6)
        clear P2T P6T P8T P9T P11 HV9 HV11 HBT he6 c0 c1 c2 c3 d0 d1 d2 d3
        obtain ⟨na0, nb0, nc0, na1, nb1, nc1, na2, nb2, nc2, na3, nb3, nc3, G8, HV8⟩ := P8U.out
        obtain ⟨ma0, mb0, mc0, ma1, mb1, mc1, ma2, mb2, mc2, ma3, mb3, mc3, G2, HV2⟩ := P2U.out
        have HV8 := hid HV8
        have HV2 := hid HV2
        obtain ⟨c0, c1, c2, c3⟩ := ver_cells G8
        obtain ⟨d0, d1, d2, d3⟩ := ver_cells G2
        clear G8 G2
        go_wp2_with fail
        refine (same_in _ _ _ _ _ _ _ _ U U _ HV8.out HV2.out (fun n hn => rfl)).mono ?_
        rintro e w7 ⟨rfl, he7⟩
        have HB7 := hid (show Below B w w7 from Below.trans HB6.out (Below.mono he7 (HLEB.out _ HB6.out)))
        have P2W := hid (P2U.out.go he7)
        have P6W := hid (P6U.out.go he7)
        have P9W := hid (P9U.out.go he7)
        have P11W := hid (P11U.out.go he7)
        clear P2U P6U P8U P9U P11U HV8 HV2 HB6 he7 c0 c1 c2 c3 d0 d1 d2 d3
        obtain ⟨xa0, xb0, xc0, xa1, xb1, xc1, xa2, xb2, xc2, xa3, xb3, xc3, G2, HV2⟩ := P2W.out
        obtain ⟨ya0, yb0, yc0, ya1, yb1, yc1, ya2, yb2, yc2, ya3, yb3, yc3, G6, HV6⟩ := P6W.out
        have G2 := hid G2
        have G6 := hid G6
        have HV2 := hid HV2
        have HV6 := hid HV6
        go_wp2_with fail
        refine wp_draw (by kernel_rfl) (by kernel_rfl) ?_
        refine rg_step 58 (ob_move (by rfl) (by rfl)) rfl (by rfl) ?_
        refine rg_step 59 (ob_not true (by rfl) (by rfl)) rfl (by rfl) ?_
        refine rg_step 60 (ob_move (by rfl) (by rfl)) rfl (by rfl) ?_
        refine rg_step 61 (ob_move (by rfl) (by rfl)) rfl (by rfl) ?_
        refine rg_step 62 (ob_move (by rfl) (by rfl)) rfl (by rfl) ?_
        refine rg_step 63 (ob_icmp false (by rfl) (by rfl) (by rfl) (by unfold icmp; simp)) rfl (by rfl) ?_
        refine rg_step 64 (ob_pick false (by rfl) (by rfl) (by rfl)) rfl (by rfl) ?_
        refine rg_step 65 (ob_move (by rfl) (by rfl)) rfl (by rfl) ?_
        refine rg_step 66 (ob_move (by rfl) (by rfl)) rfl (by rfl) ?_
        refine rg_step 67 (ob_not true (by rfl) (by rfl)) rfl (by rfl) ?_
        refine rg_step 68 (ob_pick false (by rfl) (by rfl) (by rfl)) rfl (by rfl) ?_
        refine rg_step 69 (ob_move (by rfl) (by rfl)) rfl (by rfl) ?_
        refine rg_step 70 (ob_loadrow (cs := #[.slice xa0 xb0 xc0, .slice xa1 xb1 xc1, .slice xa2 xb2 xc2, .slice xa3 xb3 xc3]) (by rfl) (by rfl) (fun w' he => (he.block _ (vblk_lt G2.out)).trans G2.out) Try.underlying67 rfl (by kernel_rfl)) rfl (by rfl) ?_
        refine rg_step 71 (ob_call (.ex (.int .i64 (verC U))) (by rfl) cf_vcheck (fun w' he => gives_ex ((vcheck_in _ _ _ _ U w' (HV2.out.go he) HFU.out).mono fun _ _ h => h))) rfl (by rfl) ?_
        refine rg_step 72 (ob_loadrow (cs := #[.slice ya0 yb0 yc0, .slice ya1 yb1 yc1, .slice ya2 yb2 yc2, .slice ya3 yb3 yc3]) (by rfl) (by rfl) (fun w' he => (he.block _ (vblk_lt G6.out)).trans G6.out) Try.underlying67 rfl (by kernel_rfl)) rfl (by rfl) ?_
        refine rg_step 73 (ob_call (.ex (.int .i64 (verC U))) (by rfl) cf_rvcheck (fun w' he => gives_ex ((rcheck_in _ _ _ _ U w' (HV6.out.go he) HFU.out (fun n hn => by have := HNU.out n hn; have := HL.out; omega)).mono fun _ _ h => h))) rfl (by rfl) ?_
        refine rg_step 74 (ob_icmp false (by rfl) (by rfl) (by rfl) (by unfold icmp; simp)) rfl (by rfl) ?_
        refine rg_step 75 (ob_pick false (by rfl) (by rfl) (by rfl)) rfl (by rfl) ?_
        refine rg_end ?_
        intro w8 he8
        simp only [asg, List.set_cons_zero, List.set_cons_succ, List.map_cons, List.map_nil, opens]
        have HB8' := hid (show Below B w w8 from Below.trans HB7.out (Below.mono he8 (HLEB.out _ HB7.out)))
        have P2X := hid (P2W.out.go he8)
        have P6X := hid (P6W.out.go he8)
        have P9X := hid (P9W.out.go he8)
        have P11X := hid (P11W.out.go he8)
        clear P2W P6W P9W P11W HB7 HV2 HV6 G2 G6 he8
        obtain ⟨c, S1⟩ := R
        simp only at *
        by_cases hc : c = 0
        · subst hc
          obtain ⟨na0, nb0, nc0, na1, nb1, nc1, na2, nb2, nc2, na3, nb3, nc3, G9, HV9⟩ := P9X.out
          obtain ⟨xa0, xb0, xc0, xa1, xb1, xc1, xa2, xb2, xc2, xa3, xb3, xc3, G2, HV2⟩ := P2X.out
          obtain ⟨c0, c1, c2, c3⟩ := ver_cells G9
          obtain ⟨f0, f1, f2, f3⟩ := ver_cells G2
          have ff : ∀ i, w8.frozen? ⟨g2, i, none⟩ = false := fun i => frozen_of_row _ _ _ _ _ G2
          have hsz0 : HSUB.out = HSUB.out := rfl
          have Z2 := hid (PlAt.set (U := S1) P2X.out HV9)
          have Z6 := hid (P6X.out.far P2X.out HNE.out ⟨_, _, _, rfl⟩ ⟨_, _, _, rfl⟩ ⟨_, _, _, rfl⟩ ⟨_, _, _, rfl⟩ : PlAt g6 U (set4 w8 g2 (.slice na0 nb0 nc0) (.slice na1 nb1 nc1) (.slice na2 nb2 nc2) (.slice na3 nb3 nc3)))
          have Z11 := hid (P11X.out.far P2X.out (Nat.ne_of_gt H11.out.1) ⟨_, _, _, rfl⟩ ⟨_, _, _, rfl⟩ ⟨_, _, _, rfl⟩ ⟨_, _, _, rfl⟩ : PlAt g11 S1 (set4 w8 g2 (.slice na0 nb0 nc0) (.slice na1 nb1 nc1) (.slice na2 nb2 nc2) (.slice na3 nb3 nc3)))
          have HX := hid (set4_ext HB8'.out HG2.out (.slice na0 nb0 nc0) (.slice na1 nb1 nc1) (.slice na2 nb2 nc2) (.slice na3 nb3 nc3))
          clear hsz0 G9 HV9 G2 HV2
          go_upto_region 19 with fail
          generalize hwz : (((w8.setCell ⟨g2, 0, none⟩ (.slice na0 nb0 nc0)).setCell ⟨g2, 1, none⟩ (.slice na1 nb1 nc1)).setCell ⟨g2, 2, none⟩ (.slice na2 nb2 nc2)).setCell ⟨g2, 3, none⟩ (.slice na3 nb3 nc3) = wz
          replace Z2 : Hid (PlAt g2 S1 wz) := by rw [← hwz]; exact Z2
          replace Z6 : Hid (PlAt g6 U wz) := by rw [← hwz]; exact Z6
          replace Z11 : Hid (PlAt g11 S1 wz) := by rw [← hwz]; exact Z11
          replace HX : Hid (Below B w wz) := by rw [← hwz]; exact HX
          clear hwz c0 c1 c2 c3 f0 f1 f2 f3 ff
          obtain ⟨ma0, mb0, mc0, ma1, mb1, mc1, ma2, mb2, mc2, ma3, mb3, mc3, G11, HV11⟩ := Z11.out
          obtain ⟨ya0, yb0, yc0, ya1, yb1, yc1, ya2, yb2, yc2, ya3, yb3, yc3, G6, HV6⟩ := Z6.out
          obtain ⟨c0, c1, c2, c3⟩ := ver_cells G11
          obtain ⟨f0, f1, f2, f3⟩ := ver_cells G6
          have ff : ∀ i, wz.frozen? ⟨g6, i, none⟩ = false := fun i => frozen_of_row _ _ _ _ _ G6
          have Y6 := hid (PlAt.set (U := S1) Z6.out HV11)
          have Y2 := hid (Z2.out.far Z6.out (Ne.symm HNE.out) ⟨_, _, _, rfl⟩ ⟨_, _, _, rfl⟩ ⟨_, _, _, rfl⟩ ⟨_, _, _, rfl⟩ : PlAt g2 S1 (set4 wz g6 (.slice ma0 mb0 mc0) (.slice ma1 mb1 mc1) (.slice ma2 mb2 mc2) (.slice ma3 mb3 mc3)))
          have HY := hid (set4_ext HX.out HG6.out (.slice ma0 mb0 mc0) (.slice ma1 mb1 mc1) (.slice ma2 mb2 mc2) (.slice ma3 mb3 mc3))
          clear G11 HV11 G6 HV6
          have HSB := hid (HSUB.out rfl)
          clear HSUB
          go_wp2_with fail
          generalize hwy : (((wz.setCell ⟨g6, 0, none⟩ (.slice ma0 mb0 mc0)).setCell ⟨g6, 1, none⟩ (.slice ma1 mb1 mc1)).setCell ⟨g6, 2, none⟩ (.slice ma2 mb2 mc2)).setCell ⟨g6, 3, none⟩ (.slice ma3 mb3 mc3) = wy
          replace Y2 : Hid (PlAt g2 S1 wy) := by rw [← hwy]; exact Y2
          replace Y6 : Hid (PlAt g6 S1 wy) := by rw [← hwy]; exact Y6
          replace HY : Hid (Below B w wy) := by rw [← hwy]; exact HY
          go_roundw
          case rel => exact ⟨i + 1, S1, hlt, by go_num, HY.out, Y2.out, Y6.out, fun n hn => by have h1 := (HSB.out n).1; have h2 := HNU.out n hn; omega, fun n hn f hf => by
            rcases (HSB.out n).2 f hf with h | h
            · exact HFU.out n hn f h
            · exact HGE.out.f f h⟩
          case measure => simp [intOf]; omega
        · have hne : (c == 0) = false := by simpa using hc
          have hne2 : ¬ c = 0 := hc
          go_wp2_with fail
          go_roundw
          case rel => exact ⟨i + 1, U, hlt, by go_num, HB8'.out, P2X.out, P6X.out, fun n hn => by have := HNU.out n hn; omega, HFU.out⟩
          case measure => simp [intOf]; omega
      · have dl : decide ((i : Int) < (l.length : Int)) = false := decide_eq_false (by omega)
        clear dlt
        obtain ⟨xa0, xb0, xc0, xa1, xb1, xc1, xa2, xb2, xc2, xa3, xb3, xc3, G2, HV2⟩ := P2.out
        obtain ⟨ya0, yb0, yc0, ya1, yb1, yc1, ya2, yb2, yc2, ya3, yb3, yc3, G6, HV6⟩ := P6.out
        have G2 := hid G2
        have G6 := hid G6
        have HV2 := hid HV2
        have HV6 := hid HV6
        go_wp2_with fail
        refine wp_draw (by kernel_rfl) (by kernel_rfl) ?_
        refine rg_step 80 (ob_move (by rfl) (by rfl)) rfl (by rfl) ?_
        refine rg_step 81 (ob_move (by rfl) (by rfl)) rfl (by rfl) ?_
        refine rg_step 82 (ob_loadrow (cs := #[.slice xa0 xb0 xc0, .slice xa1 xb1 xc1, .slice xa2 xb2 xc2, .slice xa3 xb3 xc3]) (by rfl) (by rfl) (fun w' he => (he.block _ (vblk_lt G2.out)).trans G2.out) Try.underlying67 rfl (by kernel_rfl)) rfl (by rfl) ?_
        refine rg_step 83 (ob_call (.ex (.int .i64 (verC U))) (by rfl) cf_vcheck (fun w' he => gives_ex ((vcheck_in _ _ _ _ U w' (HV2.out.go he) HFU.out).mono fun _ _ h => h))) rfl (by rfl) ?_
        refine rg_step 84 (ob_loadrow (cs := #[.slice ya0 yb0 yc0, .slice ya1 yb1 yc1, .slice ya2 yb2 yc2, .slice ya3 yb3 yc3]) (by rfl) (by rfl) (fun w' he => (he.block _ (vblk_lt G6.out)).trans G6.out) Try.underlying67 rfl (by kernel_rfl)) rfl (by rfl) ?_
        refine rg_step 85 (ob_call (.ex (.int .i64 (verC U))) (by rfl) cf_rvcheck (fun w' he => gives_ex ((rcheck_in _ _ _ _ U w' (HV6.out.go he) HFU.out (fun n hn => by have := HNU.out n hn; have := HL.out; omega)).mono fun _ _ h => h))) rfl (by rfl) ?_
        refine rg_step 86 (ob_icmp true (by rfl) (by rfl) (by rfl) (by unfold icmp; simp)) rfl (by rfl) ?_
        refine rg_step 87 (ob_pick true (by rfl) (by rfl) (by rfl)) rfl (by rfl) ?_
        refine rg_step 4 (ob_assign (by rfl) (by rfl)) rfl (by rfl) ?_
        refine rg_end ?_
        intro w8 he8
        simp only [asg, List.set_cons_zero, List.set_cons_succ, List.map_cons, List.map_nil, opens]
        have HB8' := hid (show Below B w w8 from Below.trans HB.out (Below.mono he8 (HLEB.out _ HB.out)))
        clear he8
        go_wp2_with fail
        go_ret
        exact ⟨rfl, HBX.out _ HB8'.out⟩
end Go.Proofs.Ytoonhcmeklmnlaa
