/- The walk of the law SnapsPlays. -/
import Derived.Test.YtjekfifnhdoamaaSp3
import Derived.Test.YtjekfifnhdoamaaSn4
import Derived.Test.YtjekfifnhdoamaaRgN
import Derived.Test.YtjekfifnhdoamaaOpenSn
import Derived.Deep.CutBlock
import Derived.Deep.CutRange
set_option linter.unusedSimpArgs false
set_option linter.unusedVariables false
set_option linter.unnecessarySimpa false
namespace Go.Rg
open Go.RowKit
theorem uponN_call {P : Program} {J : World → Prop} {v : Value} {w : World} {ρ : Operand → Value} {t : Tmp} {f : FuncId} {xs : Array Operand} {tys : Array TypeId} {ty : TypeId} {pos : String} {aft : Array Edge} (vs : List Value)
    (h0 : ρ (.func f) = .func (.func f) #[] #[]) (ha : xs.toList.map ρ = vs) (hf : ∀ (args : Array Value) (w : World), (callFunc f args).run P w = .ok (.enter f args) w)
    (h : Calls P f vs.toArray w (fun e w'' => e = .returned v ∧ J w'')) : UponN P v J ((execOp ρ ⟨some t, .call ⟨.value (.func f), xs, tys⟩, ty, pos, aft, none⟩).run P w) := by
  have hr : (execOp ρ ⟨some t, .call ⟨.value (.func f), xs, tys⟩, ty, pos, aft, none⟩).run P w = .ok (.enter f (xs.map ρ)) w := by
    simp [execOp, resolve, h0, Deferred.ofValue, invoke, Sem.run_bind, hf]
  rw [hr]
  have e : xs.map ρ = vs.toArray := by
    apply Array.toList_inj.1
    rw [Array.toList_map, ha]
  show Calls P f (xs.map ρ) w _
  rw [e]
  exact h
end Go.Rg
namespace Go.Proofs.Ytjekfifnhdoamaa
open Go.RowKit Go.Rg Go.St

theorem setL_same (L : Nat → Bool) (i : Nat) : setL L i i = true := by simp [setL]
theorem setL_other (L : Nat → Bool) {i j : Nat} (h : j ≠ i) : setL L i j = L j := by simp [setL, h]
/-- two lists of the same numbers, both rising, are one -/
theorem rise_same {m : Nat} {f : Nat → Int} {L : Hd} {out : List Int} (h1 : Rise f m) (h2 : ∀ v, (∃ k, k < m ∧ f k = v) ↔ ∃ p, p ∈ L ∧ p.2.1 = v) (h3 : out.Pairwise (· < ·)) (h4 : ∀ x, x ∈ out ↔ ∃ p, p ∈ L ∧ p.2.1 = x) :
    out.length = m ∧ ∀ i, i < m → (out[i]?).getD 0 = f i := by
  have e : out = (List.range m).map f := by
    refine sorted_same h3 (List.pairwise_iff_getElem.2 fun i j hi hj hij => ?_) fun x => ?_
    · simp at hi hj ⊢
      exact h1 i j hij hj
    · rw [h4, ← h2]
      constructor
      · rintro ⟨k, hk, rfl⟩; exact List.mem_map.2 ⟨k, List.mem_range.2 hk, rfl⟩
      · intro hx
        obtain ⟨k, hk, rfl⟩ := List.mem_map.1 hx
        exact ⟨k, List.mem_range.1 hk, rfl⟩
  subst e
  refine ⟨by simp, fun i hi => ?_⟩
  simp [hi]
/-- both sets, alike -/
structure Both (sb mb rb : Nat) (L : Hd) (clock : Nat) (taken : Int) (k : Nat) (w wr : World) : Prop where
  sn : SnAt w.heap.size sb mb L clock taken wr
  rf : RefS rb L taken wr
  bel : Below w.heap.size w wr
  r1 : sb < rb
  r2 : mb < rb
  len : L.length ≤ 100
  nk : (L.map (·.1)).Nodup
  t0 : 0 ≤ taken
  tk : taken ≤ k
theorem Both.go {sb mb rb : Nat} {L : Hd} {clock : Nat} {taken : Int} {k : Nat} {w wr wx : World} (h : Both sb mb rb L clock taken k w wr) (he : Ext wr wx) : Both sb mb rb L clock taken k w wx :=
  ⟨h.sn.go he, h.rf.go he, Below.trans h.bel (Below.mono he h.bel.size), h.r1, h.r2, h.len, h.nk, h.t0, h.tk⟩
theorem Both.up {sb mb rb : Nat} {L : Hd} {clock : Nat} {taken : Int} {k : Nat} {w wr : World} (h : Both sb mb rb L clock taken k w wr) : Both sb mb rb L clock taken (k + 1) w wr :=
  ⟨h.sn, h.rf, h.bel, h.r1, h.r2, h.len, h.nk, h.t0, by have := h.tk; omega⟩
theorem Both.lo {sb mb rb : Nat} {L : Hd} {clock : Nat} {taken : Int} {k : Nat} {w wr : World} (h : Both sb mb rb L clock taken k w wr) : w.heap.size ≤ rb := by
  have := h.r1; have := h.sn.bs; omega
theorem Both.took {sb mb rb : Nat} {L : Hd} {clock : Nat} {taken seq : Int} {k : Nat} {w wr w4 w5 : World} (h : Both sb mb rb L clock taken k w wr) (hn : L.length < 100) (h4 : SnAt w.heap.size sb mb (L ++ [(taken, seq, clock)]) (clock + 1) (taken + 1) w4) (o4 : Only sb mb wr w4)
    (h5 : RefS rb (L ++ [(taken, seq, clock)]) (taken + 1) w5) (b5 : Below rb w4 w5) : Both sb mb rb (L ++ [(taken, seq, clock)]) (clock + 1) (taken + 1) (k + 1) w w5 := by
  refine ⟨h4.kept (b5.block _ h.r1) (b5.block _ h.r2), h5, Below.trans (Below.trans h.bel (o4.below h.sn.bs h.sn.bm h.bel.size)) (Below.mono b5 h.lo), h.r1, h.r2, by simp; omega, ?_, by have := h.t0; omega, by have := h.tk; omega⟩
  rw [List.map_append, List.nodup_append]
  refine ⟨h.nk, by simp, fun a ha b hb => ?_⟩
  obtain ⟨q, hq, rfl⟩ := List.mem_map.1 ha
  simp at hb
  subst hb
  have := h.sn.key q hq
  omega
/-- while both let one go -/
structure RelI (sb mb rb bx : Nat) (L : Hd) (clock : Nat) (taken : Int) (c : SCall) (w wc : World) (Ln : Nat → Bool) (w' : World) : Prop where
  bel : Below w.heap.size w w'
  bx : w'.heap[bx]? = some (.cells #[.int .i64 c.kind, .int .u64 c.seq, .int .i64 c.id] 32 (0, 0))
  sn : SnAt w.heap.size sb mb (bif Ln 3 then lessS L c.id else L) clock taken w'
  rf : RefS rb (bif Ln 7 then lessS L c.id else L) taken w'
theorem RelI.go {sb mb rb bx : Nat} {L : Hd} {clock : Nat} {taken : Int} {c : SCall} {w wc w1 w2 : World} {Ln : Nat → Bool} (h : RelI sb mb rb bx L clock taken c w wc Ln w1) (he : Ext w1 w2) : RelI sb mb rb bx L clock taken c w wc Ln w2 :=
  ⟨Below.trans h.bel (Below.mono he h.bel.size), (he.block _ (lt_of_at h.bx)).trans h.bx, h.sn.go he, h.rf.go he⟩
theorem RelI.read {sb mb rb bx : Nat} {L : Hd} {clock : Nat} {taken : Int} {c : SCall} {w wc w1 w2 : World} {Ln : Nat → Bool} (h : RelI sb mb rb bx L clock taken c w wc Ln w1) (he : Ext w1 w2) {i : Nat} (hi : i ≠ 3 ∧ i ≠ 7) : RelI sb mb rb bx L clock taken c w wc (setL Ln i) w2 := by
  have h' := h.go he
  exact ⟨h'.bel, h'.bx, by rw [setL_other Ln (Ne.symm hi.1)]; exact h'.sn, by rw [setL_other Ln (Ne.symm hi.2)]; exact h'.rf⟩
theorem cf_rel (args : Array Value) (w : World) : (callFunc 19 args).run Try.prog w = .ok (.enter 19 args) w := by kernel_rfl
theorem cf_rel20 (args : Array Value) (w : World) : (callFunc 20 args).run Try.prog w = .ok (.enter 20 args) w := by kernel_rfl
/-- Release, whether it is held or not -/
theorem release_any {B sb mb : Nat} {L : Hd} {clock : Nat} {taken : Int} (id : Int) {w : World} (h : SnAt B sb mb L clock taken w) (hk : (L.map (·.1)).Nodup) :
    Calls Try.prog 19 #[.pointer (some ⟨sb, 0, none⟩), .int .i64 id] w (fun e w' => e = .returned (.int .i64 (seqC L id)) ∧ SnAt B sb mb (lessS L id) clock taken w' ∧ Only sb mb w w') := by
  cases hq : numS L id with
  | none =>
    refine (release_none B sb mb L clock taken id w h hq).mono ?_
    rintro e w' ⟨rfl, rfl⟩
    exact ⟨by unfold seqC; rw [hq]; rfl, by rw [lessS_none hq]; exact h, ⟨rfl, rfl, rfl, Nat.le_refl _, fun _ _ _ _ => rfl⟩⟩
  | some v =>
    refine (release_in B sb mb L clock taken id v w h hq).mono ?_
    rintro e w' ⟨rfl, h1, h2⟩
    exact ⟨by unfold seqC; rw [hq]; rfl, by rw [lessS_drop hk]; exact h1, h2⟩
theorem rel_sn {sb mb rb bx : Nat} {L : Hd} {clock : Nat} {taken : Int} {c : SCall} {w wc w1 : World} {Ln : Nat → Bool} (hk : (L.map (·.1)).Nodup) (hr1 : sb < rb) (hr2 : mb < rb) (hbx : bx ≠ sb ∧ bx ≠ mb) (h : RelI sb mb rb bx L clock taken c w wc Ln w1) (hL : Ln 3 = false) :
    Calls Try.prog 19 #[.pointer (some ⟨sb, 0, none⟩), .int .i64 c.id] w1 (fun e w'' => e = .returned (.int .i64 (seqC L c.id)) ∧ RelI sb mb rb bx L clock taken c w wc (setL Ln 3) w'') := by
  have hs := h.sn
  rw [hL] at hs
  simp only [cond_false] at hs
  refine (release_any c.id hs hk).mono ?_
  rintro e w' ⟨h1, h2, h3⟩
  exact ⟨h1, Below.trans h.bel (h3.below h.sn.bs h.sn.bm h.bel.size), (h3.block _ (lt_of_at h.bx) hbx.1 hbx.2).trans h.bx, by rw [setL_same]; exact h2, by rw [setL_other Ln (by decide)]; exact h.rf.only h3 hr1 hr2⟩
theorem rel_rf {sb mb rb bx : Nat} {L : Hd} {clock : Nat} {taken : Int} {c : SCall} {w wc w1 : World} {Ln : Nat → Bool} (hn : L.length ≤ 100) (hlo : w.heap.size ≤ rb) (hr1 : sb < rb) (hr2 : mb < rb) (hbx : bx ≠ rb) (h : RelI sb mb rb bx L clock taken c w wc Ln w1) (hL : Ln 7 = false) :
    Calls Try.prog 20 #[.pointer (some ⟨rb, 0, none⟩), .int .i64 c.id] w1 (fun e w'' => e = .returned (.int .i64 (seqC L c.id)) ∧ RelI sb mb rb bx L clock taken c w wc (setL Ln 7) w'') := by
  have hr := h.rf
  rw [hL] at hr
  refine (release20_in rb L taken c.id w1 hr hn).mono ?_
  rintro e w' ⟨h1, h2, h3⟩
  refine ⟨h1, Below.trans h.bel (h3.below hlo hlo h.bel.size), (h3.block _ (lt_of_at h.bx) hbx hbx).trans h.bx, ?_, by rw [setL_same]; exact h2⟩
  rw [setL_other Ln (by decide)]
  exact h.sn.kept (h3.block _ (lt_of_at h.sn.row) (Nat.ne_of_lt hr1) (Nat.ne_of_lt hr1)) (h3.block _ (lt_of_at h.sn.map) (Nat.ne_of_lt hr2) (Nat.ne_of_lt hr2))
set_option maxRecDepth 100000 in
set_option maxHeartbeats 8000000 in
theorem snapsPlays_walk (v0 : Value) (l : List SCall) (w : World) (h0 : SlS w v0 3 eSCall l) (hl : l.length ≤ 10000000000000) :
    Calls Try.prog 4 #[v0] w (AwakeS w) := by
  obtain ⟨a0, c0, rfl, hlc, hcm, hcell⟩ := h0.ex
  have HC0 := hid hcell
  have HLC := hid (And.intro hlc hcm)
  have HEX := hid (show ∀ w', Below w.heap.size w w' → Ext w w' from fun _ h => h)
  clear hcell h0 hlc hcm
  go_enter Try.func4, Try.ntmps4
  go_wp2_with fail
  refine (awake20 w).mono ?_
  rintro e w1 ⟨rfl, he1⟩
  have E1 := hid he1
  clear he1
  go_wp2_with fail
  refine (new_in _).mono ?_
  rintro e w2 ⟨sb, mb, rfl, h2, he2⟩
  have B2 := hid (show Below w.heap.size w w2 from Below.trans E1.out (Below.mono he2 E1.out.size))
  have H2 := hid (show SnAt w.heap.size sb mb [] 0 0 w2 from ⟨h2.row, h2.map, Nat.le_trans E1.out.size h2.bs, Nat.le_trans E1.out.size h2.bm, h2.born, h2.nd, h2.key⟩)
  have HSN := hid (show sb < w2.heap.size ∧ mb < w2.heap.size from ⟨lt_of_at h2.row, lt_of_at h2.map⟩)
  clear h2 he2
  go_upto_region 6 with fail
  have RF := hid (show RefS w2.heap.size [] 0 (w2.alloc (.cells #[.slice none 0 0, .int .i64 0] 29)) from ⟨.slice none 0 0, heap_alloc_new w2 _, World.ownsRow_nil _ _ _ _⟩)
  have HB := hid (show Both sb mb w2.heap.size [] 0 0 0 w (w2.alloc (.cells #[.slice none 0 0, .int .i64 0] 29)) from
    ⟨H2.out.go ((Ext.rfl w2).al _), RF.out, Below.trans B2.out (Below.mono ((Ext.rfl w2).al _) B2.out.size), HSN.out.1, HSN.out.2, Nat.zero_le _, List.nodup_nil, Int.le_refl _, Int.le_refl _⟩)
  generalize w2.alloc (.cells #[.slice none 0 0, .int .i64 0] 29) = w3 at *
  generalize w2.heap.size = rb at *
  clear RF H2 B2 HSN
  go_wp2_with fail
  go_loopw [6] (fun t wr => ∃ k : Nat, k ≤ l.length ∧ t = .int .i64 k ∧ ∃ L clock taken, Both sb mb rb L clock taken k w wr) (fun t _ => l.length - (intOf t).toNat)
  case atStart => exact ⟨0, Nat.zero_le _, rfl, [], 0, 0, HB.out⟩
  case round =>
    clear HB
    obtain ⟨k, hk, rfl, L, clock, taken, hb⟩ := hrel
    have HB := hid hb
    clear hb
    by_cases hkl : k < l.length
    · obtain ⟨b0, off, ha, hcell⟩ := HC0.out (by omega)
      subst ha
      have c0' := ext_cell (HEX.out _ HB.out.bel) (hcell k hkl 0 (by omega))
      have c1' := ext_cell (HEX.out _ HB.out.bel) (hcell k hkl 1 (by omega))
      have c2' := ext_cell (HEX.out _ HB.out.bel) (hcell k hkl 2 (by omega))
      clear hcell
      generalize nth l k = c at *
      obtain ⟨ck, cs, ci⟩ := c
      simp only [eSCall, List.getElem?_cons_zero, List.getElem?_cons_succ, Nat.add_zero] at c0' c1' c2'
      go_upto_region 10 with fail
      have BX := hid (show (wr.alloc (.cells #[.int .i64 ck, .int .u64 cs, .int .i64 ci] 32)).heap[wr.heap.size]? = some (.cells #[.int .i64 ck, .int .u64 cs, .int .i64 ci] 32 (0, 0)) from heap_alloc_new wr _)
      have HB2 := hid (HB.out.go ((Ext.rfl wr).al (.cells #[.int .i64 ck, .int .u64 cs, .int .i64 ci] 32)))
      have HNB := hid (show sb ≠ wr.heap.size ∧ mb ≠ wr.heap.size ∧ rb ≠ wr.heap.size from ⟨Nat.ne_of_lt (lt_of_at HB.out.sn.row), Nat.ne_of_lt (lt_of_at HB.out.sn.map), Nat.ne_of_lt HB.out.rf.lt⟩)
      clear c0' c1' c2' HB
      generalize wr.alloc (.cells #[.int .i64 ck, .int .u64 cs, .int .i64 ci] 32) = wb at *
      generalize wr.heap.size = bx at *
      have d0 : wb.cell? ⟨bx, 0, none⟩ = some (.int .i64 ck) := by rw [cell_of_row _ _ _ _ _ _ BX.out]; rfl
      have d1 : wb.cell? ⟨bx, 1, none⟩ = some (.int .u64 cs) := by rw [cell_of_row _ _ _ _ _ _ BX.out]; rfl
      have d2 : wb.cell? ⟨bx, 2, none⟩ = some (.int .i64 ci) := by rw [cell_of_row _ _ _ _ _ _ BX.out]; rfl
      go_upto_block 2 with fail
      go_cut [8, 9, 10, 11, 12, 13, 14, 15] from 41 to 99 (fun _ _ _ _ _ _ _ _ wx => ∃ L clock taken, Both sb mb rb L clock taken (k + 1) w wx)
      case first =>
        by_cases k1 : ck = 1
        · subst k1
          by_cases hn : L.length < 100
          · have HTK := hid (show taken < 4611686018427387904 by have := HB2.out.tk; omega)
            go_wp2_with fail
            refine (take_on w.heap.size sb mb L clock taken cs _ HB2.out.sn hn HB2.out.t0 HTK.out).mono ?_
            rintro e w4 ⟨rfl, h4, o4⟩
            have SN4 := hid h4
            have O4 := hid o4
            have RF4 := hid (HB2.out.rf.only o4 HB2.out.r1 HB2.out.r2)
            have e1 : w4.cell? ⟨bx, 1, none⟩ = some (.int .u64 cs) := by
              rw [cell_of_row _ _ _ _ _ _ ((o4.block bx (lt_of_at BX.out) (Ne.symm HNB.out.1) (Ne.symm HNB.out.2.1)).trans BX.out)]; rfl
            clear h4 o4
            go_wp2_with fail
            refine (take20_in rb L taken cs clock _ RF4.out hn HB2.out.t0 HTK.out).mono ?_
            rintro e w5 ⟨rfl, h5, b5⟩
            have HB5 := hid (HB2.out.took hn SN4.out O4.out h5 b5)
            clear h5 b5 SN4 O4 RF4 e1
            go_wp2_with fail
            go_meet
            case rel => exact ⟨_, _, _, HB5.out⟩
          · go_wp2_with fail
            refine (take_full w.heap.size sb mb L clock taken cs _ HB2.out.sn (by omega)).mono ?_
            rintro e w4 ⟨rfl, rfl⟩
            go_wp2_with fail
            refine (take20_full rb L taken cs _ HB2.out.rf (by omega)).mono ?_
            rintro e w5 ⟨rfl, rfl⟩
            go_wp2_with fail
            go_meet
            case rel => exact ⟨_, _, _, HB2.out.up⟩
        · have k1b : (ck == 1) = false := by simpa using k1
          have k1d : decide (ck = 1) = false := decide_eq_false k1
          by_cases k2 : ck = 2
          · subst k2
            go_wp2_with fail
            refine (seq_in w.heap.size sb mb L clock taken ci _ HB2.out.sn).mono ?_
            rintro e w4 ⟨rfl, rfl⟩
            go_wp2_with fail
            refine (seq20_in rb L taken ci _ HB2.out.rf HB2.out.len).mono ?_
            rintro e w5 ⟨rfl, he5⟩
            have HB5 := hid (HB2.out.up.go he5)
            clear he5
            generalize (numS L ci).getD 0 = nv at *
            generalize seqC L ci = nc at *
            go_wp2_with fail
            go_meet
            case rel => exact ⟨_, _, _, HB5.out⟩
          · have k2b : (ck == 2) = false := by simpa using k2
            have k2d : decide (ck = 2) = false := decide_eq_false k2
            by_cases k3 : ck = 3
            · subst k3
              go_upto_region 22 with fail
              have HI0 : RelI sb mb rb bx L clock taken ⟨3, cs, ci⟩ w wb (fun _ => false) wb := ⟨HB2.out.bel, BX.out, HB2.out.sn, HB2.out.rf⟩
              refine wp_drawN (RelI sb mb rb bx L clock taken ⟨3, cs, ci⟩ w wb) (by kernel_rfl) (by kernel_rfl) (fun Ln w w' h he => h.go he) HI0 ?_
              refine rgn_read 91 (fun _ _ _ h he => h.read he (by decide)) (fun _ _ _ => ob_move (by rfl) (by rfl)) rfl (by rfl) ?_
              refine rgn_read 92 (fun _ _ _ h he => h.read he (by decide)) (fun _ _ _ => ob_field (n := 0) 2 2 3 (by rfl) (by rfl) Try.underlying32 (by rfl) (by kernel_rfl) rfl) rfl (by rfl) ?_
              refine rgn_read 93 (fun _ _ _ h he => h.read he (by decide)) (fun _ _ hi => ob_load (v := .int .i64 ci) (by rfl) (by rfl) (by kernel_rfl) (fun _ he => (cell_of_row _ _ _ _ _ _ ((he.block _ (lt_of_at hi.bx)).trans hi.bx)).trans rfl)) rfl (by rfl) ?_
              refine rgn_eff [.func 19, .tmp 91, .tmp 93] [.func (.func 19) #[] #[], .pointer (some ⟨sb, 0, none⟩), .int .i64 ci] rfl rfl (by rfl) (fun ρ Ln w hx hi hL _ => uponN_call [.pointer (some ⟨sb, 0, none⟩), .int .i64 ci] (List.cons.inj hx).1 (List.cons.inj hx).2 cf_rel (rel_sn HB2.out.nk HB2.out.r1 HB2.out.r2 ⟨Ne.symm HNB.out.1, Ne.symm HNB.out.2.1⟩ hi hL)) ⟨by rfl, ?_⟩
              refine rgn_read 95 (fun _ _ _ h he => h.read he (by decide)) (fun _ _ _ => ob_move (by rfl) (by rfl)) rfl (by rfl) ?_
              refine rgn_read 96 (fun _ _ _ h he => h.read he (by decide)) (fun _ _ _ => ob_field (n := 0) 2 2 3 (by rfl) (by rfl) Try.underlying32 (by rfl) (by kernel_rfl) rfl) rfl (by rfl) ?_
              refine rgn_read 97 (fun _ _ _ h he => h.read he (by decide)) (fun _ _ hi => ob_load (v := .int .i64 ci) (by rfl) (by rfl) (by kernel_rfl) (fun _ he => (cell_of_row _ _ _ _ _ _ ((he.block _ (lt_of_at hi.bx)).trans hi.bx)).trans rfl)) rfl (by rfl) ?_
              refine rgn_eff [.func 20, .tmp 95, .tmp 97] [.func (.func 20) #[] #[], .pointer (some ⟨rb, 0, none⟩), .int .i64 ci] rfl rfl (by rfl) (fun ρ Ln w hx hi hL _ => uponN_call [.pointer (some ⟨rb, 0, none⟩), .int .i64 ci] (List.cons.inj hx).1 (List.cons.inj hx).2 cf_rel20 (rel_rf HB2.out.len HB2.out.lo HB2.out.r1 HB2.out.r2 (Ne.symm HNB.out.2.2) hi hL)) ⟨by rfl, ?_⟩
              refine rgn_read 99 (fun _ _ _ h he => h.read he (by decide)) (fun _ _ _ => ob_icmp false (by rfl) (by rfl) (by rfl) (by unfold icmp; simp)) rfl (by rfl) ?_
              refine rgn_end ?_
              intro LL w6 hLL hi6
              simp only [asg, List.set_cons_zero, List.set_cons_succ, List.map_cons, List.map_nil, opens]
              have hs6 := hi6.sn
              have hr6 := hi6.rf
              rw [hLL 3 (by decide)] at hs6
              rw [hLL 7 (by decide)] at hr6
              have HB6 := hid (show Both sb mb rb (lessS L ci) clock taken (k + 1) w w6 from ⟨hs6, hr6, hi6.bel, HB2.out.r1, HB2.out.r2, Nat.le_trans (List.length_filter_le _ _) HB2.out.len, HB2.out.nk.sublist (List.filter_sublist.map _), HB2.out.t0, by have := HB2.out.tk; omega⟩)
              clear hs6 hr6 hi6 hLL HI0
              go_wp2_with fail
              go_meet
              case rel => exact ⟨_, _, _, HB6.out⟩
            · have k3b : (ck == 3) = false := by simpa using k3
              have k3d : decide (ck = 3) = false := decide_eq_false k3
              go_wp2_with fail
              go_meet
              case rel => exact ⟨_, _, _, HB2.out.up⟩
      case rest =>
        clear HB2 BX HNB d0 d1 d2
        obtain ⟨L2, clock2, taken2, hb⟩ := hcut
        have HB := hid hb
        clear hb
        have HEXB := hid (show ∀ w', Ext wc w' → Both sb mb rb (L2) (clock2) (taken2) (k + 1) w w' from fun w' h => HB.out.go h)
        clear HB
        go_wp2_with fail
        refine (list_in w.heap.size sb mb (L2) (clock2) (taken2) _ (HEXB.out _ (Ext.rfl _)).sn (HEXB.out _ (Ext.rfl _)).len).mono ?_
        rintro e w6 ⟨g, m, f, rfl, hm, hrow, hg, hri, hmem, he6⟩
        have R6 := hid hrow
        have E6 := hid he6
        have RI := hid hri
        have ME := hid hmem
        have HM := hid (show m ≤ 100 from Nat.le_trans hm (HEXB.out _ (Ext.rfl _)).len)
        have HG := hid hg
        clear hrow he6 hri hmem hm hg
        go_wp2_with fail
        refine (list20_in rb (L2) (taken2) _ (HEXB.out _ E6.out).rf (HEXB.out _ E6.out).len).mono ?_
        rintro e w7 ⟨v7, out, rfl, hs, hmo, hlo, hown, he7⟩
        have E7 := hid (E6.out.tr he7)
        have R7 := hid (R6.out.ext he7)
        have HAB := rise_same RI.out ME.out hs hmo
        have S1 := hid (R7.out.sl1 (by unfold maxLen; have := HM.out; omega))
        have S2 := hid (show Sl1 w7 v7 m (fun i => .int .u64 (f i)) from by
          obtain ⟨h1, h2⟩ := HAB
          rw [← h1]
          exact Sl1.cong (owns_slU hown) fun i hi => by rw [h2 i (by omega)])
        clear hs hmo hlo hown he7 HAB RI ME
        go_wp2_with fail
        refine (same20_in _ v7 m f _ S1.out S2.out HM.out).mono ?_
        rintro e w8 ⟨rfl, he8⟩
        have E8 := hid (E7.out.tr he8)
        have R8 := hid (R7.out.ext he8)
        have hm100 := HM.out
        clear he8 S1 S2 R7 E7 E6 R6
        go_wp2_with fail
        go_loopw [18] (fun t wz => ∃ (j : Nat) (f' : Nat → Int), j ≤ m ∧ t = .int .i64 j ∧ RowU g m m f' wz ∧ Ext wc wz) (fun t _ => m - (intOf t).toNat)
        case atStart => exact ⟨0, f, Nat.zero_le _, rfl, R8.out, E8.out⟩
        case round =>
          clear R8 E8
          obtain ⟨j, f', hj, rfl, hrow, hez⟩ := hrel
          have RZ := hid hrow
          have EZ := hid hez
          clear hrow hez
          by_cases hjm : j < m
          · have cz := RZ.out.cell hjm
            have fz := RZ.out.frozen
            go_wp2_with fail
            go_roundw
            case rel => exact ⟨j + 1, _, by omega, by go_num, RZ.out.set hjm 99, Below.setCell (p := ⟨g, j, none⟩) EZ.out HG.out _⟩
            case measure => first | (simp [intOf]; done) | (simp [intOf]; omega)
          · have HBZ := hid (HEXB.out _ EZ.out)
            clear HEXB EZ RZ
            go_wp2_with fail
            go_roundw
            case rel => exact ⟨k + 1, by omega, by go_num, _, _, _, HBZ.out⟩
            case measure => first | (simp [intOf]; done) | (simp [intOf]; omega)
    · go_wp2_with fail
      go_ret
      exact ⟨rfl, HEX.out _ HB.out.bel⟩
end Go.Proofs.Ytjekfifnhdoamaa
