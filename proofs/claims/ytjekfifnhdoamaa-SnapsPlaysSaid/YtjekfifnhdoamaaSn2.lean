/- Snapshots: two numbers sorted, made one of each; List of two. -/
import Derived.Test.YtjekfifnhdoamaaSn1
import Derived.Laws.CopyRow
set_option linter.unusedSimpArgs false
set_option linter.unusedVariables false
set_option linter.unnecessarySimpa false
namespace Go.St
open Go.RowKit Go.Rg
theorem run_copy_sz {P : Program} (w : World) (dT sT ty elem : TypeId) (g dLen dCap : Nat) (a : Addr) (sLen sCap : Nat) (cur : Array Value) (t : TypeId) (cs : List Value) (n sz : Nat)
    (hu : P.underlying dT = some (.slice elem)) (hs : (P.info? elem).map (·.size) = some sz) (hg : w.heap[g]? = some (.cells cur t (0, 0))) (hn : n = Nat.min sLen dLen) (hcl : cs.length = n * sz)
    (hsrc : ∀ j v, cs[j]? = some v → w.cell? (a.add j) = some v) (hfit : cs.length ≤ cur.size) (h1 : ∀ v ∈ cs, v.oneCell' = true) :
    (Builtin.copy_ #[dT, sT] ty #[.slice (some ⟨g, 0, none⟩) dLen dCap, .slice (some a) sLen sCap]).run P w = .ok (goInt n) (w.setRow g (cs ++ cur.toList.drop cs.length).toArray) := by
  have hl := run_loadCells_list (P := P) w a cs hsrc
  have hst := run_storeCells_at P g 0 t cs 0 cur w hg (by simpa using hfit) h1
  cases hq : P.info? elem with
  | none => simp [hq] at hs
  | some i =>
    have hi : i.size = sz := by simpa [hq] using hs
    rw [hcl] at hl
    simp [Builtin.copy_, run_underlying hu, Builtin.lenOf, Builtin.firstCells, sizeOf, typeInfo, hq, hi, ← hn, hl, hst]
theorem wpList_copy_sz {P : Program} {w : World} {ops : Array Oper} {rest : List Oper} {o : Oper} {a : Act} {Q : Exit → Act → World → Prop} (hgd : o.guard = none) (d s : Operand) (dT sT : TypeId)
    (ho : o.op = .call { callee := .builtin .copy, args := #[d, s], argTypes := #[dT, sT] }) (elem : TypeId) (sz : Nat) (hu : P.underlying dT = some (.slice elem)) (hsz : (P.info? elem).map (·.size) = some sz)
    (g dLen dCap : Nat) (ad : Addr) (sLen sCap : Nat) (hd : a.eval d = .slice (some ⟨g, 0, none⟩) dLen dCap) (hs : a.eval s = .slice (some ad) sLen sCap)
    (cur : Array Value) (t : TypeId) (hg : w.heap[g]? = some (.cells cur t (0, 0))) (cs : List Value) (n : Nat) (hn : n = Nat.min sLen dLen) (hcl : cs.length = n * sz)
    (hsrc : ∀ j v, cs[j]? = some v → w.cell? (ad.add j) = some v) (hfit : cs.length ≤ cur.size) (h1 : ∀ v ∈ cs, v.oneCell' = true)
    (h : wpList P ops Q rest (a.put o.dst (goInt n)) (w.setRow g (cs ++ cur.toList.drop cs.length).toArray)) : wpList P ops Q (o :: rest) a w := by
  refine wpList_plain hgd fun K hK => ?_
  have hrun := run_copy_sz (P := P) w dT sT o.type elem g dLen dCap ad sLen sCap cur t cs n sz hu hsz hg hn hcl hsrc hfit h1
  unfold Oper.wp
  simp [execOp, ho, resolve, invoke, builtin, hd, hs, hrun, Result.andThen]
  exact hK _ _ h
theorem owns_at {w : World} {base : Nat} {e : TypeId} {sz g n cap : Nat} {xs : List Value} (h : w.ownsRow base e sz (.slice (some ⟨g, 0, none⟩) n cap) n xs) : ∃ cur, w.heap[g]? = some (.cells cur e (0, 0)) ∧ cur.size = cap * sz ∧ cur.toList.take (n * sz) = xs ∧ base ≤ g ∧ n ≤ cap ∧ cap ≤ maxLen := by
  rcases h.2 with ⟨h1, _⟩ | ⟨g', cap', cur, h1, hb, hg, hn, hm, hcs, htk⟩
  · cases h1
  · simp only [Value.slice.injEq, Option.some.injEq, Addr.mk.injEq] at h1
    obtain ⟨⟨rfl, _, _⟩, _, rfl⟩ := h1
    exact ⟨cur, hg, hcs, htk, hb, hn, hm⟩
end Go.St
namespace Go.Proofs.Ytjekfifnhdoamaa
open Go.RowKit Go.Rg Go.St

/-- two numbers at the head of a block -/
def Two (b cap : Nat) (x y : Int) (w : World) : Prop := ∃ cur : Array Value, w.heap[b]? = some (.cells cur 30 (0, 0)) ∧ cur.size = cap ∧ cur[0]? = some (.int .u64 x) ∧ cur[1]? = some (.int .u64 y)
theorem Two.cells {b cap : Nat} {x y : Int} {w : World} (h : Two b cap x y w) : w.cell? ⟨b, 0, none⟩ = some (.int .u64 x) ∧ w.cell? ⟨b, 1, none⟩ = some (.int .u64 y) := by
  obtain ⟨cur, h1, _, h2, h3⟩ := h
  exact ⟨by rw [cell_of_row _ _ _ _ _ _ h1]; exact h2, by rw [cell_of_row _ _ _ _ _ _ h1]; exact h3⟩
theorem Two.frozen {b cap : Nat} {x y : Int} {w : World} (h : Two b cap x y w) (i : Nat) : w.frozen? ⟨b, i, none⟩ = false := by
  obtain ⟨cur, h1, _⟩ := h
  exact frozen_of_row _ _ _ _ _ h1
theorem Two.lt {b cap : Nat} {x y : Int} {w : World} (h : Two b cap x y w) : b < w.heap.size := by obtain ⟨cur, h1, _⟩ := h; exact lt_of_at h1
theorem Two.kept {b cap : Nat} {x y : Int} {w w' : World} (h : Two b cap x y w) (he : w'.heap[b]? = w.heap[b]?) : Two b cap x y w' := by
  obtain ⟨cur, h1, h2⟩ := h
  exact ⟨cur, he.trans h1, h2⟩
theorem Two.set1 {b cap : Nat} {x y z : Int} {w : World} (h : Two b cap x y w) : Two b cap x z (w.setCell ⟨b, 1, none⟩ (.int .u64 z)) := by
  obtain ⟨cur, h1, h2, h3, h4⟩ := h
  have hl := (Array.getElem?_eq_some_iff.1 h4).1
  exact ⟨_, heap_setCell_same _ _ _ _ _ _ h1, by simpa using h2, by simpa [Array.getElem?_setIfInBounds] using h3, by simp [hl]⟩
theorem Two.set0 {b cap : Nat} {x y z : Int} {w : World} (h : Two b cap x y w) : Two b cap z y (w.setCell ⟨b, 0, none⟩ (.int .u64 z)) := by
  obtain ⟨cur, h1, h2, h3, h4⟩ := h
  have hl := (Array.getElem?_eq_some_iff.1 h3).1
  exact ⟨_, heap_setCell_same _ _ _ _ _ _ h1, by simpa using h2, by simp [hl], by simpa [Array.getElem?_setIfInBounds] using h4⟩

def mnI (x y : Int) : Int := if y < x then y else x
def mxI (x y : Int) : Int := if y < x then x else y
theorem mm_pos {x y : Int} (h : y < x) : mnI x y = y ∧ mxI x y = x := by unfold mnI mxI; rw [if_pos h, if_pos h]; exact ⟨rfl, rfl⟩
theorem mm_neg {x y : Int} (h : ¬ y < x) : mnI x y = x ∧ mxI x y = y := by unfold mnI mxI; rw [if_neg h, if_neg h]; exact ⟨rfl, rfl⟩
theorem isnan_in (x : Int) (w : World) : Calls Try.prog 101 #[.int .u64 x] w (fun e w' => e = .returned (.bool false) ∧ w = w') := by
  go_enter Try.func101, Try.ntmps101
  go_wp2
  go_ret
  exact ⟨rfl, rfl⟩
theorem less_in (x y : Int) (w : World) : Calls Try.prog 86 #[.int .u64 x, .int .u64 y] w (fun e w' => e = .returned (.bool (decide (x < y))) ∧ w = w') := by
  go_enter Try.func86, Try.ntmps86
  go_wp2_with (go_at_call 101; refine (isnan_in _ _).mono ?_; rintro e w' ⟨rfl, rfl⟩)
  go_ret
  exact ⟨rfl, rfl⟩
theorem cf_less (args : Array Value) (w : World) : (callFunc 86 args).run Try.prog w = .ok (.enter 86 args) w := by kernel_rfl

set_option maxRecDepth 100000 in
set_option maxHeartbeats 2000000 in
theorem ins2_in (b cap : Nat) (x y : Int) (w : World) (h : Two b cap x y w) (hcap : 2 ≤ cap) :
    Calls Try.prog 80 #[.slice (some ⟨b, 0, none⟩) 2 cap, .int .i64 0, .int .i64 2] w (fun e w' => e = .returned (.tuple #[]) ∧ Two b cap (mnI x y) (mxI x y) w' ∧ Below b w w') := by
  have H := hid h
  obtain ⟨c0, c1⟩ := h.cells
  have f0 := h.frozen
  clear h
  go_enter Try.func80, Try.ntmps80
  go_wp2
  go_loopw [6] (fun t wr => (t = .int .i64 1 ∧ wr = w) ∨ (t = .int .i64 2 ∧ Two b cap (mnI x y) (mxI x y) wr ∧ Below b w wr)) (fun t _ => 2 - (intOf t).toNat)
  case atStart => exact .inl ⟨rfl, rfl⟩
  case round =>
    rcases hrel with ⟨rfl, rfl⟩ | ⟨rfl, h2, hb⟩
    · go_wp2
      go_loopw [7] (fun t wz => (t = .int .i64 1 ∧ wz = wr) ∨ (t = .int .i64 0 ∧ y < x ∧ Two b cap y x wz ∧ Below b wr wz)) (fun t _ => (intOf t).toNat)
      case atStart => exact .inl ⟨rfl, rfl⟩
      case round =>
        rcases hrel with ⟨rfl, rfl⟩ | ⟨rfl, hyx, h2, hb⟩
        · go_wp2_with fail
          refine wp_draw (by kernel_rfl) (by kernel_rfl) ?_
          refine rg_step 16 (ob_move (by rfl) (by rfl)) rfl (by rfl) ?_
          refine rg_step 17 (ob_move (by rfl) (by rfl)) rfl (by rfl) ?_
          refine rg_step 18 (ob_icmp true (by rfl) (by rfl) (by rfl) (by decide)) rfl (by rfl) ?_
          refine rg_step 19 (ob_move (by rfl) (by rfl)) rfl (by rfl) ?_
          refine rg_step 20 (ob_move (by rfl) (by rfl)) rfl (by rfl) ?_
          refine rg_step 21 (ob_move (by rfl) (by rfl)) rfl (by rfl) ?_
          refine rg_step 22 (ob_index 1 1 (by rfl) (by rfl) (by rfl) Try.underlying39 (by kernel_rfl) (by decide) (by decide) (by rfl)) rfl (by rfl) ?_
          refine rg_step 23 (ob_load (v := .int .u64 y) (by rfl) (by rfl) (by kernel_rfl) (fun w' he => ext_cell he c1)) rfl (by rfl) ?_
          refine rg_step 24 (ob_move (by rfl) (by rfl)) rfl (by rfl) ?_
          refine rg_step 25 (ob_move (by rfl) (by rfl)) rfl (by rfl) ?_
          refine rg_step 26 (ob_iarith 0 0 (by rfl) (by rfl) (by rfl) (by rfl) (by rfl)) rfl (by rfl) ?_
          refine rg_step 27 (ob_index 1 0 (by rfl) (by rfl) (by rfl) Try.underlying39 (by kernel_rfl) (by decide) (by decide) (by rfl)) rfl (by rfl) ?_
          refine rg_step 28 (ob_load (v := .int .u64 x) (by rfl) (by rfl) (by kernel_rfl) (fun w' he => ext_cell he c0)) rfl (by rfl) ?_
          refine rg_step 29 (ob_call (.ex (.bool (decide (y < x)))) (by rfl) cf_less (fun w' he => gives_ex ((less_in y x w').mono fun e w2 h => ⟨h.1, by rw [h.2]; exact Ext.rfl _⟩))) rfl (by rfl) ?_
          refine rg_step 30 (ob_pick true (by rfl) (by rfl) (by rfl)) rfl (by rfl) ?_
          refine rg_end ?_
          intro w3 he3
          simp only [asg, List.set_cons_zero, List.set_cons_succ, List.map_cons, List.map_nil, opens]
          have H3 := hid (H.out.kept (he3.block _ H.out.lt))
          have B3 := hid (Below.mono he3 (Nat.le_of_lt H.out.lt))
          clear he3 c0 c1 f0
          obtain ⟨c0, c1⟩ := H3.out.cells
          have f0 := H3.out.frozen
          by_cases hyx : y < x
          · have dd : decide (y < x) = true := decide_eq_true hyx
            rw [dd]
            have TT := hid (Two.set0 (z := y) (Two.set1 (z := x) H3.out))
            have TB := hid (show Below b wr ((w3.setCell ⟨b, 1, none⟩ (.int .u64 x)).setCell ⟨b, 0, none⟩ (.int .u64 y)) from Below.setCell (Below.setCell B3.out (Nat.le_refl _) _) (Nat.le_refl _) _)
            have HYX := hid hyx
            clear hyx dd
            go_wp2_with fail
            go_region
            all_goals (go_wp2_with fail; go_roundw)
            case rel => exact .inr ⟨by go_num, HYX.out, TT.out, ⟨TB.out.os, TB.out.tape, TB.out.output, TB.out.size, TB.out.block⟩⟩
            case measure => simp [intOf]
          · have dd : decide (y < x) = false := decide_eq_false hyx
            rw [dd]
            have HYX := hid hyx
            clear hyx dd
            go_wp2_with fail
            go_roundw
            case rel => exact .inr ⟨by go_num, by rw [(mm_neg HYX.out).1, (mm_neg HYX.out).2]; exact H3.out, B3.out⟩
            case measure => simp [intOf]
        · have H2 := hid h2
          have HB := hid hb
          have HYX := hid hyx
          clear h2 hb hyx
          go_wp2_with fail
          refine wp_draw (by kernel_rfl) (by kernel_rfl) ?_
          refine rg_step 16 (ob_move (by rfl) (by rfl)) rfl (by rfl) ?_
          refine rg_step 17 (ob_move (by rfl) (by rfl)) rfl (by rfl) ?_
          refine rg_step 18 (ob_icmp false (by rfl) (by rfl) (by rfl) (by decide)) rfl (by rfl) ?_
          refine rg_step 19 (ob_move (by rfl) (by rfl)) rfl (by rfl) ?_
          refine rg_step 20 (ob_skip (by rfl)) rfl (by rfl) ?_
          refine rg_step 21 (ob_skip (by rfl)) rfl (by rfl) ?_
          refine rg_step 22 (ob_skip (by rfl)) rfl (by rfl) ?_
          refine rg_step 23 (ob_skip (by rfl)) rfl (by rfl) ?_
          refine rg_step 24 (ob_skip (by rfl)) rfl (by rfl) ?_
          refine rg_step 25 (ob_skip (by rfl)) rfl (by rfl) ?_
          refine rg_step 26 (ob_skip (by rfl)) rfl (by rfl) ?_
          refine rg_step 27 (ob_skip (by rfl)) rfl (by rfl) ?_
          refine rg_step 28 (ob_skip (by rfl)) rfl (by rfl) ?_
          refine rg_step 29 (ob_skip (by rfl)) rfl (by rfl) ?_
          refine rg_step 30 (ob_pick false (by rfl) (by rfl) (by rfl)) rfl (by rfl) ?_
          refine rg_end ?_
          intro w3 he3
          simp only [asg, List.set_cons_zero, List.set_cons_succ, List.map_cons, List.map_nil, opens]
          have H3 := hid (H2.out.kept (he3.block _ H2.out.lt))
          have B3 := hid (Below.trans HB.out (Below.mono he3 (Nat.le_of_lt H2.out.lt)))
          clear he3
          go_wp2_with fail
          go_roundw
          case rel => exact .inr ⟨by go_num, by rw [(mm_pos HYX.out).1, (mm_pos HYX.out).2]; exact H3.out, B3.out⟩
          case measure => simp [intOf]
    · have H2 := hid h2
      have HB := hid hb
      clear h2 hb
      go_wp2
      go_end0
      exact ⟨rfl, H2.out, HB.out⟩
set_option maxRecDepth 100000 in
set_option maxHeartbeats 2000000 in
theorem pdq2_in (b cap : Nat) (x y : Int) (w : World) (h : Two b cap x y w) (hcap : 2 ≤ cap) (k : Int) :
    Calls Try.prog 69 #[.slice (some ⟨b, 0, none⟩) 2 cap, .int .i64 0, .int .i64 2, .int .i64 k] w (fun e w' => e = .returned (.tuple #[]) ∧ Two b cap (mnI x y) (mxI x y) w' ∧ Below b w w') := by
  have H := hid h
  clear h
  go_enter Try.func69, Try.ntmps69
  go_wp2
  refine wp_loop_rounds 1 ?_
  rw [rounds_succ]
  go_wp2_with (go_at_call 80; refine (ins2_in b cap x y _ H.out hcap).mono ?_; rintro e w' ⟨rfl, h1, h2⟩; have H1 := hid h1; have H2 := hid h2; clear h1 h2)
  refine bodyPost_ret (results_none rfl _ _ _) rfl ?_
  exact ⟨rfl, H1.out, H2.out⟩
set_option maxRecDepth 100000 in
theorem sort2_in (b cap : Nat) (x y : Int) (w : World) (h : Two b cap x y w) (hcap : 2 ≤ cap) :
    Calls Try.prog 45 #[.slice (some ⟨b, 0, none⟩) 2 cap] w (fun e w' => e = .returned (.tuple #[]) ∧ Two b cap (mnI x y) (mxI x y) w' ∧ Below b w w') := by
  have H := hid h
  clear h
  go_enter Try.func45, Try.ntmps45
  go_wp2_with (first | (go_at_call 70; refine (Try.bits_Len 2 _ (by decide) (by decide)).mono ?_; rintro e w' ⟨rfl, rfl⟩) | (go_at_call 69; refine (pdq2_in b cap x y _ H.out hcap _).mono ?_; rintro e w' ⟨rfl, h1, h2⟩; have H1 := hid h1; have H2 := hid h2; clear h1 h2))
  go_end0
  exact ⟨rfl, H1.out, H2.out⟩
set_option maxRecDepth 100000 in
set_option maxHeartbeats 2000000 in
theorem compact2_in (b cap : Nat) (x y : Int) (w : World) (h : Two b cap x y w) (hcap : 2 ≤ cap) (hxy : x ≠ y) :
    Calls Try.prog 46 #[.slice (some ⟨b, 0, none⟩) 2 cap] w (fun e w' => e = .returned (.slice (some ⟨b, 0, none⟩) 2 cap) ∧ Ext w w') := by
  have H := hid h
  have hne : icmp .eql y x = some false := by unfold icmp; simp [Ne.symm hxy]
  clear h hxy
  go_enter Try.func46, Try.ntmps46
  go_wp2
  go_loopw [3] (fun t wr => (t = .int .i64 1 ∨ t = .int .i64 2) ∧ Ext w wr) (fun t _ => 2 - (intOf t).toNat)
  case atStart => exact ⟨.inl rfl, Ext.rfl _⟩
  case round =>
    obtain ⟨ht, he⟩ := hrel
    have HE := hid he
    clear he
    rcases ht with rfl | rfl
    · have H1 := hid (H.out.kept (HE.out.block _ H.out.lt))
      obtain ⟨c0, c1⟩ := H1.out.cells
      go_wp2_with fail
      refine wp_draw (by kernel_rfl) (by kernel_rfl) ?_
      refine rg_step 16 (ob_move (by rfl) (by rfl)) rfl (by rfl) ?_
      refine rg_step 17 (ob_move (by rfl) (by rfl)) rfl (by rfl) ?_
      refine rg_step 18 (ob_index 1 1 (by rfl) (by rfl) (by rfl) Try.underlying39 (by kernel_rfl) (by decide) (by decide) (by rfl)) rfl (by rfl) ?_
      refine rg_step 19 (ob_load (v := .int .u64 y) (by rfl) (by rfl) (by kernel_rfl) (fun w' he => ext_cell he c1)) rfl (by rfl) ?_
      refine rg_step 20 (ob_move (by rfl) (by rfl)) rfl (by rfl) ?_
      refine rg_step 21 (ob_move (by rfl) (by rfl)) rfl (by rfl) ?_
      refine rg_step 22 (ob_iarith 0 0 (by rfl) (by rfl) (by rfl) (by rfl) (by rfl)) rfl (by rfl) ?_
      refine rg_step 23 (ob_index 1 0 (by rfl) (by rfl) (by rfl) Try.underlying39 (by kernel_rfl) (by decide) (by decide) (by rfl)) rfl (by rfl) ?_
      refine rg_step 24 (ob_load (v := .int .u64 x) (by rfl) (by rfl) (by kernel_rfl) (fun w' he => ext_cell he c0)) rfl (by rfl) ?_
      refine rg_step 25 (ob_icmp false (by rfl) (by rfl) (by rfl) (hne)) rfl (by rfl) ?_
      refine rg_end ?_
      intro w3 he3
      simp only [asg, List.set_cons_zero, List.set_cons_succ, List.map_cons, List.map_nil, opens]
      have HE3 := hid (HE.out.tr he3)
      clear he3 c0 c1
      go_wp2_with fail
      go_roundw
      case rel => exact ⟨.inr (by go_num), HE3.out⟩
      case measure => simp [intOf]
    · go_wp2_with fail
      go_ret
      exact ⟨rfl, HE.out⟩
end Go.Proofs.Ytjekfifnhdoamaa
