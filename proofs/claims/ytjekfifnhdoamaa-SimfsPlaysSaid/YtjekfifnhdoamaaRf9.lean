/- The document's files: Crash. -/
import Derived.Test.YtjekfifnhdoamaaRf8
import Derived.Test.YtjekfifnhdoamaaRgE
set_option linter.unusedSimpArgs false
set_option linter.unusedVariables false
set_option linter.unnecessarySimpa false
namespace Go.Proofs.Ytjekfifnhdoamaa
open Go.RowKit Go.Rg Go.St

def SinceOk (M : FsM) : Prop := ∀ c, c ∈ M.since → CgOk c
theorem cutF_take (picks : List Int) (f : Nat → Fl) (l : Nm) (j : Nat) (h : j < l.length) : cutF picks (l.take (j + 1)) 0 f = updF (cutF picks (l.take j) 0 f) (nth l j).2 ⟨((cutF picks (l.take j) 0 f) (nth l j).2).b.take (((cutF picks (l.take j) 0 f) (nth l j).2).last + pickN picks (j + 1) (((cutF picks (l.take j) 0 f) (nth l j).2).b.length - ((cutF picks (l.take j) 0 f) (nth l j).2).last)), ((cutF picks (l.take j) 0 f) (nth l j).2).last + pickN picks (j + 1) (((cutF picks (l.take j) 0 f) (nth l j).2).b.length - ((cutF picks (l.take j) 0 f) (nth l j).2).last)⟩ := by
  rw [take_succ_nth l j h, cutF_snoc]
  rw [List.length_take, Nat.min_eq_left (Nat.le_of_lt h), Nat.zero_add]
theorem apply_take (l : Nm) (s : List Chg) (j : Nat) (h : j < s.length) : applyC l (s.take (j + 1)) = doneC (nth s j) (applyC l (s.take j)) := by
  unfold applyC
  rw [take_succ_nth s j h, List.foldl_append]
  rfl
/-- a file has turned whole -/
theorem RefAt.setFile {w w' : World} {L : RL} {M : FsM} {i bf off cF n : Nat} {v : Value} {bs : List UInt8} (h : RefAt w L M) (hi : i < M.nf) (hf : FCell w L M i bf off cF) (he : Ext w w') (hb : w'.ownsRow w.heap.size 5 1 v bs.length (Lib.byteCells bs)) :
    RefAt ((w'.setCell ⟨bf, off + i * 2, none⟩ v).setCell ⟨bf, off + i * 2 + 1, none⟩ (.int .i64 (n : Nat))) { L with vb := fun j => if j = i then v else L.vb j } { M with files := updF M.files i ⟨bs, n⟩ } ∧ Ch (fun k => L.vf.ownBlock = some k) w ((w'.setCell ⟨bf, off + i * 2, none⟩ v).setCell ⟨bf, off + i * 2 + 1, none⟩ (.int .i64 (n : Nat))) := by
  have hx := h.ext he
  obtain ⟨rfl, hv, _, _, _, cs, hr⟩ := hf.ext he
  have hbf : bf ≠ L.rb := obj_ne hr hx.row (by simp)
  have hown := hx.fil
  rw [hv] at hown
  have hset := owns_setC (i := 0 + i * 2 + 1) (v := .int .i64 (n : Nat)) (owns_setC (i := 0 + i * 2) (v := v) hown)
  have hfl := flat_set (sz := 2) (j := 0) (v := v) (enc := eFl L M) (enc' := eFl { L with vb := fun j => if j = i then v else L.vb j } M) (fun _ => rfl) (by decide) M.nf i hi (fun x hx => by unfold eFl; simp only; rw [if_neg hx]) (by unfold eFl; simp only [if_true]; rfl)
  have hfl2 := flat_set (sz := 2) (j := 1) (v := .int .i64 (n : Nat)) (enc := eFl { L with vb := fun j => if j = i then v else L.vb j } M) (enc' := eFl { L with vb := fun j => if j = i then v else L.vb j } { M with files := updF M.files i ⟨bs, n⟩, nf := M.nf }) (fun _ => rfl) (by decide) M.nf i hi (fun x hx => by unfold eFl; simp only; rw [updF_other _ _ hx]) (by unfold eFl; simp only; rw [updF_same]; rfl)
  rw [Nat.add_zero] at hfl
  rw [Nat.zero_add, hfl, hfl2] at hset
  have hc : Ch (fun k => k = L.rb ∨ L.vf.ownBlock = some k) w' ((w'.setCell ⟨bf, 0 + i * 2, none⟩ v).setCell ⟨bf, 0 + i * 2 + 1, none⟩ (.int .i64 (n : Nat))) := ((Ch.rfl _ w').setC (.inr (by rw [hv]; rfl))).setC (.inr (by rw [hv]; rfl))
  have hc2 : Ch (fun k => L.vf.ownBlock = some k) w' ((w'.setCell ⟨bf, 0 + i * 2, none⟩ v).setCell ⟨bf, 0 + i * 2 + 1, none⟩ (.int .i64 (n : Nat))) := ((Ch.rfl _ w').setC (by rw [hv]; rfl)).setC (by rw [hv]; rfl)
  have hb2 : ((w'.setCell ⟨bf, 0 + i * 2, none⟩ v).setCell ⟨bf, 0 + i * 2 + 1, none⟩ (.int .i64 (n : Nat))).ownsRow 0 5 1 v bs.length (Lib.byteCells bs) := owns_ch (owns_base hb (Nat.zero_le _)) fun g hg => by
    have hne : g ≠ bf := fun e => own_neG hb hr (by simp) (by rw [hg, e])
    exact (heap_setCell_other _ _ _ _ hne).trans (heap_setCell_other _ _ _ _ hne)
  have hrow := ((heap_setCell_other (w'.setCell ⟨bf, 0 + i * 2, none⟩ v) ⟨bf, 0 + i * 2 + 1, none⟩ _ (.int .i64 (n : Nat)) (Ne.symm hbf)).trans (heap_setCell_other w' ⟨bf, 0 + i * 2, none⟩ _ v (Ne.symm hbf))).trans hx.row
  have R := hx.filesT (v' := L.vf) (vb' := fun j => if j = i then v else L.vb j) (F' := updF M.files i ⟨bs, n⟩) (n' := M.nf) hc hrow (by rw [hv]; rw [Nat.zero_add]; rw [hv] at hset; exact hset) (fun j hj => by
    by_cases e : j = i
    · right
      rw [e, updF_same]
      simp only [if_true]
      exact hb2
    · left
      exact ⟨hj, if_neg e, by rw [updF_other _ _ e]⟩)
  exact ⟨R, (Ch.of_ext he).tr hc2⟩
theorem run_slB_h (a : Option Addr) (n c k : Nat) (h : k ≤ c) (w : World) : (Instr.sliceAt 53 (.slice a n c) none (some (.int .i64 (k : Int))) none).run Try.prog w = .ok (.slice a k c) w := by
  have h0 : (0 : Int) ≤ (k : Int) := Int.natCast_nonneg k
  have h2 : (k : Int) ≤ (c : Int) := by omega
  have h3 : ¬ (c : Int) < (k : Int) := by omega
  cases a with
  | none => simp [go_sem, h0, h2, h3, Try.underlying53]
  | some ad => simp [go_sem, h0, h2, h3, Try.underlying53]
theorem ob_slB_h {ops : Array Oper} {w0 : World} {s : Nat → Option SV} {d : Option Tmp} {ty : TypeId} {pos : String} {aft : Array Edge} {g : Option (Nat × Bool)} {x y : Operand} {a : Option Addr} {n c k : Nat} (hg : gw ops s ⟨d, .slice 53 x none (some y) none, ty, pos, aft, g⟩ = some true) (hx : lk s x = some (.ex (.slice a n c))) (hy : lk s y = some (.ex (.int .i64 (k : Int)))) (h : k ≤ c) :
    Ob Try.prog ops w0 ⟨d, .slice 53 x none (some y) none, ty, pos, aft, g⟩ s (.ex (.slice a k c)) :=
  ob_ex2 hg (x := x) (y := y) rfl hx hy fun ρ w _ h1 h2 => by
    simp only [execOp, Option.map, h1, h2, Sem.run_bind, run_slB_h a n c k h, Result.andThen_ok, Sem.run_pure]
theorem row0_u8 (w : World) : (Instr.buildSlice 53 0 #[]).run Try.prog w = .ok (.slice (some ⟨w.heap.size, 0, none⟩) 0 0) (w.alloc (.cells #[] 5)) := by kernel_rfl
theorem run_bFl (a : Option Addr) (n c : Nat) (m : Int) (w : World) : (Instr.build 115 #[(0, .slice a n c), (1, .int .i64 m)]).run Try.prog w = .ok (.agg #[.slice a n c, .int .i64 m]) w := by kernel_rfl
theorem run_storeFl {w : World} {b o : Nat} {a : Option Addr} {n c : Nat} {m : Int} {x y : Value} (hx : w.cell? ⟨b, o, none⟩ = some x) (hy : w.cell? ⟨b, o + 1, none⟩ = some y) (hf : ∀ j, w.frozen? ⟨b, j, none⟩ = false) :
    (Instr.storeAt 115 (.pointer (some ⟨b, o, none⟩)) (.agg #[.slice a n c, .int .i64 m])).run Try.prog w = .ok () ((w.setCell ⟨b, o, none⟩ (.slice a n c)).setCell ⟨b, o + 1, none⟩ (.int .i64 m)) := by
  simp [go_sem, Instr.storeAt, Instr.sureAddr, hx, hy, hf]
/-- how far the cutting of one file has come -/
def CutC (wX : World) (bf at_ : Nat) (bt : List UInt8) (m : Nat) : Nat → Value → World → Prop
  | 0, _, w => Ext wX w
  | 1, v, w => Ext wX w ∧ ∃ q, v = .slice (some ⟨q, 0, none⟩) 0 0 ∧ wX.heap.size ≤ q ∧ w.ownsRow 0 5 1 v 0 []
  | 2, v, w => Ext wX w ∧ ∃ a c, v = .slice a bt.length c ∧ w.ownsRow wX.heap.size 5 1 v bt.length (Lib.byteCells bt)
  | 3, v, w => Ext wX w ∧ ∃ a c, v = .agg #[.slice a bt.length c, .int .i64 (m : Nat)] ∧ w.ownsRow wX.heap.size 5 1 (.slice a bt.length c) bt.length (Lib.byteCells bt)
  | _ + 4, _, w => ∃ w5 a c, Ext wX w5 ∧ w5.ownsRow wX.heap.size 5 1 (.slice a bt.length c) bt.length (Lib.byteCells bt) ∧ w = (w5.setCell ⟨bf, at_, none⟩ (.slice a bt.length c)).setCell ⟨bf, at_ + 1, none⟩ (.int .i64 (m : Nat))
theorem cutC_ext {wX w : World} {bf at_ m k : Nat} {bt : List UInt8} {v : Value} (hk : k < 4) (h : CutC wX bf at_ bt m k v w) : Ext wX w := by
  rcases (show k = 0 ∨ k = 1 ∨ k = 2 ∨ k = 3 by omega) with rfl | rfl | rfl | rfl
  · exact h
  · exact h.1
  · exact h.1
  · exact h.1
theorem cutC_stay {wX w w' : World} {bf at_ m k : Nat} {bt : List UInt8} {v : Value} (hk : k < 4) (he : Ext w w') (h : CutC wX bf at_ bt m k v w) : CutC wX bf at_ bt m k v w' := by
  rcases (show k = 0 ∨ k = 1 ∨ k = 2 ∨ k = 3 by omega) with rfl | rfl | rfl | rfl
  · exact Ext.tr h he
  · obtain ⟨h1, q, h2, h3, h4⟩ := h
    exact ⟨h1.tr he, q, h2, h3, owns_ext h4 he⟩
  · obtain ⟨h1, a, c, h2, h3⟩ := h
    exact ⟨h1.tr he, a, c, h2, owns_ext h3 he⟩
  · obtain ⟨h1, a, c, h2, h3⟩ := h
    exact ⟨h1.tr he, a, c, h2, owns_ext h3 he⟩
theorem cutC_one {wX w : World} {bf at_ m : Nat} {bt : List UInt8} {v : Value} (h : CutC wX bf at_ bt m 0 v w) : CutC wX bf at_ bt m 1 (.slice (some ⟨w.heap.size, 0, none⟩) 0 0) (w.alloc (.cells #[] 5)) :=
  ⟨Ext.al h _, _, rfl, (show Ext wX w from h).size, own_new0 w _ _⟩
section
variable {ρ : Operand → Value} {d : Option Tmp} {ty : TypeId} {pos : String} {aft : Array Edge} {g : Option (Nat × Bool)}
set_option maxRecDepth 100000 in
theorem cutC_two {wX w : World} {bf at_ m : Nat} {bt : List UInt8} {s x : Operand} {u : Value} (h : CutC wX bf at_ bt m 1 (ρ s) w) (hb : SlB w u bt) (hl : bt.length ≤ 140737488355328) (hx : ρ x = u) :
    UponV Try.prog anyV (fun v w' => CutC wX bf at_ bt m 2 v w') ((execOp ρ ⟨d, .call ⟨.builtin .append, #[s, x], #[53, 53]⟩, ty, pos, aft, g⟩).run Try.prog w) := by
  obtain ⟨h1, q, h2, h3, h4⟩ := h
  obtain ⟨v', w', hrun, hp⟩ := app_bytes (xs := []) h4 hb (by simpa using hl) ty
  have X := app_ext h1 hp (fun k hk => by rw [h2] at hk; cases hk; exact h3)
  obtain ⟨a, c, rfl, _⟩ := slice_ofG hp.own
  exact uc_app rfl hx hrun ⟨X.1, a, c, rfl, owns_up hp.own X.2⟩
set_option maxRecDepth 100000 in
theorem cutC_three {wX w : World} {bf at_ m : Nat} {bt : List UInt8} {x y : Operand} (h : CutC wX bf at_ bt m 2 (ρ x) w) (hy : ρ y = .int .i64 (m : Nat)) :
    UponV Try.prog anyV (fun v w' => CutC wX bf at_ bt m 3 v w') ((execOp ρ ⟨d, .build 115 #[(0, x), (1, y)], ty, pos, aft, g⟩).run Try.prog w) := by
  obtain ⟨h1, a, c, h2, h3⟩ := h
  rw [h2] at h3
  exact uc_build2 h2 hy (run_bFl a bt.length c m w) ⟨h1, a, c, rfl, h3⟩
set_option maxRecDepth 100000 in
theorem cutC_four {wX w : World} {bf at_ m : Nat} {bt : List UInt8} {p x : Operand} {u1 u2 : Value} (h : CutC wX bf at_ bt m 3 (ρ x) w) (c0 : w.cell? ⟨bf, at_, none⟩ = some u1) (c1 : w.cell? ⟨bf, at_ + 1, none⟩ = some u2) (hf : ∀ j, w.frozen? ⟨bf, j, none⟩ = false) (hp : ρ p = .pointer (some ⟨bf, at_, none⟩)) :
    UponV Try.prog anyV (fun _ w' => ∀ v, CutC wX bf at_ bt m 4 v w') ((execOp ρ ⟨d, .store 115 p x, ty, pos, aft, g⟩).run Try.prog w) := by
  obtain ⟨h1, a, c, h2, h3⟩ := h
  exact uc_store hp h2 (run_storeFl c0 c1 hf) fun v => ⟨w, a, c, h1, h3, rfl⟩
end
theorem wrap_of {n : Nat} (h : n ≤ 1048576) : IntKind.i64.wrap (n : Int) = (n : Int) ∧ wrap64 (n : Int) = (n : Int) := ⟨by simp [IntKind.wrap_i64]; omega, by unfold wrap64; omega⟩
theorem wrap_succ {n : Nat} (h : n ≤ 1000000000000) : IntKind.i64.wrap ((n : Int) + 1) = (n : Int) + 1 ∧ wrap64 ((n : Int) + 1) = (n : Int) + 1 := ⟨by simp [IntKind.wrap_i64]; omega, by unfold wrap64; omega⟩
theorem cut_nums {n k d q m : Nat} (h1 : k ≤ n ∧ n ≤ 1048576) (hd : d = n - k) (hq : q ≤ d) (hm : m = k + q) : (n : Int) - (k : Int) = (d : Nat) ∧ (k : Int) + (q : Int) = (m : Nat) ∧ m ≤ n ∧ m ≤ 1048576 ∧ d ≤ 1048576 ∧ d < 4611686018427387904 := by omega
theorem take_small {l : List UInt8} {m : Nat} (h : m ≤ 1048576) : (l.take m).length ≤ 140737488355328 := by rw [List.length_take]; omega
theorem int_succ (i : Nat) : ((i + 1 : Nat) : Int) = (i : Int) + 1 := by omega
theorem lt_big {i n : Nat} (h : i < n) (h2 : n ≤ 1000000000000) : i ≤ 1000000000000 ∧ 0 < n := by omega
theorem slb_cut {w : World} {a : Option Addr} {c : Nat} {bs : List UInt8} (h : SlB w (.slice a bs.length c) bs) (n : Nat) (hn : n ≤ bs.length) : SlB w (.slice a n c) (bs.take n) := by
  obtain ⟨a', c', e, h1, h2, h3⟩ := h.ex
  simp only [Value.slice.injEq] at e
  obtain ⟨rfl, _, rfl⟩ := e
  refine ⟨a, c, by rw [List.length_take, Nat.min_eq_left hn], by rw [List.length_take]; omega, h2, fun hp => ?_⟩
  rw [List.length_take] at hp
  obtain ⟨b, off, e, hc⟩ := h3 (by omega)
  refine ⟨b, off, e, fun i hi => ?_⟩
  rw [List.length_take] at hi
  rw [hc i (by omega)]
  unfold nth
  rw [List.getD_eq_getElem?_getD, List.getD_eq_getElem?_getD, List.getElem?_take, if_pos (by omega)]
theorem at4 {α : Type} [Inhabited α] {w : World} {b off : Nat} {enc : α → List Value} {xs : List α} {k : Nat} (h : ∀ j, j < 4 → w.cell? ⟨b, off + k * 4 + j, none⟩ = (enc (nth xs k))[j]?) {c0 c1 c2 c3 : Value} (e : enc (nth xs k) = [c0, c1, c2, c3]) :
    w.cell? ⟨b, off + k * 4, none⟩ = some c0 ∧ w.cell? ⟨b, off + k * 4 + 1, none⟩ = some c1 ∧ w.cell? ⟨b, off + k * 4 + 2, none⟩ = some c2 ∧ w.cell? ⟨b, off + k * 4 + 3, none⟩ = some c3 := by
  rw [e] at h
  exact ⟨h 0 (by omega), h 1 (by omega), h 2 (by omega), h 3 (by omega)⟩
theorem eCg_four (c : Chg) : ∃ a0 a1 a2 a3, eCg c = [a0, a1, a2, a3] := by
  unfold eCg
  split
  · exact ⟨_, _, _, _, rfl⟩
  · split <;> exact ⟨_, _, _, _, rfl⟩
theorem box_three {w : World} {L : RL} {M : FsM} (h : RefAt w L M) (i j k : Nat) (x y z : Value) : (((w.setCell ⟨L.rb, i, none⟩ x).setCell ⟨L.rb, j, none⟩ y).setCell ⟨L.rb, k, none⟩ z).heap[L.rb]? = some (.cells ((((rfC L M).setIfInBounds i x).setIfInBounds j y).setIfInBounds k z) 113 (0, 0)) :=
  heap_setCell_same _ _ _ _ _ _ (box_two h i j x y)
/-- what a crash has done so far: the names are those that last, so many files are cut -/
structure CutSt (w : World) (L : RL) (M : FsM) (v : Value) (l : Nm) (picks : List Int) (j : Nat) (wr : World) (Lr : RL) : Prop where
  rb : Lr.rb = L.rb
  at_ : RefAt wr Lr { M with files := cutF picks (l.take j) 0 M.files, names := l, lasts := l, since := [] }
  vn : Lr.vn = v
  ch : Ch (RFoot L M.nf) w wr
  ft : ∀ k, RFoot Lr M.nf k → RFoot L M.nf k ∨ w.heap.size ≤ k
theorem ch_after {F G : Nat → Prop} {w w1 w2 : World} (h1 : Ch F w w1) (h2 : Ch G w1 w2) (hG : ∀ k, G k → F k ∨ w.heap.size ≤ k) : Ch F w w2 :=
  ⟨h2.os.trans h1.os, h2.tape.trans h1.tape, h2.output.trans h1.output, Nat.le_trans h1.size h2.size, fun k hk hn => (h2.block k (Nat.lt_of_lt_of_le hk h1.size) fun hg => (hG k hg).elim hn fun h => by omega).trans (h1.block k hk hn)⟩
theorem ms_dec {i n : Nat} (h : i < n) : n - (intOf (.int .i64 ((i : Int) + 1))).toNat < n - (intOf (.int .i64 (i : Int))).toNat := by
  simp [intOf]
  omega
theorem cut_round {w wr wX wf : World} {L Lr : RL} {M : FsM} {v v4 : Value} {l : Nm} {picks : List Int} {i p bf of cF m : Nat} {F : Fl} {bt : List UInt8} (ST : CutSt w L M v l picks i wr Lr) (EX : Ext wr wX) (hp : p < M.nf)
    (FC : FCell wr Lr { M with files := cutF picks (l.take i) 0 M.files, names := l, lasts := l, since := [] } p bf of cF) (hbt : bt = F.b.take m)
    (hm : cutF picks (l.take (i + 1)) 0 M.files = updF (cutF picks (l.take i) 0 M.files) p ⟨F.b.take m, m⟩) (h : CutC wX bf (of + p * 2) bt m 4 v4 wf) : ∃ Lr', CutSt w L M v l picks (i + 1) wf Lr' := by
  obtain ⟨w5, a, c, e5, ho, rfl⟩ := h
  have hx := ST.at_.setFile (n := m) (v := .slice a bt.length c) (bs := bt) hp FC (EX.tr e5) (owns_base ho EX.size)
  refine ⟨{ Lr with vb := fun j => if j = p then .slice a bt.length c else Lr.vb j }, ST.rb, ?_, ST.vn, ch_after ST.ch hx.2 fun k hk => ST.ft k (.inr (.inl hk)), fun k hk => ?_⟩
  · rw [hm, ← hbt]
    exact hx.1
  · rcases hk with hk | hk | hk | hk | hk | ⟨j, hj, hk⟩
    · exact ST.ft k (.inl hk)
    · exact ST.ft k (.inr (.inl hk))
    · exact ST.ft k (.inr (.inr (.inl hk)))
    · exact ST.ft k (.inr (.inr (.inr (.inl hk))))
    · exact ST.ft k (.inr (.inr (.inr (.inr (.inl hk)))))
    · by_cases e : j = p
      · simp only [e, if_true] at hk
        right
        have h1 := owns_lo ho hk
        have h2 := EX.size
        have h3 := ST.ch.size
        omega
      · simp only [e, if_false] at hk
        exact ST.ft k (.inr (.inr (.inr (.inr (.inr ⟨j, hj, hk⟩)))))
set_option maxRecDepth 100000 in
set_option maxHeartbeats 8000000 in
theorem rcrash_in (L : RL) (M : FsM) (vp : Value) (picks : List Int) (w : World) (h : RefAt w L M) (ok : M.Ok) (so : SinceOk M) (ho : M.ops ≤ OpsMax) (hs : SlI w vp picks) (hap : ∀ w', Ch (RFoot L M.nf) w w' → SlI w' vp picks) :
    Calls Try.prog 67 #[ptrV L.rb, vp] w (RPost L M.nf w (.tuple #[]) (M.crash picks)) := by
  have H := hid h
  have OK := hid ok
  have SO := hid so
  have HS := hid hs
  have HAP := hid hap
  have HO := hid ho
  have hsl : M.since.length ≤ 1000000000000 := by have := ok.ll; unfold OpsMax at ho; omega
  obtain ⟨av, cv, rfl, _⟩ := hs.1.ex
  obtain ⟨-, -, k2, k3, -⟩ := rfc h L.rb rfl
  obtain ⟨aL, cL, hvl, _⟩ := slice_ofG h.las
  obtain ⟨aS, cS, hvs, _⟩ := slice_ofG h.sin
  rw [hvl] at k2
  rw [hvs] at k3
  have HVL := hid hvl
  have HVS := hid hvs
  have K3 := hid (fun w' (he : Ext w w') => ext_cell he k3)
  clear h ok so hs hap ho hvl hvs
  go_enter Try.func67, Try.ntmps67
  go_wp2_with fail
  refine (rpick_in _ picks 0 M.since.length w HS.out (by omega)).mono ?_
  rintro e w2 ⟨rfl, rfl⟩
  have HPK := hid (pickN_le picks 0 M.since.length)
  have HCR := hid (show M.crash picks = { M with files := cutF picks (applyC M.lasts (M.since.take (pickN picks 0 M.since.length))) 0 M.files, names := applyC M.lasts (M.since.take (pickN picks 0 M.since.length)), lasts := applyC M.lasts (M.since.take (pickN picks 0 M.since.length)), since := [], fuse := -1, fail := -1 } from rfl)
  generalize pickN picks 0 M.since.length = stay at *
  go_wp2_with fail
  go_loopw [4, 6] (fun t u wr => ∃ j : Nat, j ≤ stay ∧ u = .int .i64 j ∧ Ext w wr ∧ OwnN wr 0 t (applyC M.lasts (M.since.take j)) ∧ ∀ k, t.ownBlock = some k → RFoot L M.nf k ∨ w.heap.size ≤ k) (fun _ u _ => stay - (intOf u).toNat)
  case atStart => exact ⟨0, Nat.zero_le _, rfl, Ext.rfl _, by rw [← HVL.out]; exact H.out.las, fun k hk => .inl (.inr (.inr (.inr (.inl (by rw [HVL.out]; exact hk)))))⟩
  case round =>
    clear k2 k3
    obtain ⟨j, hj, rfl, he, hown, hft⟩ := hrel
    have HE := hid he
    have HOW := hid hown
    have HFT := hid hft
    have HPB := HPK.out
    obtain ⟨aT, cT, rfl, _⟩ := slice_ofG hown
    have k3 := K3.out wr he
    have hlen4 := hid (show (applyC M.lasts (M.since.take j)).length ≤ 1000000000000 by
      have h1 := applyC_len (M.since.take j) M.lasts
      have h2 := OK.out.ll
      have h3 := HO.out
      rw [List.length_take] at h1
      unfold OpsMax at h3
      omega)
    clear he hown hft
    by_cases hlt : j < stay
    · have hjs : j < M.since.length := by omega
      obtain ⟨b0, b1, b2, b3, hcg⟩ := eCg_four (nth M.since j)
      obtain ⟨ax, cx, hvx, hcx, hmx, hcell0⟩ := (owns_slG (enc := eCg) (owns_ext H.out.sin HE.out) rfl eCg_length (by decide)).ex
      obtain ⟨b, off, hab, hcell⟩ := hcell0 (by omega)
      rw [HVS.out] at hvx
      simp only [Value.slice.injEq] at hvx
      obtain ⟨rfl, _, rfl⟩ := hvx
      subst hab
      obtain ⟨q0, q1, q2, q3⟩ := at4 (hcell j hjs) hcg
      have HCG := hid hcg
      have HSU := hid (apply_take M.lasts M.since j hjs)
      have HCO := hid (SO.out _ (nth_mem _ j hjs))
      clear hcell hcell0 hcg
      go_wp2_with fail
      have hcall := rchanged_in (.slice aT (applyC M.lasts (M.since.take j)).length cT) (applyC M.lasts (M.since.take j)) (nth M.since j) wr HOW.out.sl HCO.out hlen4.out
      unfold aCg at hcall
      rw [HCG.out] at hcall
      refine hcall.mono ?_
      rintro e w5 ⟨v5, rfl, ho5, he5⟩
      have O5 := hid ho5
      have E5 := hid (HE.out.tr he5)
      have ES := hid HE.out.size
      clear ho5 he5 q0 q1 q2 q3 hcall
      obtain ⟨a5, c5, rfl, _⟩ := slice_ofG O5.out
      go_wp2_with fail
      go_roundw
      case rel => exact ⟨j + 1, by omega, by go_num, E5.out, by rw [HSU.out]; exact owns_base O5.out (Nat.zero_le _), fun k hk => .inr (Nat.le_trans ES.out (owns_lo O5.out hk))⟩
      case measure => simp [intOf]; omega
    · have hje : j = stay := by omega
      subst hje
      clear hlt k3 K3 HPB HPK
      have LR := hid (show Rising (applyC M.lasts (M.since.take j)) from applyC_rising _ OK.out.rl)
      have LO := hid (show OkN M.nf (applyC M.lasts (M.since.take j)) from applyC_ok OK.out.ol (fun c hc => OK.out.os c (List.mem_of_mem_take hc)))
      generalize applyC M.lasts (M.since.take j) = l at *
      have Hr := hid (H.out.ext HE.out)
      obtain ⟨-, m1, m2, m3, -, -, -, -, -, -, mf⟩ := rfc Hr.out L.rb rfl
      go_upto_region 9 with fail
      have hst : CutSt w L M (.slice aT l.length cT) l picks 0 (((wr.setCell ⟨L.rb, 1, none⟩ (.slice aT l.length cT)).setCell ⟨L.rb, 2, none⟩ (.slice aT l.length cT)).setCell ⟨L.rb, 3, none⟩ (.slice none 0 0)) { L with vn := .slice aT l.length cT, vl := .slice aT l.length cT, vs := .slice none 0 0 } := by
        have hc : Ch (fun k => k = L.rb) wr (((wr.setCell ⟨L.rb, 1, none⟩ (.slice aT l.length cT)).setCell ⟨L.rb, 2, none⟩ (.slice aT l.length cT)).setCell ⟨L.rb, 3, none⟩ (.slice none 0 0)) := (((ch0 L.rb wr).setC rfl).setC rfl).setC rfl
        have hr := box_three Hr.out 1 2 3 (.slice aT l.length cT) (.slice aT l.length cT) (.slice none 0 0)
        have h1 : ∀ k, RFoot1 L M.nf k → (((wr.setCell ⟨L.rb, 1, none⟩ (.slice aT l.length cT)).setCell ⟨L.rb, 2, none⟩ (.slice aT l.length cT)).setCell ⟨L.rb, 3, none⟩ (.slice none 0 0)).heap[k]? = wr.heap[k]? := fun k hk => hc.block k (Hr.out.foot_lt (.inr hk)) (Hr.out.ne_rb hk)
        have hO : OwnN (((wr.setCell ⟨L.rb, 1, none⟩ (.slice aT l.length cT)).setCell ⟨L.rb, 2, none⟩ (.slice aT l.length cT)).setCell ⟨L.rb, 3, none⟩ (.slice none 0 0)) 0 (.slice aT l.length cT) l := owns_ch HOW.out fun g hg => hc.block g (by obtain ⟨cs, hx⟩ := own_ltG HOW.out hg; exact blk_lt hx) fun e => own_neG HOW.out Hr.out.row (by simp) (by rw [hg, e])
        refine ⟨rfl, ⟨hr.trans rfl, owns_ch Hr.out.fil (fun g hg => h1 _ (.inl hg)), fun i hi => owns_ch (Hr.out.byt i hi) (fun g hg => h1 _ (.inr (.inr (.inr (.inr ⟨i, hi, hg⟩))))), hO, hO, World.ownsRow_nil _ _ _ _, Hr.out.fu, Hr.out.fa⟩, rfl, ((Ch.of_ext HE.out).tr hc).mono fun k _ hk => .inl hk, fun k hk => ?_⟩
        rcases hk with hk | hk | hk | hk | hk | ⟨i, hi, hk⟩
        · exact .inl (.inl hk)
        · exact .inl (.inr (.inl hk))
        · exact HFT.out k hk
        · exact HFT.out k hk
        · cases hk
        · exact .inl (.inr (.inr (.inr (.inr (.inr ⟨i, hi, hk⟩)))))
      have ST := hid hst
      clear hst m1 m2 m3 mf Hr HFT HOW HE H
      generalize ((wr.setCell ⟨L.rb, 1, none⟩ (.slice aT l.length cT)).setCell ⟨L.rb, 2, none⟩ (.slice aT l.length cT)).setCell ⟨L.rb, 3, none⟩ (.slice none 0 0) = w3 at *
      go_wp2_with fail
      generalize wr = wP at *
      go_loopw [7] (fun u wr => ∃ (j : Nat) (Lr : RL), j ≤ l.length ∧ u = .int .i64 j ∧ CutSt w L M (.slice aT l.length cT) l picks j wr Lr) (fun u _ => l.length - (intOf u).toNat)
      case atStart => exact ⟨0, _, Nat.zero_le _, rfl, ST.out⟩
      case round =>
        clear ST
        obtain ⟨i, Lr, hi, rfl, hst⟩ := hrel
        have ST := hid hst
        have hlm := hlen4.out
        clear hst
        by_cases hlt : i < l.length
        · have hpi := (LO.out _ (nth_mem _ i hlt)).2
          obtain ⟨bf, of, cF, hfc⟩ := ST.out.at_.fcell hpi
          obtain ⟨aB, cB, hvb, hmB⟩ := slice_ofG (ST.out.at_.byt _ hpi)
          obtain ⟨c0, -⟩ := rfc ST.out.at_ L.rb ST.out.rb
          have k0 := c0.trans (congrArg some hfc.v)
          have r0 := hfc.c0.trans (congrArg some hvb)
          have r1 := hfc.c1
          have rf := hfc.f
          obtain ⟨aN, cN, hvn, hcN, hmN, hcell0⟩ := ST.out.at_.nam.sl.ex
          rw [ST.out.vn] at hvn
          simp only [Value.slice.injEq] at hvn
          obtain ⟨rfl, _, rfl⟩ := hvn
          obtain ⟨b, off, rfl, hcell⟩ := hcell0 (lt_big hlt hlm).2
          obtain ⟨q0, q1⟩ := at2 (hcell i hlt) rfl
          have SBF := hid (fun w' (hx : Ext wr w') => SlB.go (show SlB wr (.slice aB (cutF picks (l.take i) 0 M.files (nth l i).2).b.length cB) (cutF picks (l.take i) 0 M.files (nth l i).2).b by rw [← hvb]; exact owns_slB (ST.out.at_.byt _ hpi)) hx)
          have FX := hid (fun w' (hx : Ext wr w') => And.intro (ext_cell hx k0) (And.intro (ext_cell hx r0) (And.intro (ext_cell hx r1) (And.intro (hfc.ext hx).f (ext_cell hx q1)))))
          have HSN := hid (cutF_take picks M.files l i hlt)
          have HOK := hid (cutF_ok picks (l.take i) 0 M.files OK.out.fl (nth l i).2)
          have FC := hid hfc
          have HPI := hid hpi
          have hpi2 : (nth l i).2 < M.nf := hpi
          have k0' : wr.cell? ⟨L.rb, 0, none⟩ = some (.slice (some ⟨bf, of, none⟩) M.nf cF) := k0
          have hq0 : L.rb < wr.heap.size := cell_lt k0
          have hq1 : wr.heap.size ≠ L.rb := Nat.ne_of_gt hq0
          have hq2 : bf < wr.heap.size := cell_lt r0
          have hq3 : wr.heap.size ≠ bf := Nat.ne_of_gt hq2
          have hq4 : b < wr.heap.size := cell_lt q1
          have hq5 : wr.heap.size ≠ b := Nat.ne_of_gt hq4
          obtain ⟨F, hF⟩ : ∃ F, F = cutF picks (l.take i) 0 M.files (nth l i).2 := ⟨_, rfl⟩
          have r0' : wr.cell? ⟨bf, of + (nth l i).2 * 2, none⟩ = some (.slice aB F.b.length cB) := by rw [hF]; exact r0
          have r1' : wr.cell? ⟨bf, of + (nth l i).2 * 2 + 1, none⟩ = some (.int .i64 (F.last : Nat)) := by rw [hF]; exact r1
          rw [← hF] at SBF HSN HOK
          have HF := hid hF
          clear c0 hvb k0 r0 r1 hcell hcell0 q0 hfc hpi hF hmB
          generalize (nth l i).2 = p at *
          go_upto_region 12 with fail
          go_cut [8] from 52 to 62 (fun v wx => ∃ g, v = .pointer (some ⟨g, 0, none⟩) ∧ wr.heap.size ≤ g ∧ wx.heap[g]? = some (.cells #[.slice aB F.b.length cB, .int .i64 (F.last : Nat)] 115 (0, 0)) ∧ Ext wr wx)
          case first =>
            go_region
            all_goals
              go_wp2_with fail
              go_meet
              case rel => exact ⟨_, rfl, Nat.le_refl _, heap_alloc_new wr _, ((Ext.rfl wr).al _).dr⟩
          case rest =>
            obtain ⟨g, rfl, hg1, hg2, hg3⟩ := hcut
            have EC := hid hg3
            have CP := hid (ST.out.ch.tr (Ch.of_ext hg3))
            have hkle := pickN_le picks (i + 1) (F.b.length - F.last)
            have hle := HOK.out
            obtain ⟨d, hd⟩ : ∃ d, d = F.b.length - F.last := ⟨_, rfl⟩
            rw [← hd] at HSN hkle
            have eqd := (cut_nums hle hd hkle rfl).1
            have HLD := hid (And.intro hle (And.intro hd hkle))
            have HPC := hid (show ∀ w', Ext wc w' → Calls Try.prog 78 #[.slice av picks.length cv, .int .i64 ((i : Int) + 1), .int .i64 (d : Nat)] w' (fun e w'' => e = .returned (.int .i64 (pickN picks (i + 1) d)) ∧ w'' = w') from fun w' hx => by
              have h := rpick_in (.slice av picks.length cv) picks (i + 1) d w' (HAP.out w' (CP.out.tr (Ch.of_ext hx))) (cut_nums HLD.out.1 HLD.out.2.1 HLD.out.2.2 rfl).2.2.2.2.2
              rw [int_succ] at h
              exact h.mono fun e w'' hh => ⟨hh.1, hh.2.symm⟩)
            have g0 : wc.cell? ⟨g, 0, none⟩ = some (.slice aB F.b.length cB) := by rw [cell_of_row _ _ _ _ _ _ hg2]; rfl
            have g1 : wc.cell? ⟨g, 1, none⟩ = some (.int .i64 (F.last : Nat)) := by rw [cell_of_row _ _ _ _ _ _ hg2]; rfl
            have G2 := hid hg2
            generalize pickN picks (i + 1) d = q at *
            have hcB := SBF.out wr (Ext.rfl wr)
            have HLE := hid (And.intro hle hkle)
            obtain ⟨m, hm⟩ : ∃ m, m = F.last + q := ⟨_, rfl⟩
            obtain ⟨-, eqm, hmb, hmb2, hdb2, -⟩ := cut_nums hle hd hkle hm
            have hib2 := (lt_big hlt hlm).1
            obtain ⟨wd1, wd2⟩ := wrap_of (n := d) hdb2
            obtain ⟨wm1, wm2⟩ := wrap_of (n := m) hmb2
            obtain ⟨wi1, wi2⟩ := wrap_succ (n := i) hib2
            have HM := hid hm
            clear hm
            have HD := hid hd
            have HCB := hid hcB
            clear hd hle hkle hcB hg1
            clear hg2 hg3 k0' r0' r1' rf q1 hq0 hq1 hq2 hq3 hq4 hq5
            go_wp2_with fail
            go_quiet ((go_at_call 78; exact Calls.quiet_of_same (HPC.out _ ((Ext.rfl wc).drN _))))
            have EX := hid (EC.out.drN nq)
            have g2 : (wc.drewN nq).cell? ⟨g, 0, none⟩ = some (.slice aB F.b.length cB) := g0
            have hgl : g < (wc.drewN nq).heap.size := blk_lt G2.out
            clear g0 g1 eqd eqm wd1 wd2 wi1 wi2 hdb2 hib2 G2 CP HPC
            generalize wc.drewN nq = wX at *
            have GX := hid (fun w' (hx : Ext wX w') => ext_cell hx g2)
            obtain ⟨x0, x1, x2, xf, x3⟩ := FX.out wX EX.out
            obtain ⟨_, _, e9, hcapB, _, _⟩ := HCB.out.ex
            simp only [Value.slice.injEq] at e9
            obtain ⟨rfl, _, rfl⟩ := e9
            have hmc : m ≤ cB := Nat.le_trans hmb hcapB
            obtain ⟨bt, hbt⟩ : ∃ bt, bt = F.b.take m := ⟨_, rfl⟩
            have SBT := hid (show ∀ w', Ext wX w' → SlB w' (.slice aB m cB) bt from fun w' hx => by rw [hbt]; exact slb_cut (SBF.out w' (EX.out.tr hx)) m hmb)
            have HBL := hid (show bt.length ≤ 140737488355328 by rw [hbt]; exact take_small hmb2)
            have HBT := hid hbt
            have hq0 : L.rb < wX.heap.size := cell_lt x0
            have hq1 : wX.heap.size ≠ L.rb := Nat.ne_of_gt hq0
            have hq2 : bf < wX.heap.size := cell_lt x1
            have hq3 : wX.heap.size ≠ bf := Nat.ne_of_gt hq2
            have hq4 : b < wX.heap.size := cell_lt x3
            have hq5 : wX.heap.size ≠ b := Nat.ne_of_gt hq4
            have hq6 : wX.heap.size ≠ g := Nat.ne_of_gt hgl
            clear hbt hcapB
            go_wp2_with fail
            refine wp_drawC (CutC wX bf (of + p * 2) bt m) [9, 14, 16, 18] [0, 85, 90, 92, 0] (by kernel_rfl) ⟨by kernel_rfl, by kernel_rfl, rfl, by decide, fun k v w w' => cutC_stay⟩ (fun v => Ext.rfl wX) (by rfl) ?_
            intro HL
            refine rgc_read 76 HL (by rfl) (by rfl) (by rfl) (fun k u w hk hS => ob_move (by rfl) (by rfl)) rfl (by rfl) ?_
            refine rgc_read 77 HL (by rfl) (by rfl) (by rfl) (fun k u w hk hS => ob_nilck (by rfl) (by rfl)) rfl (by rfl) ?_
            refine rgc_read 78 HL (by rfl) (by rfl) (by rfl) (fun k u w hk hS => ob_field (n := 0) 0 0 109 (by rfl) (by rfl) Try.underlying113 (by rfl) (by kernel_rfl) rfl) rfl (by rfl) ?_
            refine rgc_read 79 HL (by rfl) (by rfl) (by rfl) (fun k u w hk hS => ob_load (v := .slice (some ⟨bf, of, none⟩) M.nf cF) (by rfl) (by rfl) (by kernel_rfl) (fun w' he => (FX.out w' (EX.out.tr ((cutC_ext hk hS).tr he))).1)) rfl (by rfl) ?_
            refine rgc_read 80 HL (by rfl) (by rfl) (by rfl) (fun k u w hk hS => ob_move (by rfl) (by rfl)) rfl (by rfl) ?_
            refine rgc_read 81 HL (by rfl) (by rfl) (by rfl) (fun k u w hk hS => ob_move (by rfl) (by rfl)) rfl (by rfl) ?_
            refine rgc_read 82 HL (by rfl) (by rfl) (by rfl) (fun k u w hk hS => ob_index 2 (off + i * 2) (by rfl) (by rfl) (by rfl) Try.underlying110 (by kernel_rfl) (Int.natCast_nonneg i) (Int.ofNat_lt.2 hlt) (by rw [Int.toNat_natCast])) rfl (by rfl) ?_
            refine rgc_read 83 HL (by rfl) (by rfl) (by rfl) (fun k u w hk hS => ob_field (n := 0) (off + i * 2 + 1) 1 3 (by rfl) (by rfl) Try.underlying129 (by rfl) (by kernel_rfl) rfl) rfl (by rfl) ?_
            refine rgc_read 84 HL (by rfl) (by rfl) (by rfl) (fun k u w hk hS => ob_load (v := .int .i64 (p : Nat)) (by rfl) (by rfl) (by kernel_rfl) (fun w' he => (FX.out w' (EX.out.tr ((cutC_ext hk hS).tr he))).2.2.2.2)) rfl (by rfl) ?_
            refine rgc_eff 0 85 (by rfl) (by rfl) (by rfl) (by rfl) (by kernel_rfl) rfl rfl (by rfl) (fun a w hx hS => uc_row0 (row0_u8 w) (cutC_one hS)) ?_
            refine rgc_read 86 HL (by rfl) (by rfl) (by rfl) (fun k u w hk hS => ob_field (n := 0) 0 0 53 (by rfl) (by rfl) Try.underlying115 (by rfl) (by kernel_rfl) rfl) rfl (by rfl) ?_
            refine rgc_read 87 HL (by rfl) (by rfl) (by rfl) (fun k u w hk hS => ob_load (v := .slice aB F.b.length cB) (by rfl) (by rfl) (by kernel_rfl) (fun w' he => GX.out w' ((cutC_ext hk hS).tr he))) rfl (by rfl) ?_
            refine rgc_read 88 HL (by rfl) (by rfl) (by rfl) (fun k u w hk hS => ob_move (by rfl) (by rfl)) rfl (by rfl) ?_
            refine rgc_read 89 HL (by rfl) (by rfl) (by rfl) (fun k u w hk hS => ob_slB_h (by rfl) (by rfl) (by rfl) hmc) rfl (by rfl) ?_
            refine rgc_eff 1 90 (by rfl) (by rfl) (by rfl) (by rfl) (by kernel_rfl) rfl rfl (by rfl) (fun a w hx hS => cutC_two hS (SBT.out w hS.1) HBL.out (hx (.tmp 89) (by simp [Op.operands, Call.operands]) _ (by rfl))) ?_
            refine rgc_read 91 HL (by rfl) (by rfl) (by rfl) (fun k u w hk hS => ob_move (by rfl) (by rfl)) rfl (by rfl) ?_
            refine rgc_eff 2 92 (by rfl) (by rfl) (by rfl) (by rfl) (by kernel_rfl) rfl rfl (by rfl) (fun a w hx hS => cutC_three hS (hx (.tmp 91) (by simp [Op.operands]) _ (by rfl))) ?_
            refine rgc_read 93 HL (by rfl) (by rfl) (by rfl) (fun k u w hk hS => ob_index 2 (of + p * 2) (by rfl) (by rfl) (by rfl) Try.underlying109 (by kernel_rfl) (Int.natCast_nonneg p) (Int.ofNat_lt.2 hpi2) (by rw [Int.toNat_natCast])) rfl (by rfl) ?_
            refine rgc_store 3 (by rfl) (by rfl) (by rfl) (by kernel_rfl) rfl rfl (fun a w hx hS => cutC_four hS (FX.out w (EX.out.tr hS.1)).2.1 (FX.out w (EX.out.tr hS.1)).2.2.1 (FX.out w (EX.out.tr hS.1)).2.2.2.1 (hx (.tmp 93) (by simp [Op.operands]) _ (by rfl))) ?_
            refine rgc_end ?_
            intro wf
            simp only [asg, List.set_cons_zero, List.set_cons_succ, List.map_cons, List.map_nil, anyV, opens]
            intro v85 _ v90 _ v92 _ hfin
            have HFIN := hid hfin
            clear hfin
            go_wp2_with fail
            obtain ⟨Lr', hst'⟩ := cut_round ST.out EX.out HPI.out FC.out HBT.out (by have h := HSN.out; rw [← HM.out] at h; exact h) HFIN.out
            go_roundw
            case rel => exact ⟨i + 1, Lr', hlt, by rw [int_succ], hst'⟩
            case measure => exact ms_dec hlt
        · have hie : i = l.length := by omega
          subst hie
          obtain ⟨c0, c1, c2, c3, c4, c5, c6, c7, c8, c9, ff⟩ := rfc ST.out.at_ L.rb ST.out.rb
          clear c0 c1 c2 c3 c4 c6 c8 c9
          go_wp2_with fail
          go_end0
          have hc : Ch (fun k => k = Lr.rb) wr ((wr.setCell ⟨L.rb, 5, none⟩ (.bool false)).setCell ⟨L.rb, 7, none⟩ (.bool false)) := ((ch0 Lr.rb wr).setC (by rw [ST.out.rb])).setC (by rw [ST.out.rb])
          have hr := box_two ST.out.at_ 5 7 (.bool false) (.bool false)
          rw [ST.out.rb] at hr
          have R := ST.out.at_.head (M' := M.crash picks) Lr.fu Lr.fa hc (by rw [ST.out.rb]; exact hr.trans (by rw [HCR.out]; rfl)) (by rw [HCR.out, List.take_length]) (by rw [HCR.out]) (by rw [HCR.out]) (by rw [HCR.out]) (by rw [HCR.out]) (fun h => absurd h (by rw [HCR.out]; show ¬ ((0 : Int) ≤ -1); decide)) (fun h => absurd h (by rw [HCR.out]; show ¬ ((0 : Int) ≤ -1); decide))
          refine ⟨rfl, _, ST.out.rb, R, ST.out.ch.tr (hc.mono fun k _ hk => .inl (hk.trans ST.out.rb)), fun k hk => ST.out.ft k ?_⟩
          have e : (M.crash picks).nf = M.nf := by rw [HCR.out]
          rw [e] at hk
          exact hk
end Go.Proofs.Ytjekfifnhdoamaa
