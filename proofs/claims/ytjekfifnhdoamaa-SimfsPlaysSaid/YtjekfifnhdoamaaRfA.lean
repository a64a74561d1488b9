/- The document's files: Copy. -/
import Derived.Test.YtjekfifnhdoamaaRf9
set_option linter.unusedSimpArgs false
set_option linter.unusedVariables false
set_option linter.unnecessarySimpa false
namespace Go.Proofs.Ytjekfifnhdoamaa
open Go.RowKit Go.Rg Go.St

/-- append of a whole row to an empty one of the call's own -/
theorem app_copy {w : World} {T E : TypeId} {sz bt n base : Nat} (hT : ElT Try.prog T E sz bt) {g : Nat} {vs : Value} {xs : List Value} (hown : w.ownsRow 0 E sz (.slice (some ⟨g, 0, none⟩) 0 0) 0 []) (hs : w.ownsRow base E sz vs n xs) (h1 : ∀ u ∈ xs, u.oneCell' = true) (hb : n * bt ≤ 140737488355328) (ty : TypeId) :
    ∃ v' w', (Builtin.append_ #[T, T] ty #[.slice (some ⟨g, 0, none⟩) 0 0, vs]).run Try.prog w = .ok v' w' ∧ AppP w w' E sz (.slice (some ⟨g, 0, none⟩) 0 0) v' n xs := by
  rcases hs.2 with ⟨rfl, h0⟩ | ⟨g2, cap, cur, rfl, hlo, hg, hnc, hcm, hcs, htk⟩
  · subst h0
    have hx : xs = [] := by have := hs.1; rw [Nat.zero_mul] at this; exact List.length_eq_zero_iff.1 this
    subst hx
    exact ⟨_, w, run_app0 hT ty _ none 0 0 0 (Nat.le_refl _), hown, Ch.rfl _ _, fun k hk => .inl hk⟩
  · obtain ⟨v', w', hr, hp⟩ := run_appG (P := Try.prog) hT ty hown (ad := ⟨g2, 0, none⟩) (m := n) (c := cap) (news := xs) hs.1 (owns_srcG hs) h1 (by simpa using hb)
    rw [Nat.zero_add, List.nil_append] at hp
    exact ⟨v', w', hr, hp⟩
theorem flat_one {α : Type} {enc : α → List Value} (h : ∀ x, ∀ u ∈ enc x, u.oneCell' = true) (l : List α) : ∀ u ∈ l.flatMap enc, u.oneCell' = true := by
  intro u hu
  obtain ⟨x, _, hx⟩ := List.mem_flatMap.1 hu
  exact h x u hx
def CopyR (M : FsM) (w : World) (e : Ending) (w' : World) : Prop := ∃ L2 : RL, e = .returned (ptrV L2.rb) ∧ RefAt w' L2 M ∧ Ext w w' ∧ ∀ k, RFoot L2 M.nf k → w.heap.size ≤ k
/-- so far copied -/
structure CpSt (w : World) (L : RL) (M : FsM) (g : Nat) (i : Nat) (wr : World) (vo : Value) (vb : Nat → Value) : Prop where
  ext : Ext w wr
  lo : w.heap.size ≤ g
  box : wr.heap[g]? = some (.cells (rfC { L with vf := vo } M) 113 (0, 0))
  fil : wr.ownsRow w.heap.size 115 2 vo i ((List.range i).flatMap (eFl { L with vb := vb } M))
  byt : ∀ j, j < i → wr.ownsRow w.heap.size 5 1 (vb j) (M.files j).b.length (Lib.byteCells (M.files j).b)
/-- how far the copying of one file has come -/
def CopC (B : World → Prop) (wr : World) (base : Nat) (vo : Value) (g : Nat) (bt : List UInt8) (last i : Nat) (rows : List Value) : Nat → Value → World → Prop
  | 0, _, w => Ext wr w
  | 1, v, w => Ext wr w ∧ ∃ q, v = .slice (some ⟨q, 0, none⟩) 0 0 ∧ wr.heap.size ≤ q ∧ w.ownsRow 0 5 1 v 0 []
  | 2, v, w => Ext wr w ∧ ∃ a c, v = .slice a bt.length c ∧ w.ownsRow wr.heap.size 5 1 v bt.length (Lib.byteCells bt)
  | 3, v, w => Ext wr w ∧ ∃ a c, v = .agg #[.slice a bt.length c, .int .i64 (last : Nat)] ∧ w.ownsRow wr.heap.size 5 1 (.slice a bt.length c) bt.length (Lib.byteCells bt)
  | 4, v, w => Ext wr w ∧ ∃ a c q, v = .slice (some ⟨q, 0, none⟩) 1 1 ∧ w.heap[q]? = some (.cells #[.slice a bt.length c, .int .i64 (last : Nat)] 115 (0, 0)) ∧ w.ownsRow wr.heap.size 5 1 (.slice a bt.length c) bt.length (Lib.byteCells bt)
  | 5, v, w => B w ∧ Ch (fun k => vo.ownBlock = some k) wr w ∧ ∃ a c a5 c5, v = .slice a5 (i + 1) c5 ∧ w.ownsRow wr.heap.size 5 1 (.slice a bt.length c) bt.length (Lib.byteCells bt) ∧ w.ownsRow base 115 2 v (i + 1) (rows ++ [.slice a bt.length c, .int .i64 (last : Nat)])
  | _ + 6, _, w => ∃ w6 a c a5 c5, B w6 ∧ Ch (fun k => vo.ownBlock = some k) wr w6 ∧ w6.ownsRow wr.heap.size 5 1 (.slice a bt.length c) bt.length (Lib.byteCells bt) ∧ w6.ownsRow base 115 2 (.slice a5 (i + 1) c5) (i + 1) (rows ++ [.slice a bt.length c, .int .i64 (last : Nat)]) ∧ w = w6.setCell ⟨g, 0, none⟩ (.slice a5 (i + 1) c5)
theorem run_row1Fl (a : Option Addr) (n c : Nat) (m : Int) (w : World) : (Instr.buildSlice 109 1 #[(0, .agg #[.slice a n c, .int .i64 m])]).run Try.prog w = .ok (.slice (some ⟨w.heap.size, 0, none⟩) 1 1) (w.alloc (.cells #[.slice a n c, .int .i64 m] 115)) := by kernel_rfl
theorem run_storeRow {w : World} {b o : Nat} {a : Option Addr} {n c : Nat} {x : Value} (hx : w.cell? ⟨b, o, none⟩ = some x) (hf : w.frozen? ⟨b, o, none⟩ = false) :
    (Instr.storeAt 109 (.pointer (some ⟨b, o, none⟩)) (.slice a n c)).run Try.prog w = .ok () (w.setCell ⟨b, o, none⟩ (.slice a n c)) := by
  simp [go_sem, Instr.storeAt, Instr.sureAddr, hx, hf, Try.underlying109, Try.isAgg109]
section
variable {B : World → Prop} {wr w : World} {base g last i k : Nat} {vo v : Value} {bt : List UInt8} {rows : List Value} {ρ : Operand → Value} {d : Option Tmp} {ty : TypeId} {pos : String} {aft : Array Edge} {gd : Option (Nat × Bool)}
theorem copC_b (hE : ∀ w, Ext wr w → B w) (hk : k < 6) (h : CopC B wr base vo g bt last i rows k v w) : B w := by
  rcases (show k = 0 ∨ k = 1 ∨ k = 2 ∨ k = 3 ∨ k = 4 ∨ k = 5 by omega) with rfl | rfl | rfl | rfl | rfl | rfl
  · exact hE _ h
  · exact hE _ h.1
  · exact hE _ h.1
  · exact hE _ h.1
  · exact hE _ h.1
  · exact h.1
theorem copC_stay {w' : World} (hB : ∀ a b, Ext a b → B a → B b) (hk : k < 6) (he : Ext w w') (h : CopC B wr base vo g bt last i rows k v w) : CopC B wr base vo g bt last i rows k v w' := by
  rcases (show k = 0 ∨ k = 1 ∨ k = 2 ∨ k = 3 ∨ k = 4 ∨ k = 5 by omega) with rfl | rfl | rfl | rfl | rfl | rfl
  · exact Ext.tr h he
  · obtain ⟨h1, q, h2, h3, h4⟩ := h
    exact ⟨h1.tr he, q, h2, h3, owns_ext h4 he⟩
  · obtain ⟨h1, a, c, h2, h3⟩ := h
    exact ⟨h1.tr he, a, c, h2, owns_ext h3 he⟩
  · obtain ⟨h1, a, c, h2, h3⟩ := h
    exact ⟨h1.tr he, a, c, h2, owns_ext h3 he⟩
  · obtain ⟨h1, a, c, q, h2, h3, h4⟩ := h
    exact ⟨h1.tr he, a, c, q, h2, (he.block _ (blk_lt h3)).trans h3, owns_ext h4 he⟩
  · obtain ⟨h0, h1, a, c, a5, c5, h2, h3, h4⟩ := h
    exact ⟨hB _ _ he h0, h1.tr (Ch.of_ext he), a, c, a5, c5, h2, owns_ext h3 he, owns_ext h4 he⟩
theorem copC_one (h : CopC B wr base vo g bt last i rows 0 v w) : CopC B wr base vo g bt last i rows 1 (.slice (some ⟨w.heap.size, 0, none⟩) 0 0) (w.alloc (.cells #[] 5)) :=
  ⟨Ext.al h _, _, rfl, (show Ext wr w from h).size, own_new0 w _ _⟩
set_option maxRecDepth 100000 in
theorem copC_two {s x : Operand} {u : Value} (h : CopC B wr base vo g bt last i rows 1 (ρ s) w) (hb : SlB w u bt) (hl : bt.length ≤ 140737488355328) (hx : ρ x = u) :
    UponV Try.prog anyV (fun v w' => CopC B wr base vo g bt last i rows 2 v w') ((execOp ρ ⟨d, .call ⟨.builtin .append, #[s, x], #[53, 53]⟩, ty, pos, aft, gd⟩).run Try.prog w) := by
  obtain ⟨h1, q, h2, h3, h4⟩ := h
  obtain ⟨v', w', hrun, hp⟩ := app_bytes (xs := []) h4 hb (by simpa using hl) ty
  have X := app_ext h1 hp (fun k hk => by rw [h2] at hk; cases hk; exact h3)
  obtain ⟨a, c, rfl, _⟩ := slice_ofG hp.own
  exact uc_app rfl hx hrun ⟨X.1, a, c, rfl, owns_up hp.own X.2⟩
set_option maxRecDepth 100000 in
theorem copC_three {x y : Operand} (h : CopC B wr base vo g bt last i rows 2 (ρ x) w) (hy : ρ y = .int .i64 (last : Nat)) :
    UponV Try.prog anyV (fun v w' => CopC B wr base vo g bt last i rows 3 v w') ((execOp ρ ⟨d, .build 115 #[(0, x), (1, y)], ty, pos, aft, gd⟩).run Try.prog w) := by
  obtain ⟨h1, a, c, h2, h3⟩ := h
  rw [h2] at h3
  exact uc_build2 h2 hy (run_bFl a bt.length c last w) ⟨h1, a, c, rfl, h3⟩
set_option maxRecDepth 100000 in
theorem copC_four {x : Operand} (h : CopC B wr base vo g bt last i rows 3 (ρ x) w) :
    UponV Try.prog anyV (fun v w' => CopC B wr base vo g bt last i rows 4 v w') ((execOp ρ ⟨d, .buildSlice 109 1 #[(0, x)], ty, pos, aft, gd⟩).run Try.prog w) := by
  obtain ⟨h1, a, c, h2, h3⟩ := h
  exact uc_row1 h2 (run_row1Fl a bt.length c last w) ⟨h1.al _, a, c, _, rfl, heap_alloc_new w _, owns_ext h3 ((Ext.rfl w).al _)⟩
set_option maxRecDepth 100000 in
theorem copC_five {s x : Operand} (hE : ∀ w, Ext wr w → B w) (hBC : ∀ a b, B a → Ch (fun k => vo.ownBlock = some k) a b → B b) (h : CopC B wr base vo g bt last i rows 4 (ρ x) w) (hs : ρ s = vo) (ho : wr.ownsRow base 115 2 vo i rows) (hb : base ≤ wr.heap.size) (hi : i ≤ 1000000000000) :
    UponV Try.prog anyV (fun v w' => CopC B wr base vo g bt last i rows 5 v w') ((execOp ρ ⟨d, .call ⟨.builtin .append, #[s, x], #[109, 109]⟩, ty, pos, aft, gd⟩).run Try.prog w) := by
  obtain ⟨h1, a, c, q, h2, h3, h4⟩ := h
  have how := owns_ext ho h1
  obtain ⟨v', w', hrun, hp⟩ := run_appG (P := Try.prog) el_fl ty (owns_base how (Nat.zero_le _)) (ad := ⟨q, 0, none⟩) (m := 1) (c := 1) (news := [.slice a bt.length c, .int .i64 (last : Nat)]) rfl (fun j u hu => by
    rw [Addr.add_lit, Nat.zero_add, cell_of_row _ _ _ _ _ _ h3]
    simpa using hu) (fun u hu => by simp at hu; rcases hu with rfl | rfl <;> rfl) (by omega)
  obtain ⟨a5, c5, rfl, _⟩ := slice_ofG hp.own
  refine uc_app hs h2 hrun ⟨hBC _ _ (hE _ h1) hp.ch, (Ch.of_ext h1).tr hp.ch, a, c, a5, c5, rfl, ?_, owns_up hp.own fun k hk => ?_⟩
  · exact owns_ch h4 fun k hk => hp.ch.block k (by obtain ⟨cs, hc⟩ := own_ltG h4 hk; exact blk_lt hc) fun e => ty_ne h4 how (by decide) hk e rfl
  · rcases hp.blk k hk with h | h
    · exact owns_lo how h
    · have := h1.size
      omega
set_option maxRecDepth 100000 in
theorem copC_six {p x : Operand} {y : Value} (h : CopC B wr base vo g bt last i rows 5 (ρ x) w) (hy : w.cell? ⟨g, 0, none⟩ = some y) (hf : w.frozen? ⟨g, 0, none⟩ = false) (hp : ρ p = .pointer (some ⟨g, 0, none⟩)) :
    UponV Try.prog anyV (fun _ w' => ∀ v, CopC B wr base vo g bt last i rows 6 v w') ((execOp ρ ⟨d, .store 109 p x, ty, pos, aft, gd⟩).run Try.prog w) := by
  obtain ⟨h0, h1, a, c, a5, c5, h2, h3, h4⟩ := h
  rw [h2] at h4
  exact uc_store hp h2 (run_storeRow hy hf) fun v => ⟨w, a, c, a5, c5, h0, h1, h3, h4, rfl⟩
end
/-- what is read while a file is copied -/
def BCop (L : RL) (M : FsM) (vo : Value) (g i bf of cF : Nat) (aB : Option Addr) (cB : Nat) (w : World) : Prop :=
  w.cell? ⟨L.rb, 0, none⟩ = some (.slice (some ⟨bf, of, none⟩) M.nf cF) ∧ w.cell? ⟨bf, of + i * 2, none⟩ = some (.slice aB (M.files i).b.length cB) ∧ w.cell? ⟨bf, of + i * 2 + 1, none⟩ = some (.int .i64 ((M.files i).last : Nat)) ∧ w.heap[g]? = some (.cells (rfC { L with vf := vo } M) 113 (0, 0)) ∧ SlB w (.slice aB (M.files i).b.length cB) (M.files i).b
theorem len_small {n : Nat} (h : n ≤ 1048576) : n ≤ 140737488355328 := by omega
theorem sl1_ch {F : Nat → Prop} {w w' : World} {v : Value} {n : Nat} {c : Nat → Value} (h : Sl1 w v n c) (hc : Ch F w w') (hv : ∀ k, v.ownBlock = some k → ¬ F k) : Sl1 w' v n c := by
  obtain ⟨a, cap, rfl, h1, h2, h3⟩ := h.ex
  refine ⟨a, cap, rfl, h1, h2, fun hn => ?_⟩
  obtain ⟨b, off, rfl, h4⟩ := h3 hn
  exact ⟨b, off, rfl, fun i hi => (World.cell?_of_block (a := ⟨b, off + i, none⟩) (hc.block b (cell_lt (h4 i hi)) (hv b rfl))).trans (h4 i hi)⟩
theorem bcop_ch {w wr a b : World} {L : RL} {M : FsM} {vo : Value} {g i bf of cF cB : Nat} {aB : Option Addr} {rows : List Value} (ho : wr.ownsRow w.heap.size 115 2 vo i rows) (hrb : L.rb < w.heap.size) (hbf : bf < w.heap.size)
    (hv : ∀ k, (Value.slice aB (M.files i).b.length cB).ownBlock = some k → k < w.heap.size) (hg : ∀ k, vo.ownBlock = some k → k ≠ g) (h : BCop L M vo g i bf of cF aB cB a) (hc : Ch (fun k => vo.ownBlock = some k) a b) : BCop L M vo g i bf of cF aB cB b := by
  have hlo : ∀ k, vo.ownBlock = some k → w.heap.size ≤ k := fun k hk => owns_lo ho hk
  refine ⟨(World.cell?_of_block (a := ⟨L.rb, 0, none⟩) (hc.block _ (cell_lt h.1) fun hk => Nat.not_le_of_lt hrb (hlo _ hk))).trans h.1, (World.cell?_of_block (a := ⟨bf, of + i * 2, none⟩) (hc.block _ (cell_lt h.2.1) fun hk => Nat.not_le_of_lt hbf (hlo _ hk))).trans h.2.1,
    (World.cell?_of_block (a := ⟨bf, of + i * 2 + 1, none⟩) (hc.block _ (cell_lt h.2.2.1) fun hk => Nat.not_le_of_lt hbf (hlo _ hk))).trans h.2.2.1, (hc.block _ (blk_lt h.2.2.2.1) fun hk => hg _ hk rfl).trans h.2.2.2.1, sl1_ch h.2.2.2.2 hc fun k hk hf => ?_⟩
  have h1 := hv k hk
  have h2 := hlo k hf
  omega
theorem row_setg {w w1 : World} {base g j n sz : Nat} {E : TypeId} {v x : Value} {xs : List Value} {cs : Array Value} (h : w.ownsRow base E sz v n xs) (he : Ext w w1) (hb : w1.heap[g]? = some (.cells cs 113 (0, 0))) (hne : E ≠ 113) : (w1.setCell ⟨g, j, none⟩ x).ownsRow base E sz v n xs :=
  owns_ch (owns_ext h he) fun k hk => heap_setCell_other _ _ _ _ fun e => own_neG (owns_ext h he) hb (fun cs hx => hne (by cases hx; rfl)) (by rw [hk, e])
theorem cop_nums {M : FsM} (ok : M.Ok) (ho : M.ops ≤ OpsMax) : M.names.length * 24 ≤ 140737488355328 ∧ M.lasts.length * 24 ≤ 140737488355328 ∧ M.since.length * 48 ≤ 140737488355328 := by
  have h1 := ok.ln
  have h2 := ok.ll
  unfold OpsMax at ho
  omega
theorem cop_round {w wr wf : World} {L : RL} {M : FsM} {g i bf of cF cB : Nat} {aB : Option Addr} {vo v : Value} {vb : Nat → Value} (ST : CpSt w L M g i wr vo vb)
    (h : CopC (BCop L M vo g i bf of cF aB cB) wr w.heap.size vo g (M.files i).b (M.files i).last i ((List.range i).flatMap (eFl { L with vb := vb } M)) 6 v wf) : ∃ vo' vb', CpSt w L M g (i + 1) wf vo' vb' := by
  obtain ⟨w6, a, c, a5, c5, hB, hch, hob, hof, rfl⟩ := h
  have hlo : ∀ k, vo.ownBlock = some k → w.heap.size ≤ k := fun k hk => owns_lo ST.fil hk
  have hbox := hB.2.2.2.1
  refine ⟨.slice a5 (i + 1) c5, fun j => if j = i then .slice a (M.files i).b.length c else vb j, ?_, ST.lo, (heap_setCell_same w6 g 0 _ _ _ hbox).trans rfl, ?_, fun j hj => ?_⟩
  · have hc : Ch (fun k => w.heap.size ≤ k) w (w6.setCell ⟨g, 0, none⟩ (.slice a5 (i + 1) c5)) := ((Ch.of_ext ST.ext).tr (hch.mono fun k _ hk => hlo k hk)).setC ST.lo
    exact hc.ext fun k hk hf => by omega
  · have e : (List.range (i + 1)).flatMap (eFl { L with vb := fun j => if j = i then .slice a (M.files i).b.length c else vb j } M) = (List.range i).flatMap (eFl { L with vb := vb } M) ++ [.slice a (M.files i).b.length c, .int .i64 ((M.files i).last : Nat)] := by
      rw [List.range_succ, List.flatMap_append]
      congr 1
      · exact flatMap_congrG fun x hx => by
          have := List.mem_range.1 hx
          unfold eFl
          simp only
          rw [if_neg (by omega)]
      · simp [eFl]
    rw [e]
    exact row_setg hof (Ext.rfl w6) hbox (by decide)
  · by_cases e : j = i
    · subst e
      simp only [if_true]
      exact row_setg (owns_base hob ST.ext.size) (Ext.rfl w6) hbox (by decide)
    · simp only [e, if_false]
      have h1 := ST.byt j (by omega)
      have h2 : w6.ownsRow w.heap.size 5 1 (vb j) (M.files j).b.length (Lib.byteCells (M.files j).b) := owns_ch h1 fun k hk => hch.block k (by obtain ⟨cs, hx⟩ := own_ltG h1 hk; exact blk_lt hx) fun e => ty_ne h1 ST.fil (by decide) hk e rfl
      exact row_setg h2 (Ext.rfl w6) hbox (by decide)
/-- one row of the box copied -/
theorem cop_row {T E : TypeId} {sz bt n : Nat} {w w1 : World} {vs : Value} {xs : List Value} {g : Nat} {cs : Array Value} (hT : ElT Try.prog T E sz bt) (E1 : Ext w w1) (hs : w.ownsRow 0 E sz vs n xs) (h1 : ∀ u ∈ xs, u.oneCell' = true) (hb : n * bt ≤ 140737488355328) (hg : w.heap.size ≤ g) (hbox : w1.heap[g]? = some (.cells cs 113 (0, 0))) (ty : TypeId) :
    ∃ a c w4, (Builtin.append_ #[T, T] ty #[.slice (some ⟨w1.heap.size, 0, none⟩) 0 0, vs]).run Try.prog (w1.alloc (.cells #[] E)) = .ok (.slice a n c) w4 ∧ w4.ownsRow w.heap.size E sz (.slice a n c) n xs ∧ Ext w1 w4 ∧ w4.heap[g]? = some (.cells cs 113 (0, 0)) := by
  obtain ⟨v', w4, hrun, hp⟩ := app_copy hT (own_new0 w1 E sz) (owns_ext hs (E1.al _)) h1 hb ty
  have X := app_ext ((Ext.rfl w1).al (.cells #[] E)) hp (fun k hk => by cases hk; exact Nat.le_refl _)
  obtain ⟨a, c, rfl, _⟩ := slice_ofG hp.own
  exact ⟨a, c, w4, hrun, owns_up hp.own fun k hk => Nat.le_trans E1.size (X.2 k hk), X.1, (X.1.block _ (blk_lt hbox)).trans hbox⟩
theorem setg_ext {w w1 w4 : World} {g j : Nat} {x : Value} (E1 : Ext w w1) (h : Ext w1 w4) (hg : w.heap.size ≤ g) : Ext w (w4.setCell ⟨g, j, none⟩ x) :=
  ((Ch.of_ext (F := fun k => k = g) (E1.tr h)).setC rfl).ext fun k hk hf => by omega
set_option maxRecDepth 100000 in
set_option maxHeartbeats 8000000 in
theorem rcopy_in (L : RL) (M : FsM) (w : World) (h : RefAt w L M) (ok : M.Ok) (ho : M.ops ≤ OpsMax) :
    Calls Try.prog 40 #[ptrV L.rb] w (CopyR M w) := by
  have H := hid h
  have OK := hid ok
  have HO := hid ho
  obtain ⟨c0, c1, c2, c3, c4, c5, c6, c7, c8, c9, ff⟩ := rfc h L.rb rfl
  have FX := hid (fun w' (hx : Ext w w') => rfc (h.ext hx) L.rb rfl)
  have hq0 : L.rb < w.heap.size := blk_lt h.row
  have hq1 : w.heap.size ≠ L.rb := Nat.ne_of_gt hq0
  obtain ⟨aF, cF, hvf, hmF⟩ := slice_ofG h.fil
  obtain ⟨aN, cN, hvn, hmN⟩ := slice_ofG h.nam
  obtain ⟨aL, cL, hvl, hmL⟩ := slice_ofG h.las
  obtain ⟨aS, cS, hvs, hmS⟩ := slice_ofG h.sin
  rw [hvf] at c0
  rw [hvn] at c1
  rw [hvl] at c2
  rw [hvs] at c3
  have HV := hid (And.intro hvf (And.intro hvn (And.intro hvl hvs)))
  clear h ok ho hvf hvn hvl hvs hmN hmL hmS
  go_enter Try.func40, Try.ntmps40
  go_upto_region 3 with fail
  have hst : CpSt w L M w.heap.size 0 (w.alloc (.cells #[.slice none 0 0, .slice aN M.names.length cN, .slice aL M.lasts.length cL, .slice aS M.since.length cS, .int .i64 (M.quota : Nat), .bool (decide (0 ≤ M.fuse)), .int .i64 L.fu, .bool (decide (0 ≤ M.fail)), .int .i64 L.fa, .int .i64 (M.ops : Nat)] 113)) (.slice none 0 0) L.vb := by
    refine ⟨(Ext.rfl w).al _, Nat.le_refl _, ?_, World.ownsRow_nil _ _ _ _, fun j hj => absurd hj (Nat.not_lt_zero _)⟩
    rw [heap_alloc_new w]
    unfold rfC
    rw [HV.out.2.1, HV.out.2.2.1, HV.out.2.2.2]
  have ST := hid hst
  obtain ⟨g, hg⟩ : ∃ g, g = w.heap.size := ⟨_, rfl⟩
  rw [← hg] at ST ⊢
  have HG := hid hg
  clear hst hg c0 c1 c2 c3 c4 c5 c6 c7 c8 c9 ff hq0 hq1
  generalize w.alloc (.cells #[.slice none 0 0, .slice aN M.names.length cN, .slice aL M.lasts.length cL, .slice aS M.since.length cS, .int .i64 (M.quota : Nat), .bool (decide (0 ≤ M.fuse)), .int .i64 L.fu, .bool (decide (0 ≤ M.fail)), .int .i64 L.fa, .int .i64 (M.ops : Nat)] 113) = w1 at *
  have hnf : M.nf ≤ 1000000000000 := by have h1 := OK.out.lf; have h2 := HO.out; unfold OpsMax at h2; omega
  go_wp2_with fail
  go_loopw [4] (fun u wr => ∃ (i : Nat) (vo : Value) (vb : Nat → Value), i ≤ M.nf ∧ u = .int .i64 i ∧ CpSt w L M g i wr vo vb) (fun u _ => M.nf - (intOf u).toNat)
  case atStart => exact ⟨0, _, _, Nat.zero_le _, rfl, ST.out⟩
  case round =>
    clear ST
    obtain ⟨i, vo, vb, hi, rfl, hst⟩ := hrel
    have ST := hid hst
    obtain ⟨k0, -⟩ := FX.out wr hst.ext
    rw [HV.out.1] at k0
    clear hst
    by_cases hlt : i < M.nf
    · obtain ⟨bf, of, cF2, hfc0⟩ := H.out.fcell hlt
      have hfc := hfc0.ext ST.out.ext
      have hbl := cell_lt hfc0.c0
      have hv2 := hfc.v
      rw [HV.out.1] at hv2
      simp only [Value.slice.injEq] at hv2
      obtain ⟨rfl, _, rfl⟩ := hv2
      obtain ⟨aB, cB, hvb, hmB⟩ := slice_ofG (H.out.byt _ hlt)
      have r0 := hfc.c0.trans (congrArg some hvb)
      have r1 := hfc.c1
      obtain ⟨ao, co, rfl, hmo⟩ := slice_ofG ST.out.fil
      have g0 : wr.cell? ⟨g, 0, none⟩ = some (.slice ao i co) := by rw [cell_of_row _ _ _ _ _ _ ST.out.box]; rfl
      have gf : ∀ j, wr.frozen? ⟨g, j, none⟩ = false := fun j => frozen_of_row _ _ _ _ _ ST.out.box
      have hSB : SlB wr (.slice aB (M.files i).b.length cB) (M.files i).b := by rw [← hvb]; exact owns_slB (owns_ext (H.out.byt _ hlt) ST.out.ext)
      have HB0 := hid (show BCop L M (.slice ao i co) g i bf of cF aB cB wr from ⟨k0, r0, r1, ST.out.box, hSB⟩)
      have HBM := hid (show ∀ a b, Ext a b → BCop L M (.slice ao i co) g i bf of cF aB cB a → BCop L M (.slice ao i co) g i bf of cF aB cB b from fun a b he h => ⟨ext_cell he h.1, ext_cell he h.2.1, ext_cell he h.2.2.1, (he.block _ (blk_lt h.2.2.2.1)).trans h.2.2.2.1, h.2.2.2.2.go he⟩)
      have HBE := hid (show ∀ w', Ext wr w' → BCop L M (.slice ao i co) g i bf of cF aB cB w' from fun w' he => HBM.out _ _ he HB0.out)
      have HBC := hid (show ∀ a b, BCop L M (.slice ao i co) g i bf of cF aB cB a → Ch (fun k => (Value.slice ao i co).ownBlock = some k) a b → BCop L M (.slice ao i co) g i bf of cF aB cB b from fun a b => bcop_ch ST.out.fil (blk_lt H.out.row) hbl (fun k hk => by
        rw [← hvb] at hk
        obtain ⟨cs, hx⟩ := own_ltG (H.out.byt _ hlt) hk
        exact blk_lt hx) (fun k hk e => own_neG ST.out.fil ST.out.box (by simp) (by rw [hk, e])))
      have HSZ := hid (And.intro (OK.out.fl i).2 ST.out.ext.size)
      have HFL := hid ST.out.fil
      clear hfc hfc0 hvb hSB r0 r1 hmB hmo
      go_wp2_with fail
      refine wp_drawC (CopC (BCop L M (.slice ao i co) g i bf of cF aB cB) wr w.heap.size (.slice ao i co) g (M.files i).b (M.files i).last i ((List.range i).flatMap (eFl { L with vb := vb } M))) [2, 11, 20, 21, 22, 24] [0, 20, 29, 38, 39, 40, 0] (by kernel_rfl) ⟨by kernel_rfl, by kernel_rfl, rfl, by decide, fun k v w w' => copC_stay HBM.out⟩ (fun v => Ext.rfl wr) (by rfl) ?_
      intro HL
      refine rgc_read 18 HL (by rfl) (by rfl) (by rfl) (fun k u w hk hS => ob_field (n := 0) 0 0 109 (by rfl) (by rfl) Try.underlying113 (by rfl) (by kernel_rfl) rfl) rfl (by rfl) ?_
      refine rgc_read 19 HL (by rfl) (by rfl) (by rfl) (fun k u w hk hS => ob_load (v := .slice ao i co) (by rfl) (by rfl) (by kernel_rfl) (fun w' he => by rw [cell_of_row _ _ _ _ _ _ (HBM.out _ _ he (copC_b HBE.out hk hS)).2.2.2.1]; rfl)) rfl (by rfl) ?_
      refine rgc_eff 0 20 (by rfl) (by rfl) (by rfl) (by rfl) (by kernel_rfl) rfl rfl (by rfl) (fun a w hx hS => uc_row0 (row0_u8 w) (copC_one hS)) ?_
      refine rgc_read 21 HL (by rfl) (by rfl) (by rfl) (fun k u w hk hS => ob_move (by rfl) (by rfl)) rfl (by rfl) ?_
      refine rgc_read 22 HL (by rfl) (by rfl) (by rfl) (fun k u w hk hS => ob_nilck (by rfl) (by rfl)) rfl (by rfl) ?_
      refine rgc_read 23 HL (by rfl) (by rfl) (by rfl) (fun k u w hk hS => ob_field (n := 0) 0 0 109 (by rfl) (by rfl) Try.underlying113 (by rfl) (by kernel_rfl) rfl) rfl (by rfl) ?_
      refine rgc_read 24 HL (by rfl) (by rfl) (by rfl) (fun k u w hk hS => ob_load (v := .slice (some ⟨bf, of, none⟩) M.nf cF) (by rfl) (by rfl) (by kernel_rfl) (fun w' he => (HBM.out _ _ he (copC_b HBE.out hk hS)).1)) rfl (by rfl) ?_
      refine rgc_read 25 HL (by rfl) (by rfl) (by rfl) (fun k u w hk hS => ob_move (by rfl) (by rfl)) rfl (by rfl) ?_
      refine rgc_read 26 HL (by rfl) (by rfl) (by rfl) (fun k u w hk hS => ob_index 2 (of + i * 2) (by rfl) (by rfl) (by rfl) Try.underlying109 (by kernel_rfl) (Int.natCast_nonneg i) (Int.ofNat_lt.2 hlt) (by rw [Int.toNat_natCast])) rfl (by rfl) ?_
      refine rgc_read 27 HL (by rfl) (by rfl) (by rfl) (fun k u w hk hS => ob_field (n := 0) (of + i * 2) 0 53 (by rfl) (by rfl) Try.underlying115 (by rfl) (by kernel_rfl) rfl) rfl (by rfl) ?_
      refine rgc_read 28 HL (by rfl) (by rfl) (by rfl) (fun k u w hk hS => ob_load (v := .slice aB (M.files i).b.length cB) (by rfl) (by rfl) (by kernel_rfl) (fun w' he => (HBM.out _ _ he (copC_b HBE.out hk hS)).2.1)) rfl (by rfl) ?_
      refine rgc_eff 1 29 (by rfl) (by rfl) (by rfl) (by rfl) (by kernel_rfl) rfl rfl (by rfl) (fun a w hx hS => copC_two hS (HBE.out w hS.1).2.2.2.2 (len_small HSZ.out.1) (hx (.tmp 28) (by simp [Op.operands, Call.operands]) _ (by rfl))) ?_
      refine rgc_read 30 HL (by rfl) (by rfl) (by rfl) (fun k u w hk hS => ob_move (by rfl) (by rfl)) rfl (by rfl) ?_
      refine rgc_read 31 HL (by rfl) (by rfl) (by rfl) (fun k u w hk hS => ob_nilck (by rfl) (by rfl)) rfl (by rfl) ?_
      refine rgc_read 32 HL (by rfl) (by rfl) (by rfl) (fun k u w hk hS => ob_field (n := 0) 0 0 109 (by rfl) (by rfl) Try.underlying113 (by rfl) (by kernel_rfl) rfl) rfl (by rfl) ?_
      refine rgc_read 33 HL (by rfl) (by rfl) (by rfl) (fun k u w hk hS => ob_load (v := .slice (some ⟨bf, of, none⟩) M.nf cF) (by rfl) (by rfl) (by kernel_rfl) (fun w' he => (HBM.out _ _ he (copC_b HBE.out hk hS)).1)) rfl (by rfl) ?_
      refine rgc_read 34 HL (by rfl) (by rfl) (by rfl) (fun k u w hk hS => ob_move (by rfl) (by rfl)) rfl (by rfl) ?_
      refine rgc_read 35 HL (by rfl) (by rfl) (by rfl) (fun k u w hk hS => ob_index 2 (of + i * 2) (by rfl) (by rfl) (by rfl) Try.underlying109 (by kernel_rfl) (Int.natCast_nonneg i) (Int.ofNat_lt.2 hlt) (by rw [Int.toNat_natCast])) rfl (by rfl) ?_
      refine rgc_read 36 HL (by rfl) (by rfl) (by rfl) (fun k u w hk hS => ob_field (n := 0) (of + i * 2 + 1) 1 3 (by rfl) (by rfl) Try.underlying115 (by rfl) (by kernel_rfl) rfl) rfl (by rfl) ?_
      refine rgc_read 37 HL (by rfl) (by rfl) (by rfl) (fun k u w hk hS => ob_load (v := .int .i64 ((M.files i).last : Nat)) (by rfl) (by rfl) (by kernel_rfl) (fun w' he => (HBM.out _ _ he (copC_b HBE.out hk hS)).2.2.1)) rfl (by rfl) ?_
      refine rgc_eff 2 38 (by rfl) (by rfl) (by rfl) (by rfl) (by kernel_rfl) rfl rfl (by rfl) (fun a w hx hS => copC_three hS (hx (.tmp 37) (by simp [Op.operands]) _ (by rfl))) ?_
      refine rgc_eff 3 39 (by rfl) (by rfl) (by rfl) (by rfl) (by kernel_rfl) rfl rfl (by rfl) (fun a w hx hS => copC_four hS) ?_
      refine rgc_eff 4 40 (by rfl) (by rfl) (by rfl) (by rfl) (by kernel_rfl) rfl rfl (by rfl) (fun a w hx hS => copC_five HBE.out HBC.out hS (hx (.tmp 19) (by simp [Op.operands, Call.operands]) _ (by rfl)) HFL.out HSZ.out.2 (lt_big hlt hnf).1) ?_
      refine rgc_read 41 HL (by rfl) (by rfl) (by rfl) (fun k u w hk hS => ob_field (n := 0) 0 0 109 (by rfl) (by rfl) Try.underlying113 (by rfl) (by kernel_rfl) rfl) rfl (by rfl) ?_
      refine rgc_store 5 (by rfl) (by rfl) (by rfl) (by kernel_rfl) rfl rfl (fun a w hx hS => copC_six hS (by rw [cell_of_row _ _ _ _ _ _ (copC_b HBE.out (by decide) hS).2.2.2.1]; rfl) (frozen_of_row _ _ _ _ _ (copC_b HBE.out (by decide) hS).2.2.2.1) (hx (.tmp 41) (by simp [Op.operands]) _ (by rfl))) ?_
      refine rgc_end ?_
      intro wf
      simp only [asg, List.set_cons_zero, List.set_cons_succ, List.map_cons, List.map_nil, anyV, opens]
      intro v20 _ v29 _ v38 _ v39 _ v40 _ hfin
      have HFIN := hid hfin
      clear hfin
      go_wp2_with fail
      obtain ⟨vo', vb', hst'⟩ := cop_round ST.out HFIN.out
      go_roundw
      case rel => exact ⟨i + 1, vo', vb', hlt, by rw [int_succ], hst'⟩
      case measure => exact ms_dec hlt
    · have hie : i = M.nf := by omega
      subst hie
      obtain ⟨ao, co, rfl, hmo⟩ := slice_ofG ST.out.fil
      have hn3 := hid (cop_nums OK.out HO.out)
      obtain ⟨a1, z1, w4, hr1, ho1, E1, hb1⟩ := cop_row (n := M.names.length) el_nm ST.out.ext H.out.nam (flat_one eNm_one M.names) hn3.out.1 ST.out.lo ST.out.box 110
      rw [HV.out.2.1] at hr1
      have HR1 := hid hr1
      have HO1 := hid ho1
      have HE1 := hid E1
      have HB1 := hid hb1
      obtain ⟨-, x1, x2, x3, -⟩ := FX.out wr ST.out.ext
      have k1 := x1
      clear x1 x2 x3
      rw [HV.out.2.1] at k1
      have g1 : w4.cell? ⟨g, 1, none⟩ = some L.vn := by rw [cell_of_row _ _ _ _ _ _ hb1]; rfl
      have gf : ∀ j, w4.frozen? ⟨g, j, none⟩ = false := fun j => frozen_of_row _ _ _ _ _ hb1
      have hq0 : L.rb < wr.heap.size := cell_lt k1
      have hq1 : wr.heap.size ≠ L.rb := Nat.ne_of_gt hq0
      clear hr1 ho1 E1 hb1
      go_upto_region 8 with (at_builtin; refine wpList_app_eq rfl rfl HR1.out ?_)
      have E5 := hid (setg_ext (g := g) (j := 1) (x := .slice a1 M.names.length z1) ST.out.ext HE1.out ST.out.lo)
      have B5 := hid (heap_setCell_same w4 g 1 _ _ (.slice a1 M.names.length z1) HB1.out)
      have F5 := hid (row_setg (j := 1) (x := .slice a1 M.names.length z1) ST.out.fil HE1.out HB1.out (by decide))
      have N5 := hid (row_setg (j := 1) (x := .slice a1 M.names.length z1) HO1.out (Ext.rfl w4) HB1.out (by decide))
      have Y5 := hid (fun j hj => row_setg (j := 1) (x := .slice a1 M.names.length z1) (ST.out.byt j hj) HE1.out HB1.out (by decide))
      clear k1 g1 gf hq0 hq1 HR1 HO1 HE1 HB1 hlt
      generalize w4.setCell ⟨g, 1, none⟩ (.slice a1 M.names.length z1) = w5 at *
      obtain ⟨a2, z2, w6, hr2, ho2, E2, hb2⟩ := cop_row (n := M.lasts.length) el_nm E5.out H.out.las (flat_one eNm_one M.lasts) hn3.out.2.1 ST.out.lo B5.out 110
      rw [HV.out.2.2.1] at hr2
      have HR2 := hid hr2
      have HO2 := hid ho2
      have HE2 := hid E2
      have HB2 := hid hb2
      obtain ⟨-, x1, x2, x3, -⟩ := FX.out w5 E5.out
      have k2 := x2
      clear x1 x2 x3
      rw [HV.out.2.2.1] at k2
      have g2 : w6.cell? ⟨g, 2, none⟩ = some L.vl := by rw [cell_of_row _ _ _ _ _ _ hb2]; rfl
      have gf : ∀ j, w6.frozen? ⟨g, j, none⟩ = false := fun j => frozen_of_row _ _ _ _ _ hb2
      have hq0 : L.rb < w5.heap.size := cell_lt k2
      have hq1 : w5.heap.size ≠ L.rb := Nat.ne_of_gt hq0
      clear hr2 ho2 E2 hb2
      go_upto_region 9 with (at_builtin; refine wpList_app_eq rfl rfl HR2.out ?_)
      have E7 := hid (setg_ext (g := g) (j := 2) (x := .slice a2 M.lasts.length z2) E5.out HE2.out ST.out.lo)
      have B7 := hid (heap_setCell_same w6 g 2 _ _ (.slice a2 M.lasts.length z2) HB2.out)
      have F7 := hid (row_setg (j := 2) (x := .slice a2 M.lasts.length z2) F5.out HE2.out HB2.out (by decide))
      have N7 := hid (row_setg (j := 2) (x := .slice a2 M.lasts.length z2) N5.out HE2.out HB2.out (by decide))
      have L7 := hid (row_setg (j := 2) (x := .slice a2 M.lasts.length z2) HO2.out (Ext.rfl w6) HB2.out (by decide))
      have Y7 := hid (fun j hj => row_setg (j := 2) (x := .slice a2 M.lasts.length z2) (Y5.out j hj) HE2.out HB2.out (by decide))
      clear k2 g2 gf hq0 hq1 HR2 HO2 HE2 HB2 E5 F5 N5 Y5
      generalize w6.setCell ⟨g, 2, none⟩ (.slice a2 M.lasts.length z2) = w7 at *
      obtain ⟨a3, z3, w8, hr3, ho3, E3, hb3⟩ := cop_row (n := M.since.length) el_cg E7.out H.out.sin (flat_one eCg_one M.since) hn3.out.2.2 ST.out.lo B7.out 111
      rw [HV.out.2.2.2] at hr3
      have HR3 := hid hr3
      have HO3 := hid ho3
      have HE3 := hid E3
      have HB3 := hid hb3
      obtain ⟨-, x1, x2, x3, -⟩ := FX.out w7 E7.out
      have k3 := x3
      clear x1 x2 x3
      rw [HV.out.2.2.2] at k3
      have g3 : w8.cell? ⟨g, 3, none⟩ = some L.vs := by rw [cell_of_row _ _ _ _ _ _ hb3]; rfl
      have gf : ∀ j, w8.frozen? ⟨g, j, none⟩ = false := fun j => frozen_of_row _ _ _ _ _ hb3
      have hq0 : L.rb < w7.heap.size := cell_lt k3
      have hq1 : w7.heap.size ≠ L.rb := Nat.ne_of_gt hq0
      clear hr3 ho3 E3 hb3
      go_wp2_with (at_builtin; refine wpList_app_eq rfl rfl HR3.out ?_)
      go_ret
      have E9 := setg_ext (g := g) (j := 3) (x := .slice a3 M.since.length z3) E7.out HE3.out ST.out.lo
      have B9 := heap_setCell_same w8 g 3 _ _ (.slice a3 M.since.length z3) HB3.out
      have F9 := row_setg (j := 3) (x := .slice a3 M.since.length z3) F7.out HE3.out HB3.out (by decide)
      have N9 := row_setg (j := 3) (x := .slice a3 M.since.length z3) N7.out HE3.out HB3.out (by decide)
      have L9 := row_setg (j := 3) (x := .slice a3 M.since.length z3) L7.out HE3.out HB3.out (by decide)
      have S9 := row_setg (j := 3) (x := .slice a3 M.since.length z3) HO3.out (Ext.rfl w8) HB3.out (by decide)
      have Y9 := fun j hj => row_setg (j := 3) (x := .slice a3 M.since.length z3) (Y7.out j hj) HE3.out HB3.out (by decide)
      refine ⟨{ L with rb := g, vf := .slice ao M.nf co, vn := .slice a1 M.names.length z1, vl := .slice a2 M.lasts.length z2, vs := .slice a3 M.since.length z3, vb := vb }, rfl, ⟨B9.trans rfl, owns_base F9 (Nat.zero_le _), fun i hi => owns_base (Y9 i hi) (Nat.zero_le _), owns_base N9 (Nat.zero_le _), owns_base L9 (Nat.zero_le _), owns_base S9 (Nat.zero_le _), H.out.fu, H.out.fa⟩, E9, fun k hk => ?_⟩
      rcases hk with hk | hk | hk | hk | hk | ⟨i, hi, hk⟩
      · rw [hk]; exact ST.out.lo
      · exact owns_lo F9 hk
      · exact owns_lo N9 hk
      · exact owns_lo L9 hk
      · exact owns_lo S9 hk
      · exact owns_lo (Y9 i hi) hk
end Go.Proofs.Ytjekfifnhdoamaa
