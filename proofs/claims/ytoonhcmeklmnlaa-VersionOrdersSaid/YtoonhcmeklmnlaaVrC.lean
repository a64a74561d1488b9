/- The calls at all statements' head of layer 14. -/
import Derived.Test.YtoonhcmeklmnlaaVrB
set_option linter.unusedSimpArgs false
set_option linter.unusedVariables false
set_option linter.unnecessarySimpa false

/-! ## (VrC0) A region that draws its order: 'v, e := Apply(.., file(..))'. -/
namespace Go.Proofs.Ytoonhcmeklmnlaa
open Go.RowKit Go.Rg Go.St

theorem len_S1 : ∀ n, n < 4 → (S1 n).length ≤ 200000 := fun n hn => by
  unfold S1 upd noneV
  by_cases h : n = 1 <;> simp [h]
theorem len_S3 : ∀ n, n < 4 → (S3 n).length ≤ 200000 := fun n hn => by
  unfold S3 S1 upd noneV
  by_cases h : n = 1 <;> simp [h]
theorem fit_S1 : ∀ n, n < 4 → ∀ f, f ∈ S1 n → FitF f := fun n hn f hf => by
  unfold S1 upd noneV at hf
  split at hf
  · simp at hf; subst hf; exact ⟨by decide, by decide⟩
  · simp at hf
/-! ### a region 'v, e := Apply(.., file(..))' -/
structure RgI (ta tb tc td te tf : Tmp) (W0 : World) (F : File) (code : Int) (S' : Lv) (L : Nat → Bool) (f : Tmp → Value) (w : World) : Prop where
  b0 : Below W0.heap.size W0 w
  b2 : L 2 = true → L 4 = false → ∃ b, f ta = .slice (some ⟨b, 0, none⟩) 1 1 ∧ w.heap[b]? = some (.cells (fileCells F) 80 (0, 0))
  b3 : L 3 = true → L 4 = false → ∃ b, f tb = .agg #[.int .u64 0, .int .u64 0, .int .u64 0, nilV, .slice (some ⟨b, 0, none⟩) 1 1] ∧ w.heap[b]? = some (.cells (fileCells F) 80 (0, 0))
  b4 : L 4 = true → ∃ a0 b0 c0 a1 b1 c1 a2 b2 c2 a3 b3 c3, f tc = .tuple #[.agg #[.slice a0 b0 c0, .slice a1 b1 c1, .slice a2 b2 c2, .slice a3 b3 c3], .int .i64 code] ∧ Ver w (.slice a0 b0 c0) (.slice a1 b1 c1) (.slice a2 b2 c2) (.slice a3 b3 c3) S'
  b5 : L 5 = true → L 4 = true ∧ f td = f tc
  b6 : L 6 = true → L 4 = true ∧ f tc = .tuple #[f te, .int .i64 code]
  b8 : L 8 = true → L 9 = false → ∃ b, f tf = .pointer (some ⟨b, 0, none⟩) ∧ W0.heap.size ≤ b ∧ w.heap[b]? = some (.cells #[nilV, nilV, nilV, nilV] 67 (0, 0))
  b9 : L 9 = true → ∃ b u0 u1 u2 u3, f tf = .pointer (some ⟨b, 0, none⟩) ∧ w.heap[b]? = some (.cells #[u0, u1, u2, u3] 67 (0, 0)) ∧ Ver w u0 u1 u2 u3 S'
theorem RgI.start {ta tb tc td te tf : Tmp} {W0 w : World} {F : File} {code : Int} {S' : Lv} {f : Tmp → Value} (h : Ext W0 w) : RgI ta tb tc td te tf W0 F code S' (fun _ => false) f w := by
  refine ⟨h, ?_, ?_, ?_, ?_, ?_, ?_, ?_⟩
  all_goals (intro h; cases h)
theorem RgI.keep {ta tb tc td te tf : Tmp} {W0 : World} {F : File} {code : Int} {S' : Lv} {i : Nat} (h2 : i ≠ 2) (h3 : i ≠ 3) (h4 : i ≠ 4) (h5 : i ≠ 5) (h6 : i ≠ 6) (h8 : i ≠ 8) (h9 : i ≠ 9) :
    ∀ L f g w w', (∀ t ∈ [ta, tb, tc, td, te, tf], f t = g t) → RgI ta tb tc td te tf W0 F code S' L f w → Ext w w' → RgI ta tb tc td te tf W0 F code S' (setL L i) g w' := by
  intro L f g w w' hfg h he
  have e : ∀ j, j ≠ i → setL L i j = L j := fun j hj => by simp [setL, hj]
  have ea := hfg ta (by simp)
  have eb := hfg tb (by simp)
  have ec := hfg tc (by simp)
  have ed := hfg td (by simp)
  have ee := hfg te (by simp)
  have ef := hfg tf (by simp)
  refine ⟨Ext.tr h.b0 he, ?_, ?_, ?_, ?_, ?_, ?_, ?_⟩
  · rw [e 2 (Ne.symm h2), e 4 (Ne.symm h4), ← ea]
    intro a b; obtain ⟨b, x1, x2⟩ := h.b2 a b; exact ⟨b, x1, (he.block _ (vblk_lt x2)).trans x2⟩
  · rw [e 3 (Ne.symm h3), e 4 (Ne.symm h4), ← eb]
    intro a b; obtain ⟨b, x1, x2⟩ := h.b3 a b; exact ⟨b, x1, (he.block _ (vblk_lt x2)).trans x2⟩
  · rw [e 4 (Ne.symm h4), ← ec]
    intro a; obtain ⟨a0, b0, c0, a1, b1, c1, a2, b2, c2, a3, b3, c3, x1, x2⟩ := h.b4 a; exact ⟨a0, b0, c0, a1, b1, c1, a2, b2, c2, a3, b3, c3, x1, x2.go he⟩
  · rw [e 5 (Ne.symm h5), e 4 (Ne.symm h4), ← ed, ← ec]; exact h.b5
  · rw [e 6 (Ne.symm h6), e 4 (Ne.symm h4), ← ec, ← ee]; exact h.b6
  · rw [e 8 (Ne.symm h8), e 9 (Ne.symm h9), ← ef]
    intro a b; obtain ⟨b, x1, x2, x3⟩ := h.b8 a b; exact ⟨b, x1, x2, (he.block _ (vblk_lt x3)).trans x3⟩
  · rw [e 9 (Ne.symm h9), ← ef]
    intro a; obtain ⟨b, u0, u1, u2, u3, x1, x2, x3⟩ := h.b9 a; exact ⟨b, u0, u1, u2, u3, x1, (he.block _ (vblk_lt x2)).trans x2, x3.go he⟩
/-- an operation that writes one of the claim's slots and only makes memory -/
theorem RgI.slot1 {ta tb tc td te tf : Tmp} {W0 w w' : World} {F : File} {code : Int} {S' : Lv} {L : Nat → Bool} {f g : Tmp → Value} {i : Nat} (h : RgI ta tb tc td te tf W0 F code S' L f w) (hL : L i = false) (he : Ext w w')
    (h2 : i ≠ 2 → g ta = f ta) (h3 : i ≠ 3 → g tb = f tb) (h4 : i ≠ 4 → g tc = f tc) (h5 : i ≠ 5 → g td = f td) (h6 : i ≠ 6 → g te = f te) (h8 : i ≠ 8 → g tf = f tf) (h9 : i ≠ 9)
    (k2 : i = 2 → ∃ b, g ta = .slice (some ⟨b, 0, none⟩) 1 1 ∧ w'.heap[b]? = some (.cells (fileCells F) 80 (0, 0)))
    (k3 : i = 3 → ∃ b, g tb = .agg #[.int .u64 0, .int .u64 0, .int .u64 0, nilV, .slice (some ⟨b, 0, none⟩) 1 1] ∧ w'.heap[b]? = some (.cells (fileCells F) 80 (0, 0)))
    (k4 : i = 4 → (∃ a0 b0 c0 a1 b1 c1 a2 b2 c2 a3 b3 c3, g tc = .tuple #[.agg #[.slice a0 b0 c0, .slice a1 b1 c1, .slice a2 b2 c2, .slice a3 b3 c3], .int .i64 code] ∧ Ver w' (.slice a0 b0 c0) (.slice a1 b1 c1) (.slice a2 b2 c2) (.slice a3 b3 c3) S') ∧ L 5 = false ∧ L 6 = false)
    (k5 : i = 5 → L 4 = true ∧ g td = f tc) (k6 : i = 6 → L 4 = true ∧ f tc = .tuple #[g te, .int .i64 code])
    (k8 : i = 8 → ∃ b, g tf = .pointer (some ⟨b, 0, none⟩) ∧ W0.heap.size ≤ b ∧ w'.heap[b]? = some (.cells #[nilV, nilV, nilV, nilV] 67 (0, 0))) (k9 : i = 8 → L 9 = false) :
    RgI ta tb tc td te tf W0 F code S' (setL L i) g w' := by
  have e : ∀ j, setL L i j = if j = i then true else L j := fun j => rfl
  refine ⟨Ext.tr h.b0 he, ?_, ?_, ?_, ?_, ?_, ?_, ?_⟩
  · rw [e, e]
    by_cases hi : 2 = i
    · subst hi; intro _ _; exact k2 rfl
    · rw [if_neg hi, h2 (Ne.symm hi)]
      intro a b
      have hb : L 4 = false := by by_cases h4i : 4 = i <;> simp_all
      obtain ⟨b, x1, x2⟩ := h.b2 a hb; exact ⟨b, x1, (he.block _ (vblk_lt x2)).trans x2⟩
  · rw [e, e]
    by_cases hi : 3 = i
    · subst hi; intro _ _; exact k3 rfl
    · rw [if_neg hi, h3 (Ne.symm hi)]
      intro a b
      have hb : L 4 = false := by by_cases h4i : 4 = i <;> simp_all
      obtain ⟨b, x1, x2⟩ := h.b3 a hb; exact ⟨b, x1, (he.block _ (vblk_lt x2)).trans x2⟩
  · rw [e]
    by_cases hi : 4 = i
    · subst hi; intro _; exact (k4 rfl).1
    · rw [if_neg hi, h4 (Ne.symm hi)]
      intro a; obtain ⟨a0, b0, c0, a1, b1, c1, a2, b2, c2, a3, b3, c3, x1, x2⟩ := h.b4 a; exact ⟨a0, b0, c0, a1, b1, c1, a2, b2, c2, a3, b3, c3, x1, x2.go he⟩
  · rw [e, e]
    by_cases hi : 5 = i
    · subst hi; intro _
      rw [if_neg (by decide), h4 (by decide)]
      exact k5 rfl
    · rw [if_neg hi, h5 (Ne.symm hi)]
      intro a
      by_cases h4i : 4 = i
      · subst h4i; rw [(k4 rfl).2.1] at a; cases a
      · rw [if_neg h4i, h4 (Ne.symm h4i)]; exact h.b5 a
  · rw [e, e]
    by_cases hi : 6 = i
    · subst hi; intro _
      rw [if_neg (by decide), h4 (by decide)]
      exact k6 rfl
    · rw [if_neg hi, h6 (Ne.symm hi)]
      intro a
      by_cases h4i : 4 = i
      · subst h4i; rw [(k4 rfl).2.2] at a; cases a
      · rw [if_neg h4i, h4 (Ne.symm h4i)]; exact h.b6 a
  · rw [e, e]
    by_cases hi : 8 = i
    · subst hi; intro _ _; exact k8 rfl
    · rw [if_neg hi, h8 (Ne.symm hi), if_neg (Ne.symm h9)]
      intro a b; obtain ⟨b, x1, x2, x3⟩ := h.b8 a b; exact ⟨b, x1, x2, (he.block _ (vblk_lt x3)).trans x3⟩
  · rw [e, if_neg (Ne.symm h9)]
    intro a
    by_cases hi : 8 = i
    · rw [k9 hi.symm] at a; cases a
    · rw [h8 (Ne.symm hi)]
      obtain ⟨b, u0, u1, u2, u3, x1, x2, x3⟩ := h.b9 a; exact ⟨b, u0, u1, u2, u3, x1, (he.block _ (vblk_lt x2)).trans x2, x3.go he⟩
theorem exec_alloc4 (ρ : Operand → Value) (w : World) (d : Option Tmp) (ty : TypeId) (pos : String) (aft : Array Edge) (g : Option (Nat × Bool)) : (execOp ρ ⟨d, .alloc 67, ty, pos, aft, g⟩).run Try.prog w = .ok (.value (.pointer (some ⟨w.heap.size, 0, none⟩))) (w.alloc (.cells #[nilV, nilV, nilV, nilV] 67)) := by kernel_rfl
theorem exec_build5 {ρ : Operand → Value} (w : World) (d : Option Tmp) (x : Operand) (ty : TypeId) (pos : String) (aft : Array Edge) (g : Option (Nat × Bool)) {b : Nat} (hx : ρ x = .slice (some ⟨b, 0, none⟩) 1 1) :
    (execOp ρ ⟨d, .build 75 #[(4, x)], ty, pos, aft, g⟩).run Try.prog w = .ok (.value (.agg #[.int .u64 0, .int .u64 0, .int .u64 0, nilV, .slice (some ⟨b, 0, none⟩) 1 1])) w := by
  have h : (Instr.build 75 #[(4, .slice (some ⟨b, 0, none⟩) 1 1)]).run Try.prog w = .ok (.agg #[.int .u64 0, .int .u64 0, .int .u64 0, nilV, .slice (some ⟨b, 0, none⟩) 1 1]) w := by kernel_rfl
  simp [execOp, hx, h, Result.andThen]
theorem run_store4 (w : World) (b : Nat) (a0 a1 a2 a3 : Option Addr) (b0 b1 b2 b3 c0 c1 c2 c3 : Nat) {x0 x1 x2 x3 : Value} {ty : TypeId} (h : w.heap[b]? = some (.cells #[x0, x1, x2, x3] ty (0, 0))) :
    (Instr.storeAt 67 (.pointer (some ⟨b, 0, none⟩)) (.agg #[.slice a0 b0 c0, .slice a1 b1 c1, .slice a2 b2 c2, .slice a3 b3 c3])).run Try.prog w = .ok () (set4 w b (.slice a0 b0 c0) (.slice a1 b1 c1) (.slice a2 b2 c2) (.slice a3 b3 c3)) := by
  obtain ⟨f0, f1, f2, f3⟩ := ver_cells h
  have ff : ∀ i, w.frozen? ⟨b, i, none⟩ = false := fun i => frozen_of_row _ _ _ _ _ h
  simp [go_sem, Instr.storeAt, Instr.sureAddr, f0, f1, f2, f3, ff]
theorem RgI.store {ta tb tc td te tf : Tmp} {W0 w : World} {F : File} {code : Int} {S' : Lv} {L : Nat → Bool} {f g : Tmp → Value} {a0 a1 a2 a3 : Option Addr} {b0 b1 b2 b3 c0 c1 c2 c3 : Nat} {b : Nat} (h : RgI ta tb tc td te tf W0 F code S' L f w) (h4 : L 4 = true) (h8 : L 8 = true) (hL : L 9 = false)
    (hg : ∀ t ∈ [ta, tb, tc, td, te, tf], f t = g t) (hp : f tf = .pointer (some ⟨b, 0, none⟩)) (hv : Ver w (.slice a0 b0 c0) (.slice a1 b1 c1) (.slice a2 b2 c2) (.slice a3 b3 c3) S') :
    RgI ta tb tc td te tf W0 F code S' (setL L 9) g (set4 w b (.slice a0 b0 c0) (.slice a1 b1 c1) (.slice a2 b2 c2) (.slice a3 b3 c3)) := by
  have e : ∀ j, setL L 9 j = if j = 9 then true else L j := fun j => rfl
  have ea := hg ta (by simp)
  have eb := hg tb (by simp)
  have ec := hg tc (by simp)
  have ed := hg td (by simp)
  have ee := hg te (by simp)
  have ef := hg tf (by simp)
  obtain ⟨b', q1, q2, q3⟩ := h.b8 h8 hL
  obtain rfl : b' = b := by rw [hp] at q1; simp only [Value.pointer.injEq, Option.some.injEq, Addr.mk.injEq] at q1; exact q1.1.symm
  have far : ∀ {v0 v1 v2 v3 : Value} {V : Lv}, Ver w v0 v1 v2 v3 V → Ver (set4 w b' (.slice a0 b0 c0) (.slice a1 b1 c1) (.slice a2 b2 c2) (.slice a3 b3 c3)) v0 v1 v2 v3 V := fun hh =>
    ver_set4 hh ⟨_, _, _, rfl⟩ ⟨_, _, _, rfl⟩ ⟨_, _, _, rfl⟩ ⟨_, _, _, rfl⟩ q3 ⟨_, _, _, rfl⟩ ⟨_, _, _, rfl⟩ ⟨_, _, _, rfl⟩ ⟨_, _, _, rfl⟩ rfl
  refine ⟨set4_ext h.b0 q2 _ _ _ _, ?_, ?_, ?_, ?_, ?_, ?_, ?_⟩
  · rw [e, e, if_neg (by decide), if_neg (by decide), h4]; intro _ hh; cases hh
  · rw [e, e, if_neg (by decide), if_neg (by decide), h4]; intro _ hh; cases hh
  · rw [e, if_neg (by decide), ← ec]
    intro a; obtain ⟨a0, b0, c0, a1, b1, c1, a2, b2, c2, a3, b3, c3, x1, x2⟩ := h.b4 a; exact ⟨a0, b0, c0, a1, b1, c1, a2, b2, c2, a3, b3, c3, x1, far x2⟩
  · rw [e, e, if_neg (by decide), if_neg (by decide), ← ed, ← ec]; exact h.b5
  · rw [e, e, if_neg (by decide), if_neg (by decide), ← ec, ← ee]; exact h.b6
  · rw [e, e, if_pos rfl]; intro _ hh; cases hh
  · intro _
    rw [← ef]
    exact ⟨b', _, _, _, _, hp, set4_heap q3 _ _ _ _, far hv⟩
end Go.Proofs.Ytoonhcmeklmnlaa

/-! ## (VrC) The calls at all statements' head of layer 14. -/
namespace Go.Proofs.Ytoonhcmeklmnlaa
open Go.RowKit Go.Rg Go.St

theorem tup_inj {x y c : Value} (h : Value.tuple #[x, c] = .tuple #[y, c]) : x = y := by simpa using h
theorem cf_file (args : Array Value) (w : World) : (callFunc 71 args).run Try.prog w = .ok (.enter 71 args) w := by kernel_rfl
theorem cf_apply (args : Array Value) (w : World) : (callFunc 39 args).run Try.prog w = .ok (.enter 39 args) w := by kernel_rfl
theorem exec_move (ρ : Operand → Value) (w : World) (x : Operand) (d : Option Tmp) (ty : TypeId) (pos : String) (aft : Array Edge) (g : Option (Nat × Bool)) : (execOp ρ ⟨d, .move x, ty, pos, aft, g⟩).run Try.prog w = .ok (.value (ρ x)) w := rfl
theorem exec_extract {ρ : Operand → Value} {w : World} {x : Operand} {i : Nat} {vs : Array Value} {v : Value} {d : Option Tmp} {ty : TypeId} {pos : String} {aft : Array Edge} {g : Option (Nat × Bool)} (hx : ρ x = .tuple vs) (hv : vs[i]? = some v) : (execOp ρ ⟨d, .extract x i, ty, pos, aft, g⟩).run Try.prog w = .ok (.value v) w := by
  simp [execOp, Instr.extract, hx, hv]
theorem sl_at (f : File) {w : World} {b : Nat} (h : w.heap[b]? = some (.cells (fileCells f) 80 (0, 0))) : SlFile w (.slice (some ⟨b, 0, none⟩) 1 1) [f] :=
  ⟨_, 1, rfl, Nat.le_refl _, by decide, fun _ => ⟨_, 0, rfl, fun i hi j hj => by
    obtain rfl : i = 0 := by simpa using hi
    rw [cell_of_row _ _ _ _ _ _ h, Nat.zero_mul, Nat.zero_add, ← Array.getElem?_toList]
    rfl⟩⟩
def AwakeP (w : World) (e : Ending) (w' : World) : Prop := e = .returned (.bool true) ∧ Ext w w'
set_option maxRecDepth 100000 in
set_option maxHeartbeats 8000000 in
theorem awake14 (w : World) : Calls Try.prog 36 #[] w (AwakeP w) := by
  go_enter Try.func36, Try.ntmps36
  go_wp2_with fail
  refine (lfile_in 1 3 _ _ _).mono ?_
  rintro e w1 ⟨rfl, he1⟩
  go_wp2_with fail
  refine (apply_in nilV nilV nilV nilV noneV (edA F3) nilV (.slice (some ⟨w1.heap.size, 0, none⟩) 1 1) _ (ver_nil _) (fun n hn f hf => by cases hf) (fun n hn => Nat.zero_le _) (SlS.nil _ _ _) (sl_one F3 w1) (fun f hf => by rw [List.mem_singleton.1 hf]; exact ⟨by decide, by decide⟩)).mono ?_
  rintro e w2 ⟨u0, u1, u2, u3, rfl, hv, he2⟩
  rw [apply_1] at hv ⊢
  have E2 := hid (((he1.al _)).tr he2)
  obtain ⟨x0, y0, z0, rfl⟩ := isSl_of hv.s0
  obtain ⟨x1, y1, z1, rfl⟩ := isSl_of hv.s1
  obtain ⟨x2, y2, z2, rfl⟩ := isSl_of hv.s2
  obtain ⟨x3, y3, z3, rfl⟩ := isSl_of hv.s3
  have HV := hid hv
  clear hv he1 he2
  go_wp2_with fail
  have G1 := hid (heap_alloc_new w2 (Obj.cells #[.slice x0 y0 z0, .slice x1 y1 z1, .slice x2 y2 z2, .slice x3 y3 z3] 67))
  have HV3 := hid (HV.out.go ((Ext.rfl w2).al (Obj.cells #[.slice x0 y0 z0, .slice x1 y1 z1, .slice x2 y2 z2, .slice x3 y3 z3] 67)))
  have E3 := hid (E2.out.al (Obj.cells #[.slice x0 y0 z0, .slice x1 y1 z1, .slice x2 y2 z2, .slice x3 y3 z3] 67))
  generalize w2.alloc (Obj.cells #[.slice x0 y0 z0, .slice x1 y1 z1, .slice x2 y2 z2, .slice x3 y3 z3] 67) = w3 at *
  clear HV
  generalize w2.heap.size = g1 at *
  have hg1 : g1 < w3.heap.size := vblk_lt G1.out
  refine wp_drawV (RgI 20 21 22 17 23 3 w3 F4 143 noneV) (by kernel_rfl) (by kernel_rfl) (fun w9 he => RgI.start he) ?_
  refine rgv_read 18 [20, 21, 22, 17, 23, 3] (RgI.keep (by decide) (by decide) (by decide) (by decide) (by decide) (by decide) (by decide)) (by rfl) (fun L p w hi hC hL => ob_loadrow (cs := #[.slice x0 y0 z0, .slice x1 y1 z1, .slice x2 y2 z2, .slice x3 y3 z3]) (by rfl) (by rfl) (fun w' he => (he.block _ (Nat.lt_of_lt_of_le hg1 hi.b0.size)).trans ((hi.b0.block _ hg1).trans G1.out)) Try.underlying67 rfl (by kernel_rfl)) rfl (by rfl) ?_
  refine rgv_read 19 [20, 21, 22, 17, 23, 3] (RgI.keep (by decide) (by decide) (by decide) (by decide) (by decide) (by decide) (by decide)) (by rfl) (fun L p w hi hC hL => ob_call (.ex (aFile F4)) (by rfl) cf_file (fun w he => gives_ex (lfile_in 1 4 _ _ w))) rfl (by rfl) ?_
  refine rgv_eff anyV free_any rfl (fun a L w hx hi hN hC hL he => ?_) ⟨by rfl, ?_⟩
  · rw [exec_build1 F4 _ _ _ _ _ _ _ _ (hx (.tmp 19) (by simp [Op.operands]) _ rfl)]
    exact ⟨trivial, hi.slot1 hL ((Ext.rfl w).al _) (fun h => absurd rfl h) (fun h => put_far (by decide)) (fun h => put_far (by decide)) (fun h => put_far (by decide)) (fun h => put_far (by decide)) (fun h => put_far (by decide)) (by decide) (fun _ => ⟨_, put_at (show a.tmps.size = 71 from hN) (by decide), heap_alloc_new w _⟩) (fun h => by cases h) (fun h => by cases h) (fun h => by cases h) (fun h => by cases h) (fun h => by cases h) (fun h => by cases h)⟩
  refine rgv_eff anyV free_any rfl (fun a L w hx hi hN hC hL he => ?_) ⟨by rfl, ?_⟩
  · have h2 : L 2 = true := he ⟨2, .data⟩ (by simp) rfl
    have h4 : L 4 = false := (by cases h : L 4 with | false => rfl | true => (have := hC 4 _ rfl h ⟨3, .data⟩ (by simp) rfl; rw [hL] at this; cases this))
    obtain ⟨b, e1, e2⟩ := hi.b2 h2 h4
    rw [exec_build5 w _ _ _ _ _ _ (show a.eval (.tmp 20) = _ from e1)]
    exact ⟨trivial, hi.slot1 hL (Ext.rfl w) (fun h => put_far (by decide)) (fun h => absurd rfl h) (fun h => put_far (by decide)) (fun h => put_far (by decide)) (fun h => put_far (by decide)) (fun h => put_far (by decide)) (by decide) (fun h => by cases h) (fun _ => ⟨b, put_at (show a.tmps.size = 71 from hN) (by decide), e2⟩) (fun h => by cases h) (fun h => by cases h) (fun h => by cases h) (fun h => by cases h) (fun h => by cases h)⟩
  refine rgv_eff anyV free_any rfl (fun a L w hx hi hN hC hL he => ?_) ⟨by rfl, ?_⟩
  · have h3 : L 3 = true := he ⟨3, .data⟩ (by simp) rfl
    have h5 : L 5 = false := (by cases h : L 5 with | false => rfl | true => (have := hC 5 _ rfl h ⟨4, .data⟩ (by simp) rfl; rw [hL] at this; cases this))
    have h6 : L 6 = false := by cases h : L 6 with | false => rfl | true => (have := hC 6 _ rfl h ⟨5, .data⟩ (by simp) rfl; rw [h5] at this; cases this)
    have h9 : L 9 = false := by cases h : L 9 with | false => rfl | true => (have := hC 9 _ rfl h ⟨6, .data⟩ (by simp) rfl; rw [h6] at this; cases this)
    obtain ⟨b, e1, e2⟩ := hi.b3 h3 hL
    rw [exec_call rfl #[.agg #[.slice x0 y0 z0, .slice x1 y1 z1, .slice x2 y2 z2, .slice x3 y3 z3], .agg #[.int .u64 0, .int .u64 0, .int .u64 0, nilV, .slice (some ⟨b, 0, none⟩) 1 1]] (by simp only [List.map_toArray, List.map_cons, List.map_nil]; rw [hx (.tmp 18) (by simp [Op.operands, Call.operands]) _ rfl, show a.eval (.tmp 21) = _ from e1]) cf_apply]
    refine (apply_in _ _ _ _ S1 (edA F4) nilV (.slice (some ⟨b, 0, none⟩) 1 1) w (HV3.out.go (Ext.tr (Ext.rfl w3) hi.b0)) fit_S1 (fun n hn => Nat.le_trans (len_S1 n hn) (by decide)) (SlS.nil _ _ _) (sl_at F4 e2) (fun f hf => by rw [List.mem_singleton.1 hf]; exact ⟨by decide, by decide⟩)).mono ?_
    rintro e wz ⟨r0, r1, r2, r3, rfl, hvz, hez⟩
    rw [apply_2] at hvz ⊢
    obtain ⟨a0, b0, d0, rfl⟩ := isSl_of hvz.s0
    obtain ⟨a1, b1, d1, rfl⟩ := isSl_of hvz.s1
    obtain ⟨a2, b2, d2, rfl⟩ := isSl_of hvz.s2
    obtain ⟨a3, b3, d3, rfl⟩ := isSl_of hvz.s3
    exact ⟨_, rfl, trivial, hi.slot1 hL hez (fun h => put_far (by decide)) (fun h => put_far (by decide)) (fun h => absurd rfl h) (fun h => put_far (by decide)) (fun h => put_far (by decide)) (fun h => put_far (by decide)) (by decide) (fun h => by cases h) (fun h => by cases h) (fun _ => ⟨⟨_, _, _, _, _, _, _, _, _, _, _, _, put_at (show a.tmps.size = 71 from hN) (by decide), hvz⟩, h5, h6⟩) (fun h => by cases h) (fun h => by cases h) (fun h => by cases h) (fun h => by cases h)⟩
  refine rgv_eff anyV free_any rfl (fun a L w hx hi hN hC hL he => ?_) ⟨by rfl, ?_⟩
  · have h4 : L 4 = true := he ⟨4, .data⟩ (by simp) rfl
    rw [exec_move]
    exact ⟨trivial, hi.slot1 hL (Ext.rfl w) (fun h => put_far (by decide)) (fun h => put_far (by decide)) (fun h => put_far (by decide)) (fun h => absurd rfl h) (fun h => put_far (by decide)) (fun h => put_far (by decide)) (by decide) (fun h => by cases h) (fun h => by cases h) (fun h => by cases h) (fun _ => ⟨h4, put_at (show a.tmps.size = 71 from hN) (by decide)⟩) (fun h => by cases h) (fun h => by cases h) (fun h => by cases h)⟩
  refine rgv_eff anyV free_any rfl (fun a L w hx hi hN hC hL he => ?_) ⟨by rfl, ?_⟩
  · have h5 : L 5 = true := he ⟨5, .data⟩ (by simp) rfl
    obtain ⟨h4, e5⟩ := hi.b5 h5
    obtain ⟨a0, b0, d0, a1, b1, d1, a2, b2, d2, a3, b3, d3, e4, hvz⟩ := hi.b4 h4
    rw [exec_extract (i := 0) (show a.eval (.tmp 17) = _ from e5.trans e4) rfl]
    exact ⟨trivial, hi.slot1 hL (Ext.rfl w) (fun h => put_far (by decide)) (fun h => put_far (by decide)) (fun h => put_far (by decide)) (fun h => put_far (by decide)) (fun h => absurd rfl h) (fun h => put_far (by decide)) (by decide) (fun h => by cases h) (fun h => by cases h) (fun h => by cases h) (fun h => by cases h) (fun _ => ⟨h4, by rw [put_at (show a.tmps.size = 71 from hN) (by decide)]; exact e4⟩) (fun h => by cases h) (fun h => by cases h)⟩
  refine rgv_eff (.ex (.int .i64 143)) (free_ex _) rfl (fun a L w hx hi hN hC hL he => ?_) ⟨by rfl, ?_⟩
  · have h5 : L 5 = true := he ⟨5, .data⟩ (by simp) rfl
    obtain ⟨h4, e5⟩ := hi.b5 h5
    obtain ⟨a0, b0, d0, a1, b1, d1, a2, b2, d2, a3, b3, d3, e4, hvz⟩ := hi.b4 h4
    rw [exec_extract (i := 1) (show a.eval (.tmp 17) = _ from e5.trans e4) rfl]
    exact ⟨rfl, RgI.keep (by decide) (by decide) (by decide) (by decide) (by decide) (by decide) (by decide) L _ _ w w (fun t ht => (by simp at ht; rcases ht with rfl | rfl | rfl | rfl | rfl | rfl <;> exact (put_far (by decide)).symm)) hi (Ext.rfl w)⟩
  refine rgv_eff anyV free_any rfl (fun a L w hx hi hN hC hL he => ?_) ⟨by rfl, ?_⟩
  · have h9 : L 9 = false := (by cases h : L 9 with | false => rfl | true => (have := hC 9 _ rfl h ⟨8, .data⟩ (by simp) rfl; rw [hL] at this; cases this))
    rw [exec_alloc4]
    exact ⟨trivial, hi.slot1 hL ((Ext.rfl w).al _) (fun h => put_far (by decide)) (fun h => put_far (by decide)) (fun h => put_far (by decide)) (fun h => put_far (by decide)) (fun h => put_far (by decide)) (fun h => absurd rfl h) (by decide) (fun h => by cases h) (fun h => by cases h) (fun h => by cases h) (fun h => by cases h) (fun h => by cases h) (fun _ => ⟨_, put_at (show a.tmps.size = 71 from hN) (by decide), hi.b0.size, heap_alloc_new w _⟩) (fun _ => h9)⟩
  refine rgv_eff (.ex undef) (free_ex _) rfl (fun a L w hx hi hN hC hL he => ?_) ?_
  · have h6 : L 6 = true := he ⟨6, .data⟩ (by simp) rfl
    have h8 : L 8 = true := he ⟨8, .data⟩ (by simp) rfl
    obtain ⟨h4, e6⟩ := hi.b6 h6
    obtain ⟨a0, b0, d0, a1, b1, d1, a2, b2, d2, a3, b3, d3, e4, hvz⟩ := hi.b4 h4
    have e7 := tup_inj (e6.symm.trans e4)
    obtain ⟨b, q1, q2, q3⟩ := hi.b8 h8 hL
    rw [exec_store (show a.eval (.tmp 3) = _ from q1) (show a.eval (.tmp 23) = _ from e7) (run_store4 w b a0 a1 a2 a3 b0 b1 b2 b3 d0 d1 d2 d3 q3)]
    exact ⟨rfl, hi.store h4 h8 hL (fun t ht => rfl) q1 hvz⟩
  refine rgv_read 4 [20, 21, 22, 17, 23, 3] (RgI.keep (by decide) (by decide) (by decide) (by decide) (by decide) (by decide) (by decide)) (by rfl) (fun L p w hi hC hL => ob_assign (by rfl) (by rfl)) rfl (by rfl) ?_
  refine rgv_end ?_
  intro L w4 hall
  simp only [asg, List.set_cons_zero, List.set_cons_succ, List.map_cons, List.map_nil, opens, anyV]
  intros
  rename_i hi
  have HB4 := hid hi.b0
  have G4 := hid ((hi.b0.block _ hg1).trans G1.out)
  clear hi hall
  have hg4 : g1 < w4.heap.size := vblk_lt G4.out
  go_wp2_with fail
  refine wp_drawV (RgI 28 29 30 25 31 5 w4 F5 0 S3) (by kernel_rfl) (by kernel_rfl) (fun w9 he => RgI.start he) ?_
  refine rgv_read 26 [28, 29, 30, 25, 31, 5] (RgI.keep (by decide) (by decide) (by decide) (by decide) (by decide) (by decide) (by decide)) (by rfl) (fun L p w hi hC hL => ob_loadrow (cs := #[.slice x0 y0 z0, .slice x1 y1 z1, .slice x2 y2 z2, .slice x3 y3 z3]) (by rfl) (by rfl) (fun w' he => (he.block _ (Nat.lt_of_lt_of_le hg4 hi.b0.size)).trans ((hi.b0.block _ hg4).trans G4.out)) Try.underlying67 rfl (by kernel_rfl)) rfl (by rfl) ?_
  refine rgv_read 27 [28, 29, 30, 25, 31, 5] (RgI.keep (by decide) (by decide) (by decide) (by decide) (by decide) (by decide) (by decide)) (by rfl) (fun L p w hi hC hL => ob_call (.ex (aFile F5)) (by rfl) cf_file (fun w he => gives_ex (lfile_in 1 4 _ _ w))) rfl (by rfl) ?_
  refine rgv_eff anyV free_any rfl (fun a L w hx hi hN hC hL he => ?_) ⟨by rfl, ?_⟩
  · rw [exec_build1 F5 _ _ _ _ _ _ _ _ (hx (.tmp 27) (by simp [Op.operands]) _ rfl)]
    exact ⟨trivial, hi.slot1 hL ((Ext.rfl w).al _) (fun h => absurd rfl h) (fun h => put_far (by decide)) (fun h => put_far (by decide)) (fun h => put_far (by decide)) (fun h => put_far (by decide)) (fun h => put_far (by decide)) (by decide) (fun _ => ⟨_, put_at (show a.tmps.size = 71 from hN) (by decide), heap_alloc_new w _⟩) (fun h => by cases h) (fun h => by cases h) (fun h => by cases h) (fun h => by cases h) (fun h => by cases h) (fun h => by cases h)⟩
  refine rgv_eff anyV free_any rfl (fun a L w hx hi hN hC hL he => ?_) ⟨by rfl, ?_⟩
  · have h2 : L 2 = true := he ⟨2, .data⟩ (by simp) rfl
    have h4 : L 4 = false := (by cases h : L 4 with | false => rfl | true => (have := hC 4 _ rfl h ⟨3, .data⟩ (by simp) rfl; rw [hL] at this; cases this))
    obtain ⟨b, e1, e2⟩ := hi.b2 h2 h4
    rw [exec_build5 w _ _ _ _ _ _ (show a.eval (.tmp 28) = _ from e1)]
    exact ⟨trivial, hi.slot1 hL (Ext.rfl w) (fun h => put_far (by decide)) (fun h => absurd rfl h) (fun h => put_far (by decide)) (fun h => put_far (by decide)) (fun h => put_far (by decide)) (fun h => put_far (by decide)) (by decide) (fun h => by cases h) (fun _ => ⟨b, put_at (show a.tmps.size = 71 from hN) (by decide), e2⟩) (fun h => by cases h) (fun h => by cases h) (fun h => by cases h) (fun h => by cases h) (fun h => by cases h)⟩
  refine rgv_eff anyV free_any rfl (fun a L w hx hi hN hC hL he => ?_) ⟨by rfl, ?_⟩
  · have h3 : L 3 = true := he ⟨3, .data⟩ (by simp) rfl
    have h5 : L 5 = false := (by cases h : L 5 with | false => rfl | true => (have := hC 5 _ rfl h ⟨4, .data⟩ (by simp) rfl; rw [hL] at this; cases this))
    have h6 : L 6 = false := by cases h : L 6 with | false => rfl | true => (have := hC 6 _ rfl h ⟨5, .data⟩ (by simp) rfl; rw [h5] at this; cases this)
    have h9 : L 9 = false := by cases h : L 9 with | false => rfl | true => (have := hC 9 _ rfl h ⟨6, .data⟩ (by simp) rfl; rw [h6] at this; cases this)
    obtain ⟨b, e1, e2⟩ := hi.b3 h3 hL
    rw [exec_call rfl #[.agg #[.slice x0 y0 z0, .slice x1 y1 z1, .slice x2 y2 z2, .slice x3 y3 z3], .agg #[.int .u64 0, .int .u64 0, .int .u64 0, nilV, .slice (some ⟨b, 0, none⟩) 1 1]] (by simp only [List.map_toArray, List.map_cons, List.map_nil]; rw [hx (.tmp 26) (by simp [Op.operands, Call.operands]) _ rfl, show a.eval (.tmp 29) = _ from e1]) cf_apply]
    refine (apply_in _ _ _ _ S1 (edA F5) nilV (.slice (some ⟨b, 0, none⟩) 1 1) w (HV3.out.go (Ext.tr HB4.out hi.b0)) fit_S1 (fun n hn => Nat.le_trans (len_S1 n hn) (by decide)) (SlS.nil _ _ _) (sl_at F5 e2) (fun f hf => by rw [List.mem_singleton.1 hf]; exact ⟨by decide, by decide⟩)).mono ?_
    rintro e wz ⟨r0, r1, r2, r3, rfl, hvz, hez⟩
    rw [apply_3] at hvz ⊢
    obtain ⟨a0, b0, d0, rfl⟩ := isSl_of hvz.s0
    obtain ⟨a1, b1, d1, rfl⟩ := isSl_of hvz.s1
    obtain ⟨a2, b2, d2, rfl⟩ := isSl_of hvz.s2
    obtain ⟨a3, b3, d3, rfl⟩ := isSl_of hvz.s3
    exact ⟨_, rfl, trivial, hi.slot1 hL hez (fun h => put_far (by decide)) (fun h => put_far (by decide)) (fun h => absurd rfl h) (fun h => put_far (by decide)) (fun h => put_far (by decide)) (fun h => put_far (by decide)) (by decide) (fun h => by cases h) (fun h => by cases h) (fun _ => ⟨⟨_, _, _, _, _, _, _, _, _, _, _, _, put_at (show a.tmps.size = 71 from hN) (by decide), hvz⟩, h5, h6⟩) (fun h => by cases h) (fun h => by cases h) (fun h => by cases h) (fun h => by cases h)⟩
  refine rgv_eff anyV free_any rfl (fun a L w hx hi hN hC hL he => ?_) ⟨by rfl, ?_⟩
  · have h4 : L 4 = true := he ⟨4, .data⟩ (by simp) rfl
    rw [exec_move]
    exact ⟨trivial, hi.slot1 hL (Ext.rfl w) (fun h => put_far (by decide)) (fun h => put_far (by decide)) (fun h => put_far (by decide)) (fun h => absurd rfl h) (fun h => put_far (by decide)) (fun h => put_far (by decide)) (by decide) (fun h => by cases h) (fun h => by cases h) (fun h => by cases h) (fun _ => ⟨h4, put_at (show a.tmps.size = 71 from hN) (by decide)⟩) (fun h => by cases h) (fun h => by cases h) (fun h => by cases h)⟩
  refine rgv_eff anyV free_any rfl (fun a L w hx hi hN hC hL he => ?_) ⟨by rfl, ?_⟩
  · have h5 : L 5 = true := he ⟨5, .data⟩ (by simp) rfl
    obtain ⟨h4, e5⟩ := hi.b5 h5
    obtain ⟨a0, b0, d0, a1, b1, d1, a2, b2, d2, a3, b3, d3, e4, hvz⟩ := hi.b4 h4
    rw [exec_extract (i := 0) (show a.eval (.tmp 25) = _ from e5.trans e4) rfl]
    exact ⟨trivial, hi.slot1 hL (Ext.rfl w) (fun h => put_far (by decide)) (fun h => put_far (by decide)) (fun h => put_far (by decide)) (fun h => put_far (by decide)) (fun h => absurd rfl h) (fun h => put_far (by decide)) (by decide) (fun h => by cases h) (fun h => by cases h) (fun h => by cases h) (fun h => by cases h) (fun _ => ⟨h4, by rw [put_at (show a.tmps.size = 71 from hN) (by decide)]; exact e4⟩) (fun h => by cases h) (fun h => by cases h)⟩
  refine rgv_eff (.ex (.int .i64 0)) (free_ex _) rfl (fun a L w hx hi hN hC hL he => ?_) ⟨by rfl, ?_⟩
  · have h5 : L 5 = true := he ⟨5, .data⟩ (by simp) rfl
    obtain ⟨h4, e5⟩ := hi.b5 h5
    obtain ⟨a0, b0, d0, a1, b1, d1, a2, b2, d2, a3, b3, d3, e4, hvz⟩ := hi.b4 h4
    rw [exec_extract (i := 1) (show a.eval (.tmp 25) = _ from e5.trans e4) rfl]
    exact ⟨rfl, RgI.keep (by decide) (by decide) (by decide) (by decide) (by decide) (by decide) (by decide) L _ _ w w (fun t ht => (by simp at ht; rcases ht with rfl | rfl | rfl | rfl | rfl | rfl <;> exact (put_far (by decide)).symm)) hi (Ext.rfl w)⟩
  refine rgv_eff anyV free_any rfl (fun a L w hx hi hN hC hL he => ?_) ⟨by rfl, ?_⟩
  · have h9 : L 9 = false := (by cases h : L 9 with | false => rfl | true => (have := hC 9 _ rfl h ⟨8, .data⟩ (by simp) rfl; rw [hL] at this; cases this))
    rw [exec_alloc4]
    exact ⟨trivial, hi.slot1 hL ((Ext.rfl w).al _) (fun h => put_far (by decide)) (fun h => put_far (by decide)) (fun h => put_far (by decide)) (fun h => put_far (by decide)) (fun h => put_far (by decide)) (fun h => absurd rfl h) (by decide) (fun h => by cases h) (fun h => by cases h) (fun h => by cases h) (fun h => by cases h) (fun h => by cases h) (fun _ => ⟨_, put_at (show a.tmps.size = 71 from hN) (by decide), hi.b0.size, heap_alloc_new w _⟩) (fun _ => h9)⟩
  refine rgv_eff (.ex undef) (free_ex _) rfl (fun a L w hx hi hN hC hL he => ?_) ?_
  · have h6 : L 6 = true := he ⟨6, .data⟩ (by simp) rfl
    have h8 : L 8 = true := he ⟨8, .data⟩ (by simp) rfl
    obtain ⟨h4, e6⟩ := hi.b6 h6
    obtain ⟨a0, b0, d0, a1, b1, d1, a2, b2, d2, a3, b3, d3, e4, hvz⟩ := hi.b4 h4
    have e7 := tup_inj (e6.symm.trans e4)
    obtain ⟨b, q1, q2, q3⟩ := hi.b8 h8 hL
    rw [exec_store (show a.eval (.tmp 5) = _ from q1) (show a.eval (.tmp 31) = _ from e7) (run_store4 w b a0 a1 a2 a3 b0 b1 b2 b3 d0 d1 d2 d3 q3)]
    exact ⟨rfl, hi.store h4 h8 hL (fun t ht => rfl) q1 hvz⟩
  refine rgv_read 6 [28, 29, 30, 25, 31, 5] (RgI.keep (by decide) (by decide) (by decide) (by decide) (by decide) (by decide) (by decide)) (by rfl) (fun L p w hi hC hL => ob_assign (by rfl) (by rfl)) rfl (by rfl) ?_
  refine rgv_end ?_
  intro L w5 hall
  simp only [asg, List.set_cons_zero, List.set_cons_succ, List.map_cons, List.map_nil, opens, anyV]
  intro v5 _ v25 _ v28 _ v29 _ v30 _ v31 _ hi
  obtain ⟨g5, u0, u1, u2, u3, e5, G5, hv5⟩ := hi.b9 (hall 9 (by decide))
  have e5' : v5 = .pointer (some ⟨g5, 0, none⟩) := e5
  subst e5'
  have HB5 := hid (Ext.tr HB4.out hi.b0)
  have HV5 := hid hv5
  have H5 := hid G5
  clear hi hall e5 G5 hv5
  obtain ⟨c0, c1, c2, c3⟩ := ver_cells H5.out
  go_wp2_with fail
  refine (vover_in u0 u1 u2 u3 S3 1 1 rfl (by decide) ⟨#[98]⟩ ⟨#[122]⟩ _ HV5.out (Nat.le_trans (len_S3 1 (by decide)) (by decide))).mono ?_
  rintro e w6 ⟨v6, rfl, ho6, he6⟩
  rw [over_3] at ho6
  have H6 := hid ((he6.block _ (vblk_lt H5.out)).trans H5.out)
  have HB6 := hid (Ext.tr HB5.out he6)
  have HV6 := hid (HV5.out.go he6)
  have HS6 := hid ho6.sl
  clear c0 c1 c2 c3 ho6 he6
  obtain ⟨c0, c1, c2, c3⟩ := ver_cells H6.out
  go_wp2_with fail
  refine (ask_in u0 u1 u2 u3 S3 ⟨#[100]⟩ _ HV6.out len_S3).mono ?_
  rintro e w7 ⟨v7, rfl, ho7, he7⟩
  rw [ask_3] at ho7
  have HB7 := hid (Ext.tr HB6.out he7)
  obtain ⟨a6, cp6, rfl, _, hm6, hc6⟩ := (HS6.out.file he7).ex
  obtain ⟨b6, o6, rfl, hcell6⟩ := hc6 (by decide)
  obtain ⟨a7, cp7, rfl, _, hm7, hc7⟩ := ho7.sl.ex
  obtain ⟨b7, o7, rfl, hcell7⟩ := hc7 (by decide)
  have d6 : w7.cell? ⟨b6, o6 + 1, none⟩ = some (.int .u64 3) := hcell6 0 (by decide) 1 (by decide)
  have d7 : w7.cell? ⟨b7, o7 + 1, none⟩ = some (.int .u64 4) := hcell7 0 (by decide) 1 (by decide)
  clear c0 c1 c2 c3 hcell6 hcell7 hc6 hc7 hm6 hm7 ho7 he7
  go_wp2_with fail
  go_ret
  exact ⟨rfl, Ext.tr E3.out HB7.out⟩
end Go.Proofs.Ytoonhcmeklmnlaa
