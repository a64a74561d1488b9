/- A region that draws its order: 'v, e := Apply(u, edits[i])'. -/
import Derived.Test.YtoonhcmeklmnlaaVrA
set_option linter.unusedSimpArgs false
set_option linter.unusedVariables false
set_option linter.unnecessarySimpa false
namespace Go.Proofs.Ytoonhcmeklmnlaa
open Go.RowKit Go.Rg Go.St

structure RgJ (tc td te tf : Tmp) (W0 : World) (code : Int) (S' : Lv) (L : Nat → Bool) (f : Tmp → Value) (w : World) : Prop where
  b0 : Below W0.heap.size W0 w
  b5 : L 5 = true → ∃ a0 b0 c0 a1 b1 c1 a2 b2 c2 a3 b3 c3, f tc = .tuple #[.agg #[.slice a0 b0 c0, .slice a1 b1 c1, .slice a2 b2 c2, .slice a3 b3 c3], .int .i64 code] ∧ Ver w (.slice a0 b0 c0) (.slice a1 b1 c1) (.slice a2 b2 c2) (.slice a3 b3 c3) S'
  b6 : L 6 = true → L 5 = true ∧ f td = f tc
  b7 : L 7 = true → L 5 = true ∧ f tc = .tuple #[f te, .int .i64 code]
  b9 : L 9 = true → L 10 = false → ∃ b, f tf = .pointer (some ⟨b, 0, none⟩) ∧ W0.heap.size ≤ b ∧ w.heap[b]? = some (.cells #[nilV, nilV, nilV, nilV] 67 (0, 0))
  b10 : L 10 = true → ∃ b a0 b0 c0 a1 b1 c1 a2 b2 c2 a3 b3 c3, f tf = .pointer (some ⟨b, 0, none⟩) ∧ W0.heap.size ≤ b ∧ w.heap[b]? = some (.cells #[.slice a0 b0 c0, .slice a1 b1 c1, .slice a2 b2 c2, .slice a3 b3 c3] 67 (0, 0)) ∧ Ver w (.slice a0 b0 c0) (.slice a1 b1 c1) (.slice a2 b2 c2) (.slice a3 b3 c3) S'
theorem RgJ.start {tc td te tf : Tmp} {W0 w : World} {code : Int} {S' : Lv} {f : Tmp → Value} (h : Ext W0 w) : RgJ tc td te tf W0 code S' (fun _ => false) f w := by
  refine ⟨h, ?_, ?_, ?_, ?_, ?_⟩
  all_goals (intro h; cases h)
theorem RgJ.keep {tc td te tf : Tmp} {W0 : World} {code : Int} {S' : Lv} {i : Nat} (h5 : i ≠ 5) (h6 : i ≠ 6) (h7 : i ≠ 7) (h9 : i ≠ 9) (h10 : i ≠ 10) :
    ∀ L f g w w', (∀ t ∈ [tc, td, te, tf], f t = g t) → RgJ tc td te tf W0 code S' L f w → Ext w w' → RgJ tc td te tf W0 code S' (setL L i) g w' := by
  intro L f g w w' hfg h he
  have e : ∀ j, j ≠ i → setL L i j = L j := fun j hj => by simp [setL, hj]
  have ec := hfg tc (by simp)
  have ed := hfg td (by simp)
  have ee := hfg te (by simp)
  have ef := hfg tf (by simp)
  refine ⟨Ext.tr h.b0 he, ?_, ?_, ?_, ?_, ?_⟩
  · rw [e 5 (Ne.symm h5), ← ec]
    intro a; obtain ⟨a0, b0, c0, a1, b1, c1, a2, b2, c2, a3, b3, c3, x1, x2⟩ := h.b5 a; exact ⟨a0, b0, c0, a1, b1, c1, a2, b2, c2, a3, b3, c3, x1, x2.go he⟩
  · rw [e 6 (Ne.symm h6), e 5 (Ne.symm h5), ← ed, ← ec]; exact h.b6
  · rw [e 7 (Ne.symm h7), e 5 (Ne.symm h5), ← ec, ← ee]; exact h.b7
  · rw [e 9 (Ne.symm h9), e 10 (Ne.symm h10), ← ef]
    intro a b; obtain ⟨b, x1, x2, x3⟩ := h.b9 a b; exact ⟨b, x1, x2, (he.block _ (vblk_lt x3)).trans x3⟩
  · rw [e 10 (Ne.symm h10), ← ef]
    intro a; obtain ⟨b, a0, b0, c0, a1, b1, c1, a2, b2, c2, a3, b3, c3, x1, x0, x2, x3⟩ := h.b10 a; exact ⟨b, a0, b0, c0, a1, b1, c1, a2, b2, c2, a3, b3, c3, x1, x0, (he.block _ (vblk_lt x2)).trans x2, x3.go he⟩
/-- an operation that writes one of the claim's slots and only makes memory -/
theorem RgJ.slot1 {tc td te tf : Tmp} {W0 w w' : World} {code : Int} {S' : Lv} {L : Nat → Bool} {f g : Tmp → Value} {i : Nat} (h : RgJ tc td te tf W0 code S' L f w) (hL : L i = false) (he : Ext w w')
    (h5 : i ≠ 5 → g tc = f tc) (h6 : i ≠ 6 → g td = f td) (h7 : i ≠ 7 → g te = f te) (h9 : i ≠ 9 → g tf = f tf) (h10 : i ≠ 10)
    (k5 : i = 5 → (∃ a0 b0 c0 a1 b1 c1 a2 b2 c2 a3 b3 c3, g tc = .tuple #[.agg #[.slice a0 b0 c0, .slice a1 b1 c1, .slice a2 b2 c2, .slice a3 b3 c3], .int .i64 code] ∧ Ver w' (.slice a0 b0 c0) (.slice a1 b1 c1) (.slice a2 b2 c2) (.slice a3 b3 c3) S') ∧ L 6 = false ∧ L 7 = false)
    (k6 : i = 6 → L 5 = true ∧ g td = f tc) (k7 : i = 7 → L 5 = true ∧ f tc = .tuple #[g te, .int .i64 code])
    (k9 : i = 9 → ∃ b, g tf = .pointer (some ⟨b, 0, none⟩) ∧ W0.heap.size ≤ b ∧ w'.heap[b]? = some (.cells #[nilV, nilV, nilV, nilV] 67 (0, 0))) (k10 : i = 9 → L 10 = false) :
    RgJ tc td te tf W0 code S' (setL L i) g w' := by
  have e : ∀ j, setL L i j = if j = i then true else L j := fun j => rfl
  refine ⟨Ext.tr h.b0 he, ?_, ?_, ?_, ?_, ?_⟩
  · rw [e]
    by_cases hi : 5 = i
    · subst hi; intro _; exact (k5 rfl).1
    · rw [if_neg hi, h5 (Ne.symm hi)]
      intro a; obtain ⟨a0, b0, c0, a1, b1, c1, a2, b2, c2, a3, b3, c3, x1, x2⟩ := h.b5 a; exact ⟨a0, b0, c0, a1, b1, c1, a2, b2, c2, a3, b3, c3, x1, x2.go he⟩
  · rw [e, e]
    by_cases hi : 6 = i
    · subst hi; intro _
      rw [if_neg (by decide), h5 (by decide)]
      exact k6 rfl
    · rw [if_neg hi, h6 (Ne.symm hi)]
      intro a
      by_cases h4i : 5 = i
      · subst h4i; rw [(k5 rfl).2.1] at a; cases a
      · rw [if_neg h4i, h5 (Ne.symm h4i)]; exact h.b6 a
  · rw [e, e]
    by_cases hi : 7 = i
    · subst hi; intro _
      rw [if_neg (by decide), h5 (by decide)]
      exact k7 rfl
    · rw [if_neg hi, h7 (Ne.symm hi)]
      intro a
      by_cases h4i : 5 = i
      · subst h4i; rw [(k5 rfl).2.2] at a; cases a
      · rw [if_neg h4i, h5 (Ne.symm h4i)]; exact h.b7 a
  · rw [e, e]
    by_cases hi : 9 = i
    · subst hi; intro _ _; exact k9 rfl
    · rw [if_neg hi, h9 (Ne.symm hi), if_neg (Ne.symm h10)]
      intro a b; obtain ⟨b, x1, x2, x3⟩ := h.b9 a b; exact ⟨b, x1, x2, (he.block _ (vblk_lt x3)).trans x3⟩
  · rw [e, if_neg (Ne.symm h10)]
    intro a
    by_cases hi : 9 = i
    · rw [k10 hi.symm] at a; cases a
    · rw [h9 (Ne.symm hi)]
      obtain ⟨b, a0, b0, c0, a1, b1, c1, a2, b2, c2, a3, b3, c3, x1, x0, x2, x3⟩ := h.b10 a; exact ⟨b, a0, b0, c0, a1, b1, c1, a2, b2, c2, a3, b3, c3, x1, x0, (he.block _ (vblk_lt x2)).trans x2, x3.go he⟩
theorem RgJ.store {tc td te tf : Tmp} {W0 w : World} {code : Int} {S' : Lv} {L : Nat → Bool} {f g : Tmp → Value} {a0 a1 a2 a3 : Option Addr} {b0 b1 b2 b3 c0 c1 c2 c3 : Nat} {b : Nat} (h : RgJ tc td te tf W0 code S' L f w) (h5 : L 5 = true) (h9 : L 9 = true) (hL : L 10 = false)
    (hg : ∀ t ∈ [tc, td, te, tf], f t = g t) (hp : f tf = .pointer (some ⟨b, 0, none⟩)) (hv : Ver w (.slice a0 b0 c0) (.slice a1 b1 c1) (.slice a2 b2 c2) (.slice a3 b3 c3) S') :
    RgJ tc td te tf W0 code S' (setL L 10) g (set4 w b (.slice a0 b0 c0) (.slice a1 b1 c1) (.slice a2 b2 c2) (.slice a3 b3 c3)) := by
  have e : ∀ j, setL L 10 j = if j = 10 then true else L j := fun j => rfl
  have ec := hg tc (by simp)
  have ed := hg td (by simp)
  have ee := hg te (by simp)
  have ef := hg tf (by simp)
  obtain ⟨b', q1, q2, q3⟩ := h.b9 h9 hL
  obtain rfl : b' = b := by rw [hp] at q1; simp only [Value.pointer.injEq, Option.some.injEq, Addr.mk.injEq] at q1; exact q1.1.symm
  have far : ∀ {v0 v1 v2 v3 : Value} {V : Lv}, Ver w v0 v1 v2 v3 V → Ver (set4 w b' (.slice a0 b0 c0) (.slice a1 b1 c1) (.slice a2 b2 c2) (.slice a3 b3 c3)) v0 v1 v2 v3 V := fun hh =>
    ver_set4 hh ⟨_, _, _, rfl⟩ ⟨_, _, _, rfl⟩ ⟨_, _, _, rfl⟩ ⟨_, _, _, rfl⟩ q3 ⟨_, _, _, rfl⟩ ⟨_, _, _, rfl⟩ ⟨_, _, _, rfl⟩ ⟨_, _, _, rfl⟩ rfl
  refine ⟨set4_ext h.b0 q2 _ _ _ _, ?_, ?_, ?_, ?_, ?_⟩
  · rw [e, if_neg (by decide), ← ec]
    intro a; obtain ⟨a0, b0, c0, a1, b1, c1, a2, b2, c2, a3, b3, c3, x1, x2⟩ := h.b5 a; exact ⟨a0, b0, c0, a1, b1, c1, a2, b2, c2, a3, b3, c3, x1, far x2⟩
  · rw [e, e, if_neg (by decide), if_neg (by decide), ← ed, ← ec]; exact h.b6
  · rw [e, e, if_neg (by decide), if_neg (by decide), ← ec, ← ee]; exact h.b7
  · rw [e, e, if_pos rfl]; intro _ hh; cases hh
  · intro _
    rw [← ef]
    exact ⟨b', _, _, _, _, _, _, _, _, _, _, _, _, hp, q2, set4_heap q3 _ _ _ _, far hv⟩

theorem exec_alloc4 (ρ : Operand → Value) (w : World) (d : Option Tmp) (ty : TypeId) (pos : String) (aft : Array Edge) (g : Option (Nat × Bool)) : (execOp ρ ⟨d, .alloc 67, ty, pos, aft, g⟩).run Try.prog w = .ok (.value (.pointer (some ⟨w.heap.size, 0, none⟩))) (w.alloc (.cells #[nilV, nilV, nilV, nilV] 67)) := by kernel_rfl
theorem run_store4 (w : World) (b : Nat) (a0 a1 a2 a3 : Option Addr) (b0 b1 b2 b3 c0 c1 c2 c3 : Nat) {x0 x1 x2 x3 : Value} {ty : TypeId} (h : w.heap[b]? = some (.cells #[x0, x1, x2, x3] ty (0, 0))) :
    (Instr.storeAt 67 (.pointer (some ⟨b, 0, none⟩)) (.agg #[.slice a0 b0 c0, .slice a1 b1 c1, .slice a2 b2 c2, .slice a3 b3 c3])).run Try.prog w = .ok () (set4 w b (.slice a0 b0 c0) (.slice a1 b1 c1) (.slice a2 b2 c2) (.slice a3 b3 c3)) := by
  obtain ⟨f0, f1, f2, f3⟩ := ver_cells h
  have ff : ∀ i, w.frozen? ⟨b, i, none⟩ = false := fun i => frozen_of_row _ _ _ _ _ h
  simp [go_sem, Instr.storeAt, Instr.sureAddr, f0, f1, f2, f3, ff]
theorem tup_inj {x y c : Value} (h : Value.tuple #[x, c] = .tuple #[y, c]) : x = y := by simpa using h
theorem cf_apply (args : Array Value) (w : World) : (callFunc 39 args).run Try.prog w = .ok (.enter 39 args) w := by kernel_rfl
theorem exec_move (ρ : Operand → Value) (w : World) (x : Operand) (d : Option Tmp) (ty : TypeId) (pos : String) (aft : Array Edge) (g : Option (Nat × Bool)) : (execOp ρ ⟨d, .move x, ty, pos, aft, g⟩).run Try.prog w = .ok (.value (ρ x)) w := rfl
theorem exec_extract {ρ : Operand → Value} {w : World} {x : Operand} {i : Nat} {vs : Array Value} {v : Value} {d : Option Tmp} {ty : TypeId} {pos : String} {aft : Array Edge} {g : Option (Nat × Bool)} (hx : ρ x = .tuple vs) (hv : vs[i]? = some v) : (execOp ρ ⟨d, .extract x i, ty, pos, aft, g⟩).run Try.prog w = .ok (.value v) w := by
  simp [execOp, Instr.extract, hx, hv]

/-! ### edits -/
structure EdS where
  ed : Ed
  vd : Value
  va : Value
instance : Inhabited EdS := ⟨⟨⟨0, 0, 0, [], []⟩, nilV, nilV⟩⟩
def eEdS (x : EdS) : List Value := [.int .u64 x.ed.log, .int .u64 x.ed.next, .int .u64 x.ed.last, x.vd, x.va]
theorem eEdS_length (x : EdS) : (eEdS x).length = 5 := rfl
structure GoodE (w : World) (x : EdS) : Prop where
  d : SlS w x.vd 2 eGone x.ed.dels
  a : SlFile w x.va x.ed.adds
  f : ∀ f, f ∈ x.ed.adds → FitF f
theorem GoodE.go {w w' : World} {x : EdS} (h : GoodE w x) (he : Ext w w') : GoodE w' x := ⟨SlS.go eGone_length h.d he, h.a.file he, h.f⟩
theorem delsF_sub : ∀ {ds : List Gone} {V S : Lv}, delsF ds V = some S → ∀ n, (S n).length ≤ (V n).length ∧ ∀ f, f ∈ S n → f ∈ V n
  | [], V, S, h, n => by cases h; exact ⟨Nat.le_refl _, fun f hf => hf⟩
  | d :: ds, V, S, h, n => by
    unfold delsF at h
    split at h
    · obtain ⟨h1, h2⟩ := delsF_sub h n
      by_cases e : n = d.level.toNat
      · subst e
        rw [upd_same] at h1 h2
        exact ⟨Nat.le_trans h1 (remF_length _ _), fun f hf => (List.mem_filter.1 (h2 f hf)).1⟩
      · rw [upd_other _ _ e] at h1 h2
        exact ⟨h1, h2⟩
    · cases h
theorem insF_mem {f g : File} {l : List File} (h : g ∈ insF f l) : g = f ∨ g ∈ l := by
  induction l with
  | nil => simp [insF] at h; exact .inl h
  | cons o l ih =>
    unfold insF at h
    split at h
    · rcases List.mem_cons.1 h with h | h
      · exact .inl h
      · exact .inr h
    · rcases List.mem_cons.1 h with h | h
      · exact .inr (h ▸ List.mem_cons_self)
      · rcases ih h with h | h
        · exact .inl h
        · exact .inr (List.mem_cons_of_mem _ h)
theorem addsF_sub : ∀ {fs : List File} {V : Lv} (n : Nat), ((addsF fs V).2 n).length ≤ (V n).length + fs.length ∧ ∀ f, f ∈ (addsF fs V).2 n → f ∈ V n ∨ f ∈ fs
  | [], V, n => ⟨Nat.le_refl _, fun f hf => .inl hf⟩
  | a :: fs, V, n => by
    unfold addsF
    split
    · exact ⟨Nat.zero_le _, fun f hf => by cases hf⟩
    · obtain ⟨h1, h2⟩ := addsF_sub (fs := fs) (V := upd V a.level.toNat (insF a (V a.level.toNat))) n
      by_cases e : n = a.level.toNat
      · subst e
        rw [upd_same] at h1 h2
        rw [insF_length] at h1
        refine ⟨by rw [List.length_cons]; omega, fun f hf => ?_⟩
        rcases h2 f hf with h | h
        · rcases insF_mem h with h | h
          · exact .inr (h ▸ List.mem_cons_self)
          · exact .inl h
        · exact .inr (List.mem_cons_of_mem _ h)
      · rw [upd_other _ _ e] at h1 h2
        refine ⟨by rw [List.length_cons]; omega, fun f hf => ?_⟩
        rcases h2 f hf with h | h
        · exact .inl h
        · exact .inr (List.mem_cons_of_mem _ h)
theorem applyF_sub {V : Lv} {x : Ed} (h : (applyF V x).1 = 0) (n : Nat) : ((applyF V x).2 n).length ≤ (V n).length + 100 ∧ ∀ f, f ∈ (applyF V x).2 n → f ∈ V n ∨ f ∈ x.adds := by
  unfold applyF at h ⊢
  split
  · exact ⟨Nat.zero_le _, fun f hf => by cases hf⟩
  · split
    · exact ⟨Nat.zero_le _, fun f hf => by cases hf⟩
    · rename_i hc
      have h100 : x.adds.length ≤ 100 := by
        apply Classical.byContradiction
        intro hn
        exact hc (by unfold edC; rw [if_pos (.inr (by omega))]; decide)
      cases hd : delsF x.dels V with
      | none => exact ⟨Nat.zero_le _, fun f hf => by cases hf⟩
      | some S =>
        obtain ⟨h1, h2⟩ := delsF_sub hd n
        obtain ⟨h3, h4⟩ := addsF_sub (fs := x.adds) (V := S) n
        refine ⟨by show ((addsF x.adds S).2 n).length ≤ _; omega, fun f hf => ?_⟩
        rcases h4 f hf with h | h
        · exact .inl (h2 f h)
        · exact .inr h
end Go.Proofs.Ytoonhcmeklmnlaa
