/- A region that draws its order: 'v, e := Apply(a, Edit{Adds: []File{adds[i]}})'. -/
import Derived.Test.YtoonhcmeklmnlaaVrC
import Derived.Test.YtoonhcmeklmnlaaVrO
set_option linter.unusedSimpArgs false
set_option linter.unusedVariables false
set_option linter.unnecessarySimpa false
namespace Go.Proofs.Ytoonhcmeklmnlaa
open Go.RowKit Go.Rg Go.St

structure RgO (ta tb tc td te tf : Tmp) (W0 : World) (F : File) (code : Int) (S' : Lv) (L : Nat → Bool) (f : Tmp → Value) (w : World) : Prop where
  b0 : Below W0.heap.size W0 w
  b2 : L 5 = true → L 7 = false → ∃ b, f ta = .slice (some ⟨b, 0, none⟩) 1 1 ∧ w.heap[b]? = some (.cells (fileCells F) 80 (0, 0))
  b3 : L 6 = true → L 7 = false → ∃ b, f tb = .agg #[.int .u64 0, .int .u64 0, .int .u64 0, nilV, .slice (some ⟨b, 0, none⟩) 1 1] ∧ w.heap[b]? = some (.cells (fileCells F) 80 (0, 0))
  b4 : L 7 = true → ∃ a0 b0 c0 a1 b1 c1 a2 b2 c2 a3 b3 c3, f tc = .tuple #[.agg #[.slice a0 b0 c0, .slice a1 b1 c1, .slice a2 b2 c2, .slice a3 b3 c3], .int .i64 code] ∧ Ver w (.slice a0 b0 c0) (.slice a1 b1 c1) (.slice a2 b2 c2) (.slice a3 b3 c3) S'
  b5 : L 8 = true → L 7 = true ∧ f td = f tc
  b6 : L 9 = true → L 7 = true ∧ f tc = .tuple #[f te, .int .i64 code]
  b8 : L 11 = true → L 12 = false → ∃ b, f tf = .pointer (some ⟨b, 0, none⟩) ∧ W0.heap.size ≤ b ∧ w.heap[b]? = some (.cells #[nilV, nilV, nilV, nilV] 67 (0, 0))
  b9 : L 12 = true → ∃ b u0 u1 u2 u3, f tf = .pointer (some ⟨b, 0, none⟩) ∧ W0.heap.size ≤ b ∧ w.heap[b]? = some (.cells #[u0, u1, u2, u3] 67 (0, 0)) ∧ Ver w u0 u1 u2 u3 S'
theorem RgO.start {ta tb tc td te tf : Tmp} {W0 w : World} {F : File} {code : Int} {S' : Lv} {f : Tmp → Value} (h : Ext W0 w) : RgO ta tb tc td te tf W0 F code S' (fun _ => false) f w := by
  refine ⟨h, ?_, ?_, ?_, ?_, ?_, ?_, ?_⟩
  all_goals (intro h; cases h)
theorem RgO.keep {ta tb tc td te tf : Tmp} {W0 : World} {F : File} {code : Int} {S' : Lv} {i : Nat} (h2 : i ≠ 5) (h3 : i ≠ 6) (h4 : i ≠ 7) (h5 : i ≠ 8) (h6 : i ≠ 9) (h8 : i ≠ 11) (h9 : i ≠ 12) :
    ∀ L f g w w', (∀ t ∈ [ta, tb, tc, td, te, tf], f t = g t) → RgO ta tb tc td te tf W0 F code S' L f w → Ext w w' → RgO ta tb tc td te tf W0 F code S' (setL L i) g w' := by
  intro L f g w w' hfg h he
  have e : ∀ j, j ≠ i → setL L i j = L j := fun j hj => by simp [setL, hj]
  have ea := hfg ta (by simp)
  have eb := hfg tb (by simp)
  have ec := hfg tc (by simp)
  have ed := hfg td (by simp)
  have ee := hfg te (by simp)
  have ef := hfg tf (by simp)
  refine ⟨Ext.tr h.b0 he, ?_, ?_, ?_, ?_, ?_, ?_, ?_⟩
  · rw [e 5 (Ne.symm h2), e 7 (Ne.symm h4), ← ea]
    intro a b; obtain ⟨b, x1, x2⟩ := h.b2 a b; exact ⟨b, x1, (he.block _ (vblk_lt x2)).trans x2⟩
  · rw [e 6 (Ne.symm h3), e 7 (Ne.symm h4), ← eb]
    intro a b; obtain ⟨b, x1, x2⟩ := h.b3 a b; exact ⟨b, x1, (he.block _ (vblk_lt x2)).trans x2⟩
  · rw [e 7 (Ne.symm h4), ← ec]
    intro a; obtain ⟨a0, b0, c0, a1, b1, c1, a2, b2, c2, a3, b3, c3, x1, x2⟩ := h.b4 a; exact ⟨a0, b0, c0, a1, b1, c1, a2, b2, c2, a3, b3, c3, x1, x2.go he⟩
  · rw [e 8 (Ne.symm h5), e 7 (Ne.symm h4), ← ed, ← ec]; exact h.b5
  · rw [e 9 (Ne.symm h6), e 7 (Ne.symm h4), ← ec, ← ee]; exact h.b6
  · rw [e 11 (Ne.symm h8), e 12 (Ne.symm h9), ← ef]
    intro a b; obtain ⟨b, x1, x2, x3⟩ := h.b8 a b; exact ⟨b, x1, x2, (he.block _ (vblk_lt x3)).trans x3⟩
  · rw [e 12 (Ne.symm h9), ← ef]
    intro a; obtain ⟨b, u0, u1, u2, u3, x1, x0, x2, x3⟩ := h.b9 a; exact ⟨b, u0, u1, u2, u3, x1, x0, (he.block _ (vblk_lt x2)).trans x2, x3.go he⟩
/-- an operation that writes one of the claim's slots and only makes memory -/
theorem RgO.slot1 {ta tb tc td te tf : Tmp} {W0 w w' : World} {F : File} {code : Int} {S' : Lv} {L : Nat → Bool} {f g : Tmp → Value} {i : Nat} (h : RgO ta tb tc td te tf W0 F code S' L f w) (hL : L i = false) (he : Ext w w')
    (h2 : i ≠ 5 → g ta = f ta) (h3 : i ≠ 6 → g tb = f tb) (h4 : i ≠ 7 → g tc = f tc) (h5 : i ≠ 8 → g td = f td) (h6 : i ≠ 9 → g te = f te) (h8 : i ≠ 11 → g tf = f tf) (h9 : i ≠ 12)
    (k2 : i = 5 → ∃ b, g ta = .slice (some ⟨b, 0, none⟩) 1 1 ∧ w'.heap[b]? = some (.cells (fileCells F) 80 (0, 0)))
    (k3 : i = 6 → ∃ b, g tb = .agg #[.int .u64 0, .int .u64 0, .int .u64 0, nilV, .slice (some ⟨b, 0, none⟩) 1 1] ∧ w'.heap[b]? = some (.cells (fileCells F) 80 (0, 0)))
    (k4 : i = 7 → (∃ a0 b0 c0 a1 b1 c1 a2 b2 c2 a3 b3 c3, g tc = .tuple #[.agg #[.slice a0 b0 c0, .slice a1 b1 c1, .slice a2 b2 c2, .slice a3 b3 c3], .int .i64 code] ∧ Ver w' (.slice a0 b0 c0) (.slice a1 b1 c1) (.slice a2 b2 c2) (.slice a3 b3 c3) S') ∧ L 8 = false ∧ L 9 = false)
    (k5 : i = 8 → L 7 = true ∧ g td = f tc) (k6 : i = 9 → L 7 = true ∧ f tc = .tuple #[g te, .int .i64 code])
    (k8 : i = 11 → ∃ b, g tf = .pointer (some ⟨b, 0, none⟩) ∧ W0.heap.size ≤ b ∧ w'.heap[b]? = some (.cells #[nilV, nilV, nilV, nilV] 67 (0, 0))) (k9 : i = 11 → L 12 = false) :
    RgO ta tb tc td te tf W0 F code S' (setL L i) g w' := by
  have e : ∀ j, setL L i j = if j = i then true else L j := fun j => rfl
  refine ⟨Ext.tr h.b0 he, ?_, ?_, ?_, ?_, ?_, ?_, ?_⟩
  · rw [e, e]
    by_cases hi : 5 = i
    · subst hi; intro _ _; exact k2 rfl
    · rw [if_neg hi, h2 (Ne.symm hi)]
      intro a b
      have hb : L 7 = false := by by_cases h4i : 7 = i <;> simp_all
      obtain ⟨b, x1, x2⟩ := h.b2 a hb; exact ⟨b, x1, (he.block _ (vblk_lt x2)).trans x2⟩
  · rw [e, e]
    by_cases hi : 6 = i
    · subst hi; intro _ _; exact k3 rfl
    · rw [if_neg hi, h3 (Ne.symm hi)]
      intro a b
      have hb : L 7 = false := by by_cases h4i : 7 = i <;> simp_all
      obtain ⟨b, x1, x2⟩ := h.b3 a hb; exact ⟨b, x1, (he.block _ (vblk_lt x2)).trans x2⟩
  · rw [e]
    by_cases hi : 7 = i
    · subst hi; intro _; exact (k4 rfl).1
    · rw [if_neg hi, h4 (Ne.symm hi)]
      intro a; obtain ⟨a0, b0, c0, a1, b1, c1, a2, b2, c2, a3, b3, c3, x1, x2⟩ := h.b4 a; exact ⟨a0, b0, c0, a1, b1, c1, a2, b2, c2, a3, b3, c3, x1, x2.go he⟩
  · rw [e, e]
    by_cases hi : 8 = i
    · subst hi; intro _
      rw [if_neg (by decide), h4 (by decide)]
      exact k5 rfl
    · rw [if_neg hi, h5 (Ne.symm hi)]
      intro a
      by_cases h4i : 7 = i
      · subst h4i; rw [(k4 rfl).2.1] at a; cases a
      · rw [if_neg h4i, h4 (Ne.symm h4i)]; exact h.b5 a
  · rw [e, e]
    by_cases hi : 9 = i
    · subst hi; intro _
      rw [if_neg (by decide), h4 (by decide)]
      exact k6 rfl
    · rw [if_neg hi, h6 (Ne.symm hi)]
      intro a
      by_cases h4i : 7 = i
      · subst h4i; rw [(k4 rfl).2.2] at a; cases a
      · rw [if_neg h4i, h4 (Ne.symm h4i)]; exact h.b6 a
  · rw [e, e]
    by_cases hi : 11 = i
    · subst hi; intro _ _; exact k8 rfl
    · rw [if_neg hi, h8 (Ne.symm hi), if_neg (Ne.symm h9)]
      intro a b; obtain ⟨b, x1, x2, x3⟩ := h.b8 a b; exact ⟨b, x1, x2, (he.block _ (vblk_lt x3)).trans x3⟩
  · rw [e, if_neg (Ne.symm h9)]
    intro a
    by_cases hi : 11 = i
    · rw [k9 hi.symm] at a; cases a
    · rw [h8 (Ne.symm hi)]
      obtain ⟨b, u0, u1, u2, u3, x1, x0, x2, x3⟩ := h.b9 a; exact ⟨b, u0, u1, u2, u3, x1, x0, (he.block _ (vblk_lt x2)).trans x2, x3.go he⟩
theorem RgO.store {ta tb tc td te tf : Tmp} {W0 w : World} {F : File} {code : Int} {S' : Lv} {L : Nat → Bool} {f g : Tmp → Value} {a0 a1 a2 a3 : Option Addr} {b0 b1 b2 b3 c0 c1 c2 c3 : Nat} {b : Nat} (h : RgO ta tb tc td te tf W0 F code S' L f w) (h4 : L 7 = true) (h8 : L 11 = true) (hL : L 12 = false)
    (hg : ∀ t ∈ [ta, tb, tc, td, te, tf], f t = g t) (hp : f tf = .pointer (some ⟨b, 0, none⟩)) (hv : Ver w (.slice a0 b0 c0) (.slice a1 b1 c1) (.slice a2 b2 c2) (.slice a3 b3 c3) S') :
    RgO ta tb tc td te tf W0 F code S' (setL L 12) g (set4 w b (.slice a0 b0 c0) (.slice a1 b1 c1) (.slice a2 b2 c2) (.slice a3 b3 c3)) := by
  have e : ∀ j, setL L 12 j = if j = 12 then true else L j := fun j => rfl
  have ea := hg ta (by simp)
  have eb := hg tb (by simp)
  have ec := hg tc (by simp)
  have ed := hg td (by simp)
  have ee := hg te (by simp)
  have ef := hg tf (by simp)
  obtain ⟨b', q1, q2, q3⟩ := h.b8 h8 hL
  obtain rfl : b' = b := by rw [hp] at q1; simp only [Value.pointer.injEq, Option.some.injEq, Addr.mk.injEq] at q1; exact q1.1.symm
  have far : ∀ {v0 v1 v2 v3 : Value} {V : Lv}, Ver w v0 v1 v2 v3 V → Ver (set4 w b' (.slice a0 b0 c0) (.slice a1 b1 c1) (.slice a2 b2 c2) (.slice a3 b3 c3)) v0 v1 v2 v3 V := fun hh =>
    ver_set4 hh ⟨_, _, _, rfl⟩ ⟨_, _, _, rfl⟩ ⟨_, _, _, rfl⟩ ⟨_, _, _, rfl⟩ q3 ⟨_, _, _, rfl⟩ ⟨_, _, _, rfl⟩ ⟨_, _, _, rfl⟩ ⟨_, _, _, rfl⟩ rfl
  refine ⟨set4_ext h.b0 q2 _ _ _ _, ?_, ?_, ?_, ?_, ?_, ?_, ?_⟩
  · rw [e, e, if_neg (by decide), if_neg (by decide), h4]; intro _ hh; cases hh
  · rw [e, e, if_neg (by decide), if_neg (by decide), h4]; intro _ hh; cases hh
  · rw [e, if_neg (by decide), ← ec]
    intro a; obtain ⟨a0, b0, c0, a1, b1, c1, a2, b2, c2, a3, b3, c3, x1, x2⟩ := h.b4 a; exact ⟨a0, b0, c0, a1, b1, c1, a2, b2, c2, a3, b3, c3, x1, far x2⟩
  · rw [e, e, if_neg (by decide), if_neg (by decide), ← ed, ← ec]; exact h.b5
  · rw [e, e, if_neg (by decide), if_neg (by decide), ← ec, ← ee]; exact h.b6
  · rw [e, e, if_pos rfl]; intro _ hh; cases hh
  · intro _
    rw [← ef]
    exact ⟨b', _, _, _, _, hp, q2, set4_heap q3 _ _ _ _, far hv⟩
end Go.Proofs.Ytoonhcmeklmnlaa
