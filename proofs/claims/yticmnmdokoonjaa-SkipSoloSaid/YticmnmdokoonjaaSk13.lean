/- A list of package skip whose parts are none of those that are guarded; begun beside another one. -/
import Derived.Test.YticmnmdokoonjaaSk12
set_option linter.unusedSimpArgs false
set_option linter.unusedVariables false
set_option linter.unnecessarySimpa false
namespace Go.Proofs.Yticmnmdokoonjaa
open Go.RowKit Go.Rg Go.St

/-- what is guarded stays, and rows of other kinds -/
structure KeepL (Lo : Nat → Prop) (w w' : World) : Prop where
  os : w'.os = w.os
  tape : w'.tape = w.tape
  output : w'.output = w.output
  size : w.heap.size ≤ w'.heap.size
  low : ∀ (b : Nat), b < w.heap.size → Lo b → w'.heap[b]? = w.heap[b]?
  row : ∀ (b : Nat) (cs : Array Value) (T : TypeId) (fr : Nat × Nat), w.heap[b]? = some (Obj.cells cs T fr) → ¬ skipTy T → w'.heap[b]? = some (Obj.cells cs T fr)
theorem KeepL.rfl (Lo : Nat → Prop) (w : World) : KeepL Lo w w := ⟨Eq.refl _, Eq.refl _, Eq.refl _, Nat.le_refl _, fun _ _ _ => Eq.refl _, fun _ _ _ _ h _ => h⟩
theorem KeepL.tr {Lo : Nat → Prop} {a b c : World} (h : KeepL Lo a b) (k : KeepL Lo b c) : KeepL Lo a c :=
  ⟨k.os.trans h.os, k.tape.trans h.tape, k.output.trans h.output, Nat.le_trans h.size k.size, fun x hx hB => (k.low x (Nat.lt_of_lt_of_le hx h.size) hB).trans (h.low x hx hB), fun x cs T fr hx hT => k.row x cs T fr (h.row x cs T fr hx hT) hT⟩
theorem KeepL.of_ext {Lo : Nat → Prop} {a b : World} (h : Ext a b) : KeepL Lo a b := ⟨h.os, h.tape, h.output, h.size, fun x hx _ => h.block x hx, fun x cs T fr hx _ => (h.block x (blk_lt hx)).trans hx⟩
theorem owns_keepL {Lo : Nat → Prop} {w w' : World} {base : Nat} {e : TypeId} {sz : Nat} {v : Value} {n : Nat} {xs : List Value} (hown : w.ownsRow base e sz v n xs) (h : KeepL Lo w w') (he : ¬ skipTy e) : w'.ownsRow base e sz v n xs := by
  refine ⟨hown.1, ?_⟩
  rcases hown.2 with h0 | ⟨g, cap, cur, rfl, hb, hg, rest⟩
  · exact .inl h0
  · exact .inr ⟨g, cap, cur, rfl, hb, h.row g cur e (0, 0) hg he, rest⟩

theorem KeepL.of_ch {Lo : Nat → Prop} {w w' : World} {L : Loc} {K : SK} (h : Rep w L K) (hf : ∀ b, Foot L K.n b → ¬ Lo b) (hc : Ch (Foot L K.n) w w') : KeepL Lo w w' := by
  refine ⟨hc.os, hc.tape, hc.output, hc.size, fun b hb hB => hc.block b hb (fun hF => hf b hF hB), fun b cs T fr hb hT => ?_⟩
  refine (hc.block b (blk_lt hb) (fun hF => ?_)).trans hb
  rcases h.foot hF with ⟨es, c, h1⟩ | ⟨cs', T', fr', h1, hT'⟩
  · rw [hb] at h1; cases h1
  · rw [hb] at h1
    simp only [Option.some.injEq, Obj.cells.injEq] at h1
    exact hT (by rw [h1.2.1]; exact hT')

/-- a list none of whose parts is guarded -/
def ListL (Lo : Nat → Prop) (lb : Nat) (w : World) (K : SK) : Prop := Inv K ∧ ∃ L, L.lb = lb ∧ Rep w L K ∧ ∀ b, Foot L K.n b → ¬ Lo b

theorem ListL.ext {Lo : Nat → Prop} {lb : Nat} {w w' : World} {K : SK} (h : ListL Lo lb w K) (he : Ext w w') : ListL Lo lb w' K := by
  obtain ⟨hI, L, h1, h2, h3⟩ := h
  exact ⟨hI, L, h1, h2.ext he, h3⟩
/-- a row of another kind has grown -/
theorem ListL.grown {Lo : Nat → Prop} {lb : Nat} {w w' : World} {K : SK} (h : ListL Lo lb w K) {base : Nat} {e : TypeId} {sz : Nat} {v : Value} {n : Nat} {xs : List Value} (hown : w.ownsRow base e sz v n xs) (he : ¬ skipTy e) (hg : w.grownBy w' v.ownBlock) : ListL Lo lb w' K := by
  obtain ⟨hI, L, h1, h2, h3⟩ := h
  refine ⟨hI, L, h1, h2.go (F := fun k => some k = v.ownBlock) ⟨hg.os, hg.tape, hg.output, hg.size, fun k hk hf => hg.block k hk hf⟩ (fun k hk hF => ?_), h3⟩
  rcases hown.2 with ⟨h4, _⟩ | ⟨g, cap, cur, h4, _, hg', _⟩
  · rw [h4] at hF; cases hF
  · rw [h4] at hF
    simp [Value.ownBlock] at hF
    subst hF
    rcases h2.foot hk with ⟨es, c, h5⟩ | ⟨cs', T', fr', h5, hT'⟩
    · rw [hg'] at h5; cases h5
    · rw [hg'] at h5
      simp only [Option.some.injEq, Obj.cells.injEq] at h5
      exact he (by rw [h5.2.1]; exact hT')

theorem begin_l2 {Lo : Nat → Prop} {lb : Nat} {w : World} {K : SK} (h : ListL Lo lb w K) (hB : ∀ b, Lo b → b < w.heap.size) (k : ByteArray) (ht : Nat) (h1 : 1 ≤ ht) (h8 : ht ≤ 8) (hno : ∀ i, i < K.n → K.key i ≠ k) (hr : (K.n : Int) < K.room) (hr2 : K.room ≤ 1000) :
    Calls Try.prog 39 #[.pointer (some ⟨lb, 0, none⟩), .string k, .int .i64 ht] w (fun e w' => e = .returned (.tuple #[.int .i64 K.n, .int .i64 0]) ∧ ListL Lo lb w' (beginK K k ht) ∧ KeepL Lo w w') := by
  obtain ⟨hI, L, rfl, h2, h3⟩ := h
  refine (begin_ok h2 hI k ht h1 h8 hno hr hr2).mono ?_
  rintro e w' ⟨rfl, v', ob, nb, k1, k2, k3⟩
  refine ⟨rfl, ⟨hI.begin hno h1 h8, L.more K.n v' ob nb, rfl, k1, fun b hb => ?_⟩, KeepL.of_ch h2 h3 k2⟩
  rcases k3 b hb with h | h
  · exact h3 b h
  · exact fun hl => by have := hB b hl; omega
theorem begin_same_l2 {Lo : Nat → Prop} {lb : Nat} {w : World} {K : SK} (h : ListL Lo lb w K) (k : ByteArray) (ht : Int) (h1 : 1 ≤ ht) (h8 : ht ≤ 8) (hno : ∃ i, i < K.n ∧ K.key i = k) :
    Calls Try.prog 39 #[.pointer (some ⟨lb, 0, none⟩), .string k, .int .i64 ht] w (NoPost 71 w) := by
  obtain ⟨hI, L, rfl, h2, h3⟩ := h
  exact begin_same h2 k ht h1 h8 hno
theorem begin_full_l2 {Lo : Nat → Prop} {lb : Nat} {w : World} {K : SK} (h : ListL Lo lb w K) (k : ByteArray) (ht : Int) (h1 : 1 ≤ ht) (h8 : ht ≤ 8) (hno : ∀ i, i < K.n → K.key i ≠ k) (hr : K.room ≤ K.n) :
    Calls Try.prog 39 #[.pointer (some ⟨lb, 0, none⟩), .string k, .int .i64 ht] w (NoPost 72 w) := by
  obtain ⟨hI, L, rfl, h2, h3⟩ := h
  exact begin_full h2 k ht h1 h8 hno hr

end Go.Proofs.Yticmnmdokoonjaa
