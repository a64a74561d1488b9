/- What so few blocks hold may have turned: a frame. -/
import Derived.Test.YtjekfifnhdoamaaLib
set_option linter.unusedSimpArgs false
set_option linter.unusedVariables false
set_option linter.unnecessarySimpa false
namespace Go.St
open Go.RowKit Go.Rg

/-- what so few blocks hold may have turned -/
structure Ch (F : Nat → Prop) (w w' : World) : Prop where
  os : w'.os = w.os
  tape : w'.tape = w.tape
  output : w'.output = w.output
  size : w.heap.size ≤ w'.heap.size
  block : ∀ k, k < w.heap.size → ¬ F k → w'.heap[k]? = w.heap[k]?
theorem Ch.rfl (F : Nat → Prop) (w : World) : Ch F w w := ⟨Eq.refl _, Eq.refl _, Eq.refl _, Nat.le_refl _, fun _ _ _ => Eq.refl _⟩
theorem Ch.tr {F : Nat → Prop} {a b c : World} (h : Ch F a b) (k : Ch F b c) : Ch F a c :=
  ⟨k.os.trans h.os, k.tape.trans h.tape, k.output.trans h.output, Nat.le_trans h.size k.size, fun i hi hf => (k.block i (Nat.lt_of_lt_of_le hi h.size) hf).trans (h.block i hi hf)⟩
theorem Ch.mono {F G : Nat → Prop} {a b : World} (h : Ch F a b) (hg : ∀ k, k < a.heap.size → F k → G k) : Ch G a b := ⟨h.os, h.tape, h.output, h.size, fun k hk hn => h.block k hk (fun hf => hn (hg k hk hf))⟩
theorem Ch.of_ext {F : Nat → Prop} {a b : World} (h : Ext a b) : Ch F a b := ⟨h.os, h.tape, h.output, h.size, fun k hk _ => h.block k hk⟩
theorem Ch.ext {F : Nat → Prop} {a b : World} (h : Ch F a b) (hf : ∀ k, k < a.heap.size → ¬ F k) : Ext a b := ⟨h.os, h.tape, h.output, h.size, fun k hk => h.block k hk (hf k hk)⟩

theorem Ch.setC {F : Nat → Prop} {w w0 : World} {b o : Nat} {v : Value} (h : Ch F w0 w) (hb : F b) : Ch F w0 (w.setCell ⟨b, o, none⟩ v) :=
  ⟨h.os, h.tape, h.output, by have := h.size; simpa [World.setCell] using this, fun k hk hf => by rw [heap_setCell_other _ _ _ _ (fun e => hf (by rw [e]; exact hb))]; exact h.block k hk hf⟩
theorem Ch.dr {F : Nat → Prop} {w w0 : World} (h : Ch F w0 w) : Ch F w0 w.drew := ⟨h.os, h.tape, h.output, h.size, h.block⟩
theorem Ch.drN {F : Nat → Prop} {w w0 : World} (h : Ch F w0 w) (n : Nat) : Ch F w0 (w.drewN n) := ⟨h.os, h.tape, h.output, h.size, h.block⟩

theorem cells_ne {w : World} {a b : Nat} {ca cb : Array Value} {ta tb : TypeId} {fa fb : Nat × Nat} (ha : w.heap[a]? = some (.cells ca ta fa)) (hb : w.heap[b]? = some (.cells cb tb fb)) (h : ta ≠ tb) : a ≠ b := by
  intro e
  subst e
  rw [ha] at hb
  simp only [Option.some.injEq, Obj.cells.injEq] at hb
  exact h hb.2.1
theorem owns_ch {w w' : World} {base : Nat} {e : TypeId} {sz : Nat} {v : Value} {n : Nat} {xs : List Value} (hown : w.ownsRow base e sz v n xs) (h : ∀ g, v.ownBlock = some g → w'.heap[g]? = w.heap[g]?) : w'.ownsRow base e sz v n xs := by
  refine ⟨hown.1, ?_⟩
  rcases hown.2 with h0 | ⟨g, cap, cur, rfl, hb, hg, rest⟩
  · exact .inl h0
  · exact .inr ⟨g, cap, cur, rfl, hb, by rw [h g rfl]; exact hg, rest⟩
theorem blk_lt {w : World} {b : Nat} {o : Obj} (h : w.heap[b]? = some o) : b < w.heap.size := (Array.getElem?_eq_some_iff.1 h).1
theorem grown_ch {w w' : World} {row : Option Nat} (h : w.grownBy w' row) : Ch (fun x => row = some x) w w' :=
  ⟨h.os, h.tape, h.output, h.size, fun k hk hn => h.block k hk (Ne.symm hn)⟩
end Go.St
