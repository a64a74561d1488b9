/- Two file systems that are told alike: the program's and the document's, side by side. -/
import Derived.Test.YtjekfifnhdoamaaRfA
import Derived.Test.YtjekfifnhdoamaaSfD
import Derived.Test.YtjekfifnhdoamaaRgN
set_option linter.unusedSimpArgs false
set_option linter.unusedVariables false
set_option linter.unnecessarySimpa false
namespace Go.Proofs.Ytjekfifnhdoamaa
open Go.RowKit Go.Rg Go.St

/-! ### changes that may be -/
theorem since_ask {M : FsM} (h : SinceOk M) : SinceOk M.ask.2 := fun c hc => h c (by rw [← (ask_asked M).since]; exact hc)
theorem since_doC {M : FsM} {c : Chg} (h : SinceOk M) (hc : CgOk c) : SinceOk (M.doC c) := fun d hd => by
  rcases List.mem_append.1 hd with h1 | h1
  · exact h d h1
  · rw [List.mem_singleton.1 h1]; exact hc
theorem since_create {M : FsM} (h : SinceOk M) (n : ByteArray) : SinceOk (M.create n).2 := by
  unfold FsM.create
  split
  · exact since_ask h
  · split
    · exact since_ask h
    · split
      · exact since_ask h
      · rename_i h1 h2 h3
        have hg : goodN n = true := by cases hq : goodN n with | false => exact absurd hq h2 | true => rfl
        exact since_doC (fun c hc => since_ask h c hc) (fun _ => good_ne hg)
theorem since_append {M : FsM} (h : SinceOk M) (n : ByteArray) (b : List UInt8) : SinceOk (M.append n b).2 := by
  unfold FsM.append
  split
  · exact since_ask h
  · split
    · exact since_ask h
    · split
      · exact since_ask h
      · exact fun c hc => since_ask h c hc
theorem since_sync {M : FsM} (h : SinceOk M) (n : ByteArray) : SinceOk (M.sync n).2 := by
  unfold FsM.sync
  split
  · exact since_ask h
  · split
    · exact since_ask h
    · exact fun c hc => since_ask h c hc
theorem since_rename {M : FsM} (ok : M.Ok) (h : SinceOk M) (n m : ByteArray) : SinceOk (M.rename n m).2 := by
  unfold FsM.rename
  split
  · exact since_ask h
  · cases hf : fndN M.ask.2.names n with
    | none => exact since_ask h
    | some i =>
      simp only
      split
      · exact since_ask h
      · rename_i h2
        have hg : goodN m = true := by cases hq : goodN m with | false => exact absurd hq h2 | true => rfl
        exact since_doC (since_ask h) (fun _ => good_ne hg)
theorem since_remove {M : FsM} (ok : M.Ok) (h : SinceOk M) (n : ByteArray) : SinceOk (M.remove n).2 := by
  unfold FsM.remove
  split
  · exact since_ask h
  · cases hf : fndN M.ask.2.names n with
    | none => exact since_ask h
    | some i => exact since_doC (since_ask h) (fun hx => absurd hx (there_ne (ask_ok ok) hf))
theorem since_syncDir {M : FsM} (h : SinceOk M) : SinceOk M.syncDir.2 := by
  unfold FsM.syncDir
  split
  · exact since_ask h
  · exact fun c hc => by cases hc
theorem since_damage {M : FsM} (h : SinceOk M) (n : ByteArray) (i : Int) (t : UInt8) : SinceOk (M.damage n i t).2 := by
  unfold FsM.damage
  split
  · exact h
  · split
    · exact h
    · exact fun c hc => h c hc
theorem since_crash (M : FsM) (picks : List Int) : SinceOk (M.crash picks) := fun c hc => by cases hc
/-! ### how many were asked -/
theorem ops_create (M : FsM) (n : ByteArray) : (M.create n).2.ops = M.ops + 1 := by
  have a := (ask_asked M).ops
  unfold FsM.create
  split
  · exact a
  · split
    · exact a
    · split <;> exact a
theorem ops_append (M : FsM) (n : ByteArray) (b : List UInt8) : (M.append n b).2.ops = M.ops + 1 := by
  have a := (ask_asked M).ops
  unfold FsM.append
  split
  · exact a
  · split
    · exact a
    · split <;> exact a
theorem ops_sync (M : FsM) (n : ByteArray) : (M.sync n).2.ops = M.ops + 1 := by
  have a := (ask_asked M).ops
  unfold FsM.sync
  split
  · exact a
  · split <;> exact a
theorem ops_rename (M : FsM) (n m : ByteArray) : (M.rename n m).2.ops = M.ops + 1 := by
  have a := (ask_asked M).ops
  unfold FsM.rename
  split
  · exact a
  · split
    · exact a
    · split <;> exact a
theorem ops_remove (M : FsM) (n : ByteArray) : (M.remove n).2.ops = M.ops + 1 := by
  have a := (ask_asked M).ops
  unfold FsM.remove
  split
  · exact a
  · split <;> exact a
theorem ops_syncDir (M : FsM) : M.syncDir.2.ops = M.ops + 1 := by
  have a := (ask_asked M).ops
  unfold FsM.syncDir
  split <;> exact a
theorem ops_damage (M : FsM) (n : ByteArray) (i : Int) (t : UInt8) : (M.damage n i t).2.ops = M.ops := by
  unfold FsM.damage
  split
  · rfl
  · split <;> rfl

/-! ### side by side -/
def Duo (w0 w : World) (p q : Nat) (M N : FsM) (F : Nat → Prop) : Prop :=
  ∃ (L : FL) (R : RL), L.fb = p ∧ R.rb = q ∧ FsAt w L M ∧ RefAt w R N ∧ M.Ok ∧ N.Ok ∧ SinceOk N ∧ Ext w0 w ∧ (∀ k, F k ↔ FsFoot L k ∨ RFoot R N.nf k) ∧ (∀ k, FsFoot L k → ¬ RFoot R N.nf k) ∧ (∀ k, F k → w0.heap.size ≤ k)
theorem Duo.xt {w0 w : World} {p q : Nat} {M N : FsM} {F : Nat → Prop} (h : Duo w0 w p q M N F) : Ext w0 w := by
  obtain ⟨L, R, _, _, _, _, _, _, _, h8, _⟩ := h
  exact h8
theorem Duo.lo {w0 w : World} {p q : Nat} {M N : FsM} {F : Nat → Prop} (h : Duo w0 w p q M N F) : ∀ k, F k → w0.heap.size ≤ k := by
  obtain ⟨L, R, _, _, _, _, _, _, _, _, _, _, h⟩ := h
  exact h
theorem Duo.lt {w0 w : World} {p q : Nat} {M N : FsM} {F : Nat → Prop} (h : Duo w0 w p q M N F) : ∀ k, F k → k < w.heap.size := by
  obtain ⟨L, R, _, _, h1, h2, _, _, _, _, h3, _, _⟩ := h
  intro k hk
  rcases (h3 k).1 hk with h | h
  · exact h1.foot_lt h
  · exact h2.foot_lt h
theorem Duo.ch {w0 w w' : World} {p q : Nat} {M N : FsM} {F G : Nat → Prop} (h : Duo w0 w p q M N F) (hc : Ch G w w') (hd : ∀ k, F k → ¬ G k) (hg : ∀ k, G k → w0.heap.size ≤ k) : Duo w0 w' p q M N F := by
  obtain ⟨L, R, e1, e2, h1, h2, h3, h4, h5, h6, h7, h8, h9⟩ := h
  exact ⟨L, R, e1, e2, h1.ch hc fun k hk => hd k ((h7 k).2 (.inl hk)), h2.ch hc fun k hk => hd k ((h7 k).2 (.inr hk)), h3, h4, h5, ((Ch.of_ext h6).tr hc).ext fun k hk hf => by have := hg k hf; omega, h7, h8, h9⟩
theorem Duo.ext {w0 w w' : World} {p q : Nat} {M N : FsM} {F : Nat → Prop} (h : Duo w0 w p q M N F) (he : Ext w w') : Duo w0 w' p q M N F := h.ch (G := fun _ => False) (Ch.of_ext he) (fun _ _ h => h) (fun _ h => h.elim)
/-- behind some calls -/
def DuoN (w0 wb : World) (p q : Nat) (M N : FsM) (F : Nat → Prop) (w : World) : Prop := ∃ F', Duo w0 w p q M N F' ∧ Ch F wb w ∧ ∀ k, F' k → F k ∨ wb.heap.size ≤ k
theorem DuoN.same {w0 w : World} {p q : Nat} {M N : FsM} {F : Nat → Prop} (h : Duo w0 w p q M N F) : DuoN w0 w p q M N F w := ⟨F, h, Ch.rfl _ _, fun k hk => .inl hk⟩
theorem DuoN.ext {w0 wb w w' : World} {p q : Nat} {M N : FsM} {F : Nat → Prop} (h : DuoN w0 wb p q M N F w) (he : Ext w w') : DuoN w0 wb p q M N F w' := by
  obtain ⟨F', h1, h2, h3⟩ := h
  exact ⟨F', h1.ext he, h2.tr (Ch.of_ext he), h3⟩
theorem DuoN.xt {w0 wb w : World} {p q : Nat} {M N : FsM} {F : Nat → Prop} (h : DuoN w0 wb p q M N F w) : Ext w0 w := by
  obtain ⟨F', h1, h2, h3⟩ := h
  exact h1.xt
/-- from a world behind the first one -/
theorem DuoN.from {w0 wa wb w : World} {p q : Nat} {M N : FsM} {F : Nat → Prop} (h : DuoN w0 wb p q M N F w) (he : Ext wa wb) (hF : ∀ k, F k → k < wa.heap.size) : DuoN w0 wa p q M N F w := by
  obtain ⟨F', h1, h2, h3⟩ := h
  exact ⟨F', h1, (Ch.of_ext he).tr h2, fun k hk => (h3 k hk).imp id fun h => Nat.le_trans he.size h⟩
/-- one behind the other -/
theorem DuoN.tr {w0 wa wb w : World} {p q : Nat} {M N M' N' : FsM} {F : Nat → Prop} (h : DuoN w0 wa p q M N F wb) (k : ∀ F', Duo w0 wb p q M N F' → DuoN w0 wb p q M' N' F' w) : DuoN w0 wa p q M' N' F w := by
  obtain ⟨F', h1, h2, h3⟩ := h
  obtain ⟨F2, k1, k2, k3⟩ := k F' h1
  exact ⟨F2, k1, ch_after h2 k2 h3, fun x hx => (k3 x hx).elim (h3 x) fun h => .inr (Nat.le_trans h2.size h)⟩
section
variable {w0 wb w : World} {p q : Nat} {M N M' N' : FsM} {F : Nat → Prop} {fn : FuncId} {args : Array Value} {r : Value}
theorem duo_f (hD : DuoN w0 wb p q M N F w) (hM : M'.Ok) (hc : ∀ L, FsAt w L M → M.Ok → L.fb = p → (∀ k, FsFoot L k → w0.heap.size ≤ k) → Calls Try.prog fn args w (FsPost L w r M')) : Calls Try.prog fn args w (fun e w' => e = .returned r ∧ DuoN w0 wb p q M' N F w') := by
  obtain ⟨F1, ⟨L, R, e1, e2, h1, h2, h3, h4, h5, h6, h7, h8, h9⟩, hch, hft⟩ := hD
  refine (hc L h1 h3 e1 fun k hk => h9 k ((h7 k).2 (.inl hk))).mono ?_
  rintro e w' ⟨rfl, L', x1, x2, x3, x4⟩
  have hlo : ∀ k, FsFoot L k → w0.heap.size ≤ k := fun k hk => h9 k ((h7 k).2 (.inl hk))
  refine ⟨rfl, fun k => FsFoot L' k ∨ RFoot R N.nf k, ⟨L', R, x1.trans e1, e2, x2, h2.ch x3 fun k hk hf => h8 k hf hk, hM, h4, h5, ((Ch.of_ext h6).tr x3).ext fun k hk hf => by have := hlo k hf; omega, fun k => Iff.rfl, fun k hk hr => ?_, fun k hk => ?_⟩, ch_after hch x3 fun k hk => hft k ((h7 k).2 (.inl hk)), fun k hk => ?_⟩
  · rcases x4 k hk with h | h
    · exact h8 k h hr
    · have := h2.foot_lt hr
      omega
  · rcases hk with hk | hk
    · exact (x4 k hk).elim (hlo k) fun h => Nat.le_trans h6.size h
    · exact h9 k ((h7 k).2 (.inr hk))
  · rcases hk with hk | hk
    · exact (x4 k hk).elim (fun h => hft k ((h7 k).2 (.inl h))) fun h => .inr (Nat.le_trans hch.size h)
    · exact hft k ((h7 k).2 (.inr hk))
theorem duo_r (hD : DuoN w0 wb p q M N F w) (hN : N'.Ok) (hS : SinceOk N') (hc : ∀ R, RefAt w R N → N.Ok → SinceOk N → R.rb = q → (∀ k, RFoot R N.nf k → w0.heap.size ≤ k) → Calls Try.prog fn args w (RPost R N.nf w r N')) : Calls Try.prog fn args w (fun e w' => e = .returned r ∧ DuoN w0 wb p q M N' F w') := by
  obtain ⟨F1, ⟨L, R, e1, e2, h1, h2, h3, h4, h5, h6, h7, h8, h9⟩, hch, hft⟩ := hD
  have hlo : ∀ k, RFoot R N.nf k → w0.heap.size ≤ k := fun k hk => h9 k ((h7 k).2 (.inr hk))
  refine (hc R h2 h4 h5 e2 hlo).mono ?_
  rintro e w' ⟨rfl, R', x1, x2, x3, x4⟩
  refine ⟨rfl, fun k => FsFoot L k ∨ RFoot R' N'.nf k, ⟨L, R', e1, x1.trans e2, h1.ch x3 fun k hk hf => h8 k hk hf, x2, h3, hN, hS, ((Ch.of_ext h6).tr x3).ext fun k hk hf => by have := hlo k hf; omega, fun k => Iff.rfl, fun k hk hr => ?_, fun k hk => ?_⟩, ch_after hch x3 fun k hk => hft k ((h7 k).2 (.inr hk)), fun k hk => ?_⟩
  · rcases x4 k hr with h | h
    · exact h8 k hk h
    · have := h1.foot_lt hk
      omega
  · rcases hk with hk | hk
    · exact h9 k ((h7 k).2 (.inl hk))
    · exact (x4 k hk).elim (hlo k) fun h => Nat.le_trans h6.size h
  · rcases hk with hk | hk
    · exact hft k ((h7 k).2 (.inl hk))
    · exact (x4 k hk).elim (fun h => hft k ((h7 k).2 (.inr h))) fun h => .inr (Nat.le_trans hch.size h)
end
/-- two calls whose order is drawn -/
structure DuoI (w0 wb : World) (p q g : Nat) (row : Array Value) (M M' : FsM) (F : Nat → Prop) (cf cr : Nat) (L : Nat → Bool) (w : World) : Prop where
  d : DuoN w0 wb p q (if L cf = true then M' else M) (if L cr = true then M' else M) F w
  b : w.heap[g]? = some (.cells row 73 (0, 0))
  n : ¬ F g ∧ g < wb.heap.size
theorem DuoI.go {w0 wb w w' : World} {p q g : Nat} {row : Array Value} {M M' : FsM} {F : Nat → Prop} {cf cr : Nat} {L : Nat → Bool} (h : DuoI w0 wb p q g row M M' F cf cr L w) (he : Ext w w') : DuoI w0 wb p q g row M M' F cf cr L w' :=
  ⟨h.d.ext he, (he.block _ (blk_lt h.b)).trans h.b, h.n⟩
theorem DuoI.read {w0 wb w w' : World} {p q g : Nat} {row : Array Value} {M M' : FsM} {F : Nat → Prop} {cf cr i : Nat} {L : Nat → Bool} (h : DuoI w0 wb p q g row M M' F cf cr L w) (he : Ext w w') (h1 : i ≠ cf ∧ i ≠ cr) : DuoI w0 wb p q g row M M' F cf cr (setL L i) w' := by
  have e1 : setL L i cf = L cf := by simp [setL, Ne.symm h1.1]
  have e2 : setL L i cr = L cr := by simp [setL, Ne.symm h1.2]
  refine ⟨?_, (h.go he).b, h.n⟩
  rw [e1, e2]
  exact h.d.ext he
theorem duoN_box {w0 wb w w' : World} {p q g : Nat} {row : Array Value} {M N M' N' : FsM} {F : Nat → Prop} (h : DuoN w0 wb p q M N F w) (h' : DuoN w0 wb p q M' N' F w') (hb0 : wb.heap[g]? = some (.cells row 73 (0, 0))) (hn : ¬ F g) : w'.heap[g]? = some (.cells row 73 (0, 0)) := by
  obtain ⟨F', h1, h2, h3⟩ := h'
  exact (h2.block g (blk_lt hb0) hn).trans hb0
end Go.Proofs.Ytjekfifnhdoamaa
