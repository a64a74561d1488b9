/- A law's arguments, opened: slices of whatever elements, structs of slices. -/
import Derived.Test.YtkoakneibonjhaaLift
import Derived.Test.YtkoakneibonjhaaTy
import Derived.Deep.Slices
import Derived.Laws.Cover2
set_option linter.unusedSimpArgs false
set_option linter.unusedVariables false
namespace Go.St
open Go.ChangeShapes Go.WideShapes Go.ChangeAt Go.RowKit Go.Rg

section
variable {H : Type} {enc : TypeId × Value → H} {P : Program} {W : World}

/-- what the reading of one value gives: the cells are those of a thing that is good -/
def Tells (enc : TypeId × Value → H) (P : Program) (W : World) (e : TypeId) {α : Type} (c : α → List Value) (good : α → Prop) : Prop :=
  ∀ (fuel : Nat) (cs : List Value) (x : DataW H × List MemPlace), DataW.trod enc P W 0 (fun _ => true) true fuel e cs = some x → ∃ a, cs = c a ∧ good a

theorem tells_int {e : TypeId} {k : IntKind} (h : P.underlying e = some (.int k)) : Tells enc P W e (fun n : Int => [Value.int k n]) (fun n => (Lit.int k n).wf = true) := by
  intro fuel cs x hx
  obtain ⟨n, h1, _, h3⟩ := DataW.trod_int h hx
  exact ⟨n, h1, h3⟩
theorem tells_string {e : TypeId} (h : P.underlying e = some .string) : Tells enc P W e (fun s : ByteArray => [Value.string s]) (fun s => s.size ≤ maxLen) := by
  intro fuel cs x hx
  cases fuel with
  | zero => simp [DataW.trod] at hx
  | succ fuel =>
    unfold DataW.trod at hx
    simp only [h] at hx
    split at hx
    all_goals first | (simp_all; done) | skip
theorem tells_float {e : TypeId} {k : FloatKind} (h : P.underlying e = some (.float k)) : Tells enc P W e (fun n : Nat => [Value.float k n]) (fun _ => True) := by
  intro fuel cs x hx
  cases fuel with
  | zero => simp [DataW.trod] at hx
  | succ fuel =>
    unfold DataW.trod at hx
    simp only [h] at hx
    split at hx
    all_goals first | (simp_all; done) | skip

theorem addr_plain {w : World} {a : Addr} {v : Value} (h : w.cell? (a.add 0) = some v) : a = ⟨a.block, a.off, none⟩ := by
  obtain ⟨b, o, sp⟩ := a
  have : sp = none := by simpa [Addr.add] using World.cell?_spot h
  subst this; rfl

/-- a slice of elements -/
theorem open_slS {t e : TypeId} {v : Value} {d : DataW H} {ps : List MemPlace} {r : Reach} {b0 : Nat} {α : Type} [Inhabited α] {c : α → List Value} {good : α → Prop} {sz : Nat}
    (ht : P.underlying t = some (.slice e)) (hc : P.cellsOf e = sz) (hsz : 0 < sz) (hel : Tells enc P W e c good) (hcl : ∀ x, (c x).length = sz)
    (hval : Value.okWide P W r b0 t v) (hd : DataW.Trod enc P W 0 (fun _ => true) true t v d ps) :
    ∃ xs : List α, SlS W v sz c xs ∧ (∀ x ∈ xs, good x) ∧ ((d.weights P t).all (· ≤ reachBytes) = true → xs.length * P.bytesOf e ≤ 140737488351232) := by
  obtain ⟨a, len, cap, rfl⟩ := okWide_slice ht hval
  obtain ⟨fuel, hf⟩ := hd
  rcases Deep.open_slice ht hf with ⟨h0, hx⟩ | ⟨a', len', cap', m, n, D, Pl, h0, _, hl, hm, hmm, hx, hcell⟩
  · simp [Value.cells] at h0
    obtain ⟨rfl, rfl, rfl⟩ := h0
    exact ⟨[], SlS.nil _ _ _, (by intro x hx'; cases hx'), fun _ => by simp⟩
  · simp [Value.cells] at h0
    obtain ⟨rfl, rfl, rfl⟩ := h0
    simp only [if_true] at hmm
    subst hmm
    rw [hc] at hcell
    have hch : ∀ i, i < len → ∃ x : α, W.cells? 0 (a'.add (i * sz)) sz = some (c x) ∧ good x := fun i hi => by
      obtain ⟨cs', h1, h2⟩ := hcell i (by omega)
      obtain ⟨x, rfl, hg⟩ := hel _ _ _ h2
      exact ⟨x, h1, hg⟩
    obtain ⟨f, hfx⟩ := Deep.choose_lt hch
    have hxs : ∀ i, i < len → nth ((List.range len).map f) i = f i := fun i hi => by simp [nth, hi]
    refine ⟨(List.range len).map f, ⟨some a', m, by simp, by simpa using hl, hm, fun hpos => ?_⟩, ?_, ?_⟩
    · simp only [List.length_map, List.length_range] at hpos ⊢
      have h00 := (hfx 0 hpos).1
      obtain ⟨_, hlen, hat⟩ := World.cells?_some h00
      have hcell0 : ∃ u, W.cell? (a'.add 0) = some u := by
        have := hat 0 (by omega)
        simp [Deep.add_add] at this
        rw [List.getElem?_eq_getElem (by rw [hcl]; exact hsz)] at this
        exact ⟨_, this⟩
      obtain ⟨u, hu⟩ := hcell0
      have ha := addr_plain hu
      refine ⟨a'.block, a'.off, by rw [← ha], fun i hi j hj => ?_⟩
      obtain ⟨_, hlen', hat'⟩ := World.cells?_some (hfx i hi).1
      have h3 := hat' j (by omega)
      rw [hxs i hi]
      rw [Deep.add_add, ha, Addr.add_lit] at h3
      rw [Nat.add_assoc]
      exact h3
    · intro x hx'
      obtain ⟨i, hi, rfl⟩ := List.mem_map.1 hx'
      exact (hfx i (List.mem_range.1 hi)).2
    · intro hw
      have hd' : d = .slice ((List.range len).map D) ((List.range (m - len)).map fun j => D (len + j)) := by
        simp only [Prod.mk.injEq] at hx; exact hx.1
      subst hd'
      have := sized_slice (H := H) (P := P) (ts := [t]) (ds := [_]) (by simpa [DataW.weightsEach] using hw) (j := 0) rfl rfl ht
      simp only [List.length_map, List.length_range, reachBytes] at this
      simp only [List.length_map, List.length_range]
      exact Nat.le_trans (Nat.mul_le_mul_right _ (by omega)) this

theorem SlS.sl1 {α : Type} [Inhabited α] {w : World} {v : Value} {c : α → Value} {xs : List α} (h : SlS w v 1 (fun x => [c x]) xs) : Sl1 w v xs.length (fun i => c (nth xs i)) := by
  obtain ⟨a, cap, e, h1, h2, h3⟩ := h.ex
  refine ⟨a, cap, e, h1, h2, fun hp => ?_⟩
  obtain ⟨b, off, e2, h4⟩ := h3 hp
  exact ⟨b, off, e2, fun i hi => by simpa using h4 i hi 0 (by omega)⟩

theorem open_floats {t e : TypeId} {v : Value} {d : DataW H} {ps : List MemPlace} {r : Reach} {b0 : Nat}
    (ht : P.underlying t = some (.slice e)) (hc : P.cellsOf e = 1) (he : P.underlying e = some (.float .f64))
    (hval : Value.okWide P W r b0 t v) (hd : DataW.Trod enc P W 0 (fun _ => true) true t v d ps) : ∃ l : List Nat, Sl1 W v l.length (fun i => .float .f64 (nth l i)) := by
  obtain ⟨xs, h, _⟩ := open_slS (α := Nat) ht hc (by omega) (tells_float he) (fun _ => rfl) hval hd
  exact ⟨xs, h.sl1⟩
end
end Go.St
