/- The arguments of package skip's laws, opened: puts, picks. -/
import Derived.Test.YticmnmdokoonjaaSk12
import Derived.Test.YticmnmdokoonjaaLawSk2
import Derived.Test.YticmnmdokoonjaaOpen
set_option linter.unusedSimpArgs false
set_option linter.unusedVariables false
set_option linter.unnecessarySimpa false
namespace Go.Proofs.Yticmnmdokoonjaa
open Go.ChangeShapes Go.WideShapes Go.ChangeAt Go.RowKit Go.Rg Go.St

variable {H : Type} {enc : TypeId × Value → H} {P : Program} {W : World}

theorem tells_put {e ts ti : TypeId} {fs : Array Field} (h : P.underlying e = some (.struct fs)) (hf : (fs.toList.map fun f => (f.type, f.offset)) = [(ts, 0), (ti, 1)])
    (hc : P.cellsOf e = 2) (hs : P.underlying ts = some .string) (hs1 : P.cellsOf ts = 1) (hi : P.underlying ti = some (.int .i64)) (hi1 : P.cellsOf ti = 1) :
    Tells enc P W e ePut (fun p => -9223372036854775808 ≤ p.2 ∧ p.2 ≤ 9223372036854775807) := by
  intro fuel cs x hx
  obtain ⟨hl, hfl⟩ := trod_fields h hx
  rw [hc] at hl
  rw [hf] at hfl
  match cs, hl with
  | [c0, c1], _ =>
    obtain ⟨n0, y0, h0⟩ := hfl 0 _ _ rfl
    obtain ⟨n1, y1, h1⟩ := hfl 1 _ _ rfl
    rw [hs1] at h0
    rw [hi1] at h1
    obtain ⟨s, e0, g0⟩ := tells_string hs _ _ _ h0
    obtain ⟨q, e1, g1⟩ := tells_int hi _ _ _ h1
    simp at e0 e1
    subst e0; subst e1
    exact ⟨(s, q), rfl, bounds_i64 g1⟩

theorem open_puts {t e ts ti : TypeId} {fs : Array Field} {v : Value} {d : DataW H} {ps : List MemPlace} {r : Reach} {b0 : Nat}
    (ht : P.underlying t = some (.slice e)) (h : P.underlying e = some (.struct fs)) (hf : (fs.toList.map fun f => (f.type, f.offset)) = [(ts, 0), (ti, 1)])
    (hc : P.cellsOf e = 2) (hs : P.underlying ts = some .string) (hs1 : P.cellsOf ts = 1) (hi : P.underlying ti = some (.int .i64)) (hi1 : P.cellsOf ti = 1)
    (hval : Value.okWide P W r b0 t v) (hd : DataW.Trod enc P W 0 (fun _ => true) true t v d ps) : ∃ l : List Put, SlS W v 2 ePut l ∧ ∀ p, p ∈ l → -9223372036854775808 ≤ p.2 ∧ p.2 ≤ 9223372036854775807 := by
  obtain ⟨xs, h1, h2, _⟩ := open_slS (α := Put) ht hc (by omega) (tells_put h hf hc hs hs1 hi hi1) (fun _ => rfl) hval hd
  exact ⟨xs, h1, h2⟩

theorem open_ints {t e : TypeId} {v : Value} {d : DataW H} {ps : List MemPlace} {r : Reach} {b0 : Nat}
    (ht : P.underlying t = some (.slice e)) (hc : P.cellsOf e = 1) (he : P.underlying e = some (.int .i64))
    (hval : Value.okWide P W r b0 t v) (hd : DataW.Trod enc P W 0 (fun _ => true) true t v d ps) : ∃ l : List Int, SlInt W v l ∧ ∀ p, p ∈ l → -9223372036854775808 ≤ p ∧ p ≤ 9223372036854775807 := by
  obtain ⟨xs, h, h2, _⟩ := open_slS (α := Int) ht hc (by omega) (tells_int he) (fun _ => rfl) hval hd
  exact ⟨xs, h.sl1, fun p hp => bounds_i64 (h2 p hp)⟩
end Go.Proofs.Yticmnmdokoonjaa
