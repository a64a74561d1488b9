/- A snapshots' call that is read. -/
import Derived.Test.YtjekfifnhdoamaaLiftU
set_option linter.unusedSimpArgs false
set_option linter.unusedVariables false
set_option linter.unnecessarySimpa false
namespace Go.Proofs.Ytjekfifnhdoamaa
open Go.ChangeShapes Go.WideShapes Go.ChangeAt Go.RowKit Go.Rg Go.St

variable {H : Type} {enc : TypeId × Value → H} {P : Program} {W : World}
/-- a call of a script -/
structure SCall where
  kind : Int
  seq : Int
  id : Int
deriving Inhabited
def eSCall (c : SCall) : List Value := [.int .i64 c.kind, .int .u64 c.seq, .int .i64 c.id]
theorem eSCall_length (c : SCall) : (eSCall c).length = 3 := rfl
def GoodSCall (c : SCall) : Prop := (Lit.int .i64 c.kind).wf = true ∧ (Lit.int .u64 c.seq).wf = true ∧ (Lit.int .i64 c.id).wf = true
theorem tells_scall {e ti tu : TypeId} {fs : Array Field} (h : P.underlying e = some (.struct fs)) (hf : (fs.toList.map fun f => (f.type, f.offset)) = [(ti, 0), (tu, 1), (ti, 2)])
    (hc : P.cellsOf e = 3) (hu : P.underlying tu = some (.int .u64)) (hu1 : P.cellsOf tu = 1) (hi : P.underlying ti = some (.int .i64)) (hi1 : P.cellsOf ti = 1) : Tells enc P W e eSCall GoodSCall := by
  intro fuel cs x hx
  obtain ⟨hl, hfl⟩ := trod_fields h hx
  rw [hc] at hl
  rw [hf] at hfl
  match cs, hl with
  | [c0, c1, c2], _ =>
    obtain ⟨n0, y0, h0⟩ := hfl 0 _ _ rfl
    obtain ⟨n1, y1, h1⟩ := hfl 1 _ _ rfl
    obtain ⟨n2, y2, h2⟩ := hfl 2 _ _ rfl
    rw [hi1] at h0 h2
    rw [hu1] at h1
    obtain ⟨q, e0, g0⟩ := tells_int hi _ _ _ h0
    obtain ⟨r, e1, g1⟩ := tells_int hu _ _ _ h1
    obtain ⟨s, e2, g2⟩ := tells_int hi _ _ _ h2
    simp at e0 e1 e2
    subst e0; subst e1; subst e2
    exact ⟨⟨q, r, s⟩, rfl, g0, g1, g2⟩
end Go.Proofs.Ytjekfifnhdoamaa
