/- The arguments of package memtable's laws, opened: calls, keys with values. -/
import Derived.Test.YtoonhcmeklmnlaaLawMt
import Derived.Test.YtoonhcmeklmnlaaOpen
set_option linter.unusedSimpArgs false
set_option linter.unusedVariables false
set_option linter.unnecessarySimpa false
namespace Go.Proofs.Ytoonhcmeklmnlaa
open Go.ChangeShapes Go.WideShapes Go.ChangeAt Go.RowKit Go.Rg Go.St

variable {H : Type} {enc : TypeId × Value → H} {P : Program} {W : World}

/-- a key and its value -/
abbrev KVp := IKey × ByteArray
def eKV (x : KVp) : List Value := eKey x.1 ++ [.string x.2]
def GoodKV (x : KVp) : Prop := GoodKey x.1 ∧ x.2.size ≤ maxLen
/-- a call of a script -/
structure MCall where
  kind : Int
  kv : KVp
deriving Inhabited
def eCall (c : MCall) : List Value := .int .i64 c.kind :: eKV c.kv
def GoodCall (c : MCall) : Prop := (Lit.int .i64 c.kind).wf = true ∧ GoodKV c.kv
theorem eKV_length (x : KVp) : (eKV x).length = 4 := rfl
theorem eCall_length (x : MCall) : (eCall x).length = 5 := rfl
theorem tells_kv {e tk ts : TypeId} {fs : Array Field} (h : P.underlying e = some (.struct fs)) (hf : (fs.toList.map fun f => (f.type, f.offset)) = [(tk, 0), (ts, 3)])
    (hc : P.cellsOf e = 4) (hk : Tells enc P W tk eKey GoodKey) (hk1 : P.cellsOf tk = 3) (hs : P.underlying ts = some .string) (hs1 : P.cellsOf ts = 1) : Tells enc P W e eKV GoodKV := by
  intro fuel cs x hx
  obtain ⟨hl, hfl⟩ := trod_fields h hx
  rw [hc] at hl
  rw [hf] at hfl
  match cs, hl with
  | [c0, c1, c2, c3], _ =>
    obtain ⟨n0, y0, h0⟩ := hfl 0 _ _ rfl
    obtain ⟨n1, y1, h1⟩ := hfl 1 _ _ rfl
    rw [hk1] at h0
    rw [hs1] at h1
    obtain ⟨a, e0, g0⟩ := hk _ _ _ h0
    obtain ⟨s, e1, g1⟩ := tells_string hs _ _ _ h1
    simp [eKey] at e0 e1
    obtain ⟨rfl, rfl, rfl⟩ := e0
    subst e1
    exact ⟨(a, s), rfl, g0, g1⟩
theorem tells_call {e tk ti ts : TypeId} {fs : Array Field} (h : P.underlying e = some (.struct fs)) (hf : (fs.toList.map fun f => (f.type, f.offset)) = [(ti, 0), (tk, 1), (ts, 4)])
    (hc : P.cellsOf e = 5) (hk : Tells enc P W tk eKey GoodKey) (hk1 : P.cellsOf tk = 3) (hs : P.underlying ts = some .string) (hs1 : P.cellsOf ts = 1) (hi : P.underlying ti = some (.int .i64)) (hi1 : P.cellsOf ti = 1) : Tells enc P W e eCall GoodCall := by
  intro fuel cs x hx
  obtain ⟨hl, hfl⟩ := trod_fields h hx
  rw [hc] at hl
  rw [hf] at hfl
  match cs, hl with
  | [c0, c1, c2, c3, c4], _ =>
    obtain ⟨n0, y0, h0⟩ := hfl 0 _ _ rfl
    obtain ⟨n1, y1, h1⟩ := hfl 1 _ _ rfl
    obtain ⟨n2, y2, h2⟩ := hfl 2 _ _ rfl
    rw [hi1] at h0
    rw [hk1] at h1
    rw [hs1] at h2
    obtain ⟨q, e0, g0⟩ := tells_int hi _ _ _ h0
    obtain ⟨a, e1, g1⟩ := hk _ _ _ h1
    obtain ⟨s, e2, g2⟩ := tells_string hs _ _ _ h2
    simp [eKey] at e0 e1 e2
    obtain ⟨rfl, rfl, rfl⟩ := e1
    subst e0; subst e2
    exact ⟨⟨q, a, s⟩, rfl, g0, g1, g2⟩
end Go.Proofs.Ytoonhcmeklmnlaa
