/- The argument of a law of simfs: a call, opened as far as its cells. -/
import Derived.Test.YtjekfifnhdoamaaOpenSf
set_option linter.unusedSimpArgs false
set_option linter.unusedVariables false
set_option linter.unnecessarySimpa false
namespace Go.Proofs.Ytjekfifnhdoamaa
open Go.ChangeShapes Go.WideShapes Go.ChangeAt Go.RowKit Go.Rg Go.St

variable {H : Type} {enc : TypeId × Value → H} {P : Program} {W : World}

/-- a call, its rows as values -/
structure FCall where
  kind : Int
  name : ByteArray
  to_ : ByteArray
  b : Value
  n : Int
  picks : Value
def eFCall (c : FCall) : List Value := [.int .i64 c.kind, .string c.name, .string c.to_, c.b, .int .i64 c.n, c.picks]
theorem tells_fcall {e ti ts tb tp eb ei : TypeId} {fs : Array Field} (h : P.underlying e = some (.struct fs)) (hf : (fs.toList.map fun f => (f.type, f.offset)) = [(ti, 0), (ts, 1), (ts, 2), (tb, 3), (ti, 4), (tp, 5)])
    (hc : P.cellsOf e = 6) (hi : P.underlying ti = some (.int .i64)) (hi1 : P.cellsOf ti = 1) (hs : P.underlying ts = some .string) (hs1 : P.cellsOf ts = 1)
    (hb : P.underlying tb = some (.slice eb)) (hb1 : P.cellsOf tb = 1) (hb2 : P.underlying eb = some (.int .u8)) (hb3 : P.cellsOf eb = 1)
    (hp : P.underlying tp = some (.slice ei)) (hp1 : P.cellsOf tp = 1) (hp2 : P.underlying ei = some (.int .i64)) (hp3 : P.cellsOf ei = 1) :
    Tells enc P W e eFCall (fun c => -9223372036854775808 ≤ c.n ∧ c.n ≤ 9223372036854775807 ∧ (∃ l : List Int, SlS W c.b 1 (fun n => [Value.int .u8 n]) l ∧ ∀ x ∈ l, (Lit.int .u8 x).wf = true) ∧ ∃ l : List Int, SlS W c.picks 1 (fun n => [Value.int .i64 n]) l ∧ ∀ x ∈ l, (Lit.int .i64 x).wf = true) := by
  intro fuel cs x hx
  obtain ⟨hl, hfl⟩ := trod_fields h hx
  rw [hc] at hl
  rw [hf] at hfl
  match cs, hl with
  | [c0, c1, c2, c3, c4, c5], _ =>
    obtain ⟨n0, y0, h0⟩ := hfl 0 _ _ rfl
    obtain ⟨n1, y1, h1⟩ := hfl 1 _ _ rfl
    obtain ⟨n2, y2, h2⟩ := hfl 2 _ _ rfl
    obtain ⟨n3, y3, h3⟩ := hfl 3 _ _ rfl
    obtain ⟨n4, y4, h4⟩ := hfl 4 _ _ rfl
    obtain ⟨n5, y5, h5⟩ := hfl 5 _ _ rfl
    rw [hi1] at h0 h4
    rw [hs1] at h1 h2
    rw [hb1] at h3
    rw [hp1] at h5
    obtain ⟨k, e0, g0⟩ := tells_int hi _ _ _ h0
    obtain ⟨s1, e1, g1⟩ := tells_string hs _ _ _ h1
    obtain ⟨s2, e2, g2⟩ := tells_string hs _ _ _ h2
    obtain ⟨v3, l3, e3, g3, w3, _⟩ := slS_of_trod (α := Int) hb hb3 (by omega) (tells_int hb2) (fun _ => rfl) h3
    obtain ⟨q, e4, g4⟩ := tells_int hi _ _ _ h4
    obtain ⟨v5, l5, e5, g5, w5, _⟩ := slS_of_trod (α := Int) hp hp3 (by omega) (tells_int hp2) (fun _ => rfl) h5
    simp at e0 e1 e2 e3 e4 e5
    subst e0; subst e1; subst e2; subst e3; subst e4; subst e5
    exact ⟨⟨k, s1, s2, c3, q, c5⟩, rfl, (bounds_i64 g4).1, (bounds_i64 g4).2, ⟨l3, g3, w3⟩, ⟨l5, g5, w5⟩⟩
end Go.Proofs.Ytjekfifnhdoamaa
