/- The arguments of package memtable's laws, opened: calls, keys with values. -/
import Derived.Test.YtoonhcmeklmnlaaMtX
import Derived.Test.YtoonhcmeklmnlaaOpen
set_option linter.unusedSimpArgs false
set_option linter.unusedVariables false
set_option linter.unnecessarySimpa false
namespace Go.Proofs.Ytoonhcmeklmnlaa
open Go.ChangeShapes Go.WideShapes Go.ChangeAt Go.RowKit Go.Rg Go.St

variable {H : Type} {enc : TypeId × Value → H} {P : Program} {W : World}

def GoodKV (x : KVp) : Prop := GoodKey x.1 ∧ x.2.size ≤ maxLen
/-- a call of a script -/
structure MCall where
  kind : Int
  kv : KVp
deriving Inhabited
def eCall (c : MCall) : List Value := .int .i64 c.kind :: eKV c.kv
def GoodCall (c : MCall) : Prop := (Lit.int .i64 c.kind).wf = true ∧ GoodKV c.kv
theorem eCall_length (x : MCall) : (eCall x).length = 5 := rfl
theorem tells_kv {e tk ts : TypeId} {fs : Array Field} (h : P.underlying e = some (.struct fs)) (hf : (fs.toList.map fun f => (f.type, f.offset)) = [(tk, 0), (ts, 3)])
    (hc : P.cellsOf e = 4) (hk : Tells enc P W tk eKey GoodKey) (hk1 : P.cellsOf tk = 3) (hs : P.underlying ts = some .string) (hs1 : P.cellsOf ts = 1) : Tells enc P W e eKV GoodKV := by
  intro fuel cs x hx
  obtain ⟨hl, hfl⟩ := trod_fields h hx
  rw [hc] at hl
  rw [hf] at hfl
  match cs, hl with
  | [c0, c1, c2, c3], _ =>
    obtain ⟨n0, y0, h0⟩ := hfl 0 _ _ rfl
    obtain ⟨n1, y1, h1⟩ := hfl 1 _ _ rfl
    rw [hk1] at h0
    rw [hs1] at h1
    obtain ⟨a, e0, g0⟩ := hk _ _ _ h0
    obtain ⟨s, e1, g1⟩ := tells_string hs _ _ _ h1
    simp [eKey] at e0 e1
    obtain ⟨rfl, rfl, rfl⟩ := e0
    subst e1
    exact ⟨(a, s), rfl, g0, g1⟩
theorem tells_call {e tk ti ts : TypeId} {fs : Array Field} (h : P.underlying e = some (.struct fs)) (hf : (fs.toList.map fun f => (f.type, f.offset)) = [(ti, 0), (tk, 1), (ts, 4)])
    (hc : P.cellsOf e = 5) (hk : Tells enc P W tk eKey GoodKey) (hk1 : P.cellsOf tk = 3) (hs : P.underlying ts = some .string) (hs1 : P.cellsOf ts = 1) (hi : P.underlying ti = some (.int .i64)) (hi1 : P.cellsOf ti = 1) : Tells enc P W e eCall GoodCall := by
  intro fuel cs x hx
  obtain ⟨hl, hfl⟩ := trod_fields h hx
  rw [hc] at hl
  rw [hf] at hfl
  match cs, hl with
  | [c0, c1, c2, c3, c4], _ =>
    obtain ⟨n0, y0, h0⟩ := hfl 0 _ _ rfl
    obtain ⟨n1, y1, h1⟩ := hfl 1 _ _ rfl
    obtain ⟨n2, y2, h2⟩ := hfl 2 _ _ rfl
    rw [hi1] at h0
    rw [hk1] at h1
    rw [hs1] at h2
    obtain ⟨q, e0, g0⟩ := tells_int hi _ _ _ h0
    obtain ⟨a, e1, g1⟩ := hk _ _ _ h1
    obtain ⟨s, e2, g2⟩ := tells_string hs _ _ _ h2
    simp [eKey] at e0 e1 e2
    obtain ⟨rfl, rfl, rfl⟩ := e1
    subst e0; subst e2
    exact ⟨⟨q, a, s⟩, rfl, g0, g1, g2⟩
theorem bounds_u64 {n : Int} (h : (Lit.int .u64 n).wf = true) : 0 ≤ n := by
  simp [Lit.wf, IntKind.min, IntKind.max, IntKind.signed, IntKind.bits] at h
  omega
theorem ok_of_good {x : KVp} (h : GoodKV x) : OkKV x := by
  obtain ⟨⟨h1, h2, _⟩, h3⟩ := h
  unfold maxLen at h1 h3
  exact ⟨bounds_u64 h2, by omega, by omega⟩
theorem open_kvs {t e : TypeId} {v : Value} {d : DataW H} {ps : List MemPlace} {r : Reach} {b0 : Nat} (ht : P.underlying t = some (.slice e)) (hc : P.cellsOf e = 4) (hel : Tells enc P W e eKV GoodKV) (hb : P.bytesOf e = 48)
    (hval : Value.okWide P W r b0 t v) (hd : DataW.Trod enc P W 0 (fun _ => true) true t v d ps) : ∃ l : List KVp, SlS W v 4 eKV l ∧ (∀ x, x ∈ l → OkKV x) ∧ ((d.weights P t).all (· ≤ reachBytes) = true → l.length ≤ 2932031007318) := by
  obtain ⟨xs, h1, h2, h3⟩ := open_slS (α := KVp) ht hc (by omega) hel eKV_length hval hd
  refine ⟨xs, h1, fun x hx => ok_of_good (h2 x hx), fun hw => ?_⟩
  have := h3 hw
  rw [hb] at this
  omega
theorem open_u64 {t : TypeId} (h : P.underlying t = some (.int .u64)) {v : Value} {d : DataW H} {ps : List MemPlace} {r : Reach} {b0 : Nat} (hval : Value.okWide P W r b0 t v) (hd : DataW.Trod enc P W 0 (fun _ => true) true t v d ps) : ∃ n : Nat, v = .int .u64 (n : Int) := by
  obtain ⟨n, rfl⟩ := okWide_int h hval
  obtain ⟨fuel, hf⟩ := hd
  obtain ⟨m, e, hw⟩ := tells_int h fuel _ _ hf
  have := bounds_u64 hw
  simp [Value.cells] at e
  subst e
  exact ⟨n.toNat, by rw [Int.toNat_of_nonneg this]⟩
end Go.Proofs.Ytoonhcmeklmnlaa
