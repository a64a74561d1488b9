/- Arguments opened with how much of the bulk their texts take. -/
import Derived.Test.YtoonhcmeklmnlaaMtY
import Derived.Test.YtoonhcmeklmnlaaLiftU
set_option linter.unusedSimpArgs false
set_option linter.unusedVariables false
set_option linter.unnecessarySimpa false

/-! ## (OpenMt) The arguments of package memtable's laws, opened: calls, keys with values. -/
namespace Go.Proofs.Ytoonhcmeklmnlaa
open Go.ChangeShapes Go.WideShapes Go.ChangeAt Go.RowKit Go.Rg Go.St

variable {H : Type} {enc : TypeId × Value → H} {P : Program} {W : World}

def GoodKV (x : KVp) : Prop := GoodKey x.1 ∧ x.2.size ≤ maxLen
/-- a call of a script -/
structure MCall where
  kind : Int
  kv : KVp
deriving Inhabited
def eCall (c : MCall) : List Value := .int .i64 c.kind :: eKV c.kv
def GoodCall (c : MCall) : Prop := (Lit.int .i64 c.kind).wf = true ∧ GoodKV c.kv
theorem eCall_length (x : MCall) : (eCall x).length = 5 := rfl
theorem tells_kv {e tk ts : TypeId} {fs : Array Field} (h : P.underlying e = some (.struct fs)) (hf : (fs.toList.map fun f => (f.type, f.offset)) = [(tk, 0), (ts, 3)])
    (hc : P.cellsOf e = 4) (hk : Tells enc P W tk eKey GoodKey) (hk1 : P.cellsOf tk = 3) (hs : P.underlying ts = some .string) (hs1 : P.cellsOf ts = 1) : Tells enc P W e eKV GoodKV := by
  intro fuel cs x hx
  obtain ⟨hl, hfl⟩ := trod_fields h hx
  rw [hc] at hl
  rw [hf] at hfl
  match cs, hl with
  | [c0, c1, c2, c3], _ =>
    obtain ⟨n0, y0, h0⟩ := hfl 0 _ _ rfl
    obtain ⟨n1, y1, h1⟩ := hfl 1 _ _ rfl
    rw [hk1] at h0
    rw [hs1] at h1
    obtain ⟨a, e0, g0⟩ := hk _ _ _ h0
    obtain ⟨s, e1, g1⟩ := tells_string hs _ _ _ h1
    simp [eKey] at e0 e1
    obtain ⟨rfl, rfl, rfl⟩ := e0
    subst e1
    exact ⟨(a, s), rfl, g0, g1⟩
theorem tells_call {e tk ti ts : TypeId} {fs : Array Field} (h : P.underlying e = some (.struct fs)) (hf : (fs.toList.map fun f => (f.type, f.offset)) = [(ti, 0), (tk, 1), (ts, 4)])
    (hc : P.cellsOf e = 5) (hk : Tells enc P W tk eKey GoodKey) (hk1 : P.cellsOf tk = 3) (hs : P.underlying ts = some .string) (hs1 : P.cellsOf ts = 1) (hi : P.underlying ti = some (.int .i64)) (hi1 : P.cellsOf ti = 1) : Tells enc P W e eCall GoodCall := by
  intro fuel cs x hx
  obtain ⟨hl, hfl⟩ := trod_fields h hx
  rw [hc] at hl
  rw [hf] at hfl
  match cs, hl with
  | [c0, c1, c2, c3, c4], _ =>
    obtain ⟨n0, y0, h0⟩ := hfl 0 _ _ rfl
    obtain ⟨n1, y1, h1⟩ := hfl 1 _ _ rfl
    obtain ⟨n2, y2, h2⟩ := hfl 2 _ _ rfl
    rw [hi1] at h0
    rw [hk1] at h1
    rw [hs1] at h2
    obtain ⟨q, e0, g0⟩ := tells_int hi _ _ _ h0
    obtain ⟨a, e1, g1⟩ := hk _ _ _ h1
    obtain ⟨s, e2, g2⟩ := tells_string hs _ _ _ h2
    simp [eKey] at e0 e1 e2
    obtain ⟨rfl, rfl, rfl⟩ := e1
    subst e0; subst e2
    exact ⟨⟨q, a, s⟩, rfl, g0, g1, g2⟩
theorem bounds_u64 {n : Int} (h : (Lit.int .u64 n).wf = true) : 0 ≤ n := by
  simp [Lit.wf, IntKind.min, IntKind.max, IntKind.signed, IntKind.bits] at h
  omega
theorem ok_of_good {x : KVp} (h : GoodKV x) : OkKV x := by
  obtain ⟨⟨h1, h2, _⟩, h3⟩ := h
  unfold maxLen at h1 h3
  exact ⟨bounds_u64 h2, by omega, by omega⟩
theorem open_kvs {t e : TypeId} {v : Value} {d : DataW H} {ps : List MemPlace} {r : Reach} {b0 : Nat} (ht : P.underlying t = some (.slice e)) (hc : P.cellsOf e = 4) (hel : Tells enc P W e eKV GoodKV) (hb : P.bytesOf e = 48)
    (hval : Value.okWide P W r b0 t v) (hd : DataW.Trod enc P W 0 (fun _ => true) true t v d ps) : ∃ l : List KVp, SlS W v 4 eKV l ∧ (∀ x, x ∈ l → OkKV x) ∧ ((d.weights P t).all (· ≤ reachBytes) = true → l.length ≤ 2932031007318) := by
  obtain ⟨xs, h1, h2, h3⟩ := open_slS (α := KVp) ht hc (by omega) hel eKV_length hval hd
  refine ⟨xs, h1, fun x hx => ok_of_good (h2 x hx), fun hw => ?_⟩
  have := h3 hw
  rw [hb] at this
  omega
theorem open_u64 {t : TypeId} (h : P.underlying t = some (.int .u64)) {v : Value} {d : DataW H} {ps : List MemPlace} {r : Reach} {b0 : Nat} (hval : Value.okWide P W r b0 t v) (hd : DataW.Trod enc P W 0 (fun _ => true) true t v d ps) : ∃ n : Nat, v = .int .u64 (n : Int) := by
  obtain ⟨n, rfl⟩ := okWide_int h hval
  obtain ⟨fuel, hf⟩ := hd
  obtain ⟨m, e, hw⟩ := tells_int h fuel _ _ hf
  have := bounds_u64 hw
  simp [Value.cells] at e
  subst e
  exact ⟨n.toNat, by rw [Int.toNat_of_nonneg this]⟩
end Go.Proofs.Ytoonhcmeklmnlaa

/-! ## (OpenB) Arguments opened with how much of the bulk their texts take. -/
namespace Go.Proofs.Ytoonhcmeklmnlaa
open Go.ChangeShapes Go.WideShapes Go.ChangeAt Go.RowKit Go.Rg Go.St
variable {H : Type} {enc : TypeId × Value → H} {P : Program} {W : World}
theorem bulk_mem {d : DataW H} : ∀ {ds : List (DataW H)}, d ∈ ds → Rows.uptoBulk d ≤ Rows.uptoBulkAll ds
  | [], h => by cases h
  | x :: ds, h => by
    rw [Rows.uptoBulkAll]
    rcases List.mem_cons.1 h with rfl | h
    · omega
    · have := bulk_mem h; omega
def TellsB (enc : TypeId × Value → H) (P : Program) (W : World) (e : TypeId) {α : Type} (c : α → List Value) (good : α → Prop) (big : α → Nat) : Prop :=
  ∀ (fuel : Nat) (cs : List Value) (x : DataW H × List MemPlace), DataW.trod enc P W 0 (fun _ => true) true fuel e cs = some x → ∃ a, cs = c a ∧ good a ∧ big a ≤ Rows.uptoBulk x.1
theorem tellsb_string {e : TypeId} (h : P.underlying e = some .string) : TellsB enc P W e (fun s : ByteArray => [Value.string s]) (fun s => s.size ≤ maxLen) (fun s => s.size) := by
  intro fuel cs x hx
  obtain ⟨s, rfl, hs⟩ := tells_string h _ _ _ hx
  exact ⟨s, rfl, hs, bulk_string (ps := x.2) h ⟨fuel, hx⟩⟩
theorem trod_fieldsB {t : TypeId} {fs : Array Field} {fuel : Nat} {cs : List Value} {x : DataW H × List MemPlace} (ht : P.underlying t = some (.struct fs))
    (h : DataW.trod enc P W 0 (fun _ => true) true fuel t cs = some x) : cs.length = P.cellsOf t ∧
    ∀ (i : Nat) (ty off : Nat), (fs.toList.map fun f => (f.type, f.offset))[i]? = some (ty, off) → ∃ n y, DataW.trod enc P W 0 (fun _ => true) true n ty ((cs.drop off).take (P.cellsOf ty)) = some y ∧ Rows.uptoBulk y.1 ≤ Rows.uptoBulk x.1 := by
  obtain ⟨xs, n, _, hxx, hl, hn, hx⟩ := DataW.trod_struct ht h
  refine ⟨hl, fun i ty off hi => ?_⟩
  rw [List.getElem?_map] at hi
  cases hf : fs.toList[i]? with
  | none => rw [hf] at hi; cases hi
  | some f =>
    rw [hf] at hi
    simp only [Option.map_some, Option.some.injEq, Prod.mk.injEq] at hi
    obtain ⟨rfl, rfl⟩ := hi
    have hlt : i < xs.length := by
      rw [hn]
      have := (List.getElem?_eq_some_iff.1 hf).1
      simpa using this
    have := hx i f (by simpa using hf)
    rw [List.getElem?_eq_getElem hlt] at this
    refine ⟨n, _, this, ?_⟩
    rw [hxx]
    show _ ≤ Rows.uptoBulk (.agg (xs.map (·.1)))
    rw [Rows.uptoBulk]
    have := bulk_mem (List.mem_map_of_mem (f := (·.1)) (List.getElem_mem hlt))
    omega
theorem tellsb_key {e ts tu ti : TypeId} {fs : Array Field} (h : P.underlying e = some (.struct fs)) (hf : (fs.toList.map fun f => (f.type, f.offset)) = [(ts, 0), (tu, 1), (ti, 2)])
    (hs : P.underlying ts = some .string) (hs1 : P.cellsOf ts = 1) (hk : Tells enc P W e eKey GoodKey) :
    TellsB enc P W e eKey GoodKey (fun k => k.user.size) := by
  intro fuel cs x hx
  obtain ⟨k, rfl, hg⟩ := hk _ _ _ hx
  obtain ⟨_, hfl⟩ := trod_fieldsB h hx
  rw [hf] at hfl
  obtain ⟨n0, y0, h0, b0⟩ := hfl 0 _ _ rfl
  rw [hs1] at h0
  obtain ⟨s, e0, _, g0⟩ := tellsb_string hs _ _ _ h0
  simp [eKey] at e0
  subst e0
  exact ⟨k, rfl, hg, Nat.le_trans g0 b0⟩
theorem tellsb_call {e tk ti ts : TypeId} {fs : Array Field} (h : P.underlying e = some (.struct fs)) (hf : (fs.toList.map fun f => (f.type, f.offset)) = [(ti, 0), (tk, 1), (ts, 4)])
    (hc : Tells enc P W e eCall GoodCall) (hk : TellsB enc P W tk eKey GoodKey (fun k => k.user.size)) (hk1 : P.cellsOf tk = 3) : TellsB enc P W e eCall GoodCall (fun c => c.kv.1.user.size) := by
  intro fuel cs x hx
  obtain ⟨k, rfl, hg⟩ := hc _ _ _ hx
  obtain ⟨_, hfl⟩ := trod_fieldsB h hx
  rw [hf] at hfl
  obtain ⟨n1, y1, h1, b1⟩ := hfl 1 _ _ rfl
  rw [hk1] at h1
  obtain ⟨s, e1, _, g1⟩ := hk _ _ _ h1
  simp [eKey, eCall, eKV] at e1
  refine ⟨k, rfl, hg, ?_⟩
  show k.kv.1.user.size ≤ _
  rw [e1.1]
  exact Nat.le_trans g1 b1
theorem slS_of_trodB {t e : TypeId} {fuel : Nat} {cs : List Value} {x : DataW H × List MemPlace} {α : Type} [Inhabited α] {c : α → List Value} {good : α → Prop} {big : α → Nat} {sz : Nat}
    (ht : P.underlying t = some (.slice e)) (hc : P.cellsOf e = sz) (hsz : 0 < sz) (hel : TellsB enc P W e c good big) (hcl : ∀ x, (c x).length = sz)
    (hf : DataW.trod enc P W 0 (fun _ => true) true fuel t cs = some x) :
    ∃ (v : Value) (xs : List α), cs = [v] ∧ SlS W v sz c xs ∧ (∀ x ∈ xs, good x) ∧ (∀ y ∈ xs, big y ≤ Rows.uptoBulk x.1) := by
  rcases Deep.open_slice ht hf with ⟨h0, hx⟩ | ⟨a', len, m, m', n, D, Pl, h0, _, hl, hm, hmm, hx, hcell⟩
  · exact ⟨_, [], h0, SlS.nil _ _ _, (by intro x hx'; cases hx'), (by intro x hx'; cases hx')⟩
  · simp only [if_true] at hmm
    subst hmm
    rw [hc] at hcell
    have hch : ∀ i, i < len → ∃ x : α, W.cells? 0 (a'.add (i * sz)) sz = some (c x) ∧ good x ∧ big x ≤ Rows.uptoBulk (D i) := fun i hi => by
      obtain ⟨cs', h1, h2⟩ := hcell i (by omega)
      obtain ⟨x, rfl, hg, hb⟩ := hel _ _ _ h2
      exact ⟨x, h1, hg, hb⟩
    obtain ⟨f, hfx⟩ := Deep.choose_lt hch
    have hxs : ∀ i, i < len → nth ((List.range len).map f) i = f i := fun i hi => by simp [nth, hi]
    refine ⟨_, (List.range len).map f, h0, ⟨some a', m', by simp, by simpa using hl, hm, fun hpos => ?_⟩, ?_, ?_⟩
    · simp only [List.length_map, List.length_range] at hpos ⊢
      have h00 := (hfx 0 hpos).1
      obtain ⟨_, hlen, hat⟩ := World.cells?_some h00
      have hcell0 : ∃ u, W.cell? (a'.add 0) = some u := by
        have := hat 0 (by omega)
        simp [Deep.add_add] at this
        rw [List.getElem?_eq_getElem (by rw [hcl]; exact hsz)] at this
        exact ⟨_, this⟩
      obtain ⟨u, hu⟩ := hcell0
      have ha := addr_plain hu
      refine ⟨a'.block, a'.off, by rw [← ha], fun i hi j hj => ?_⟩
      obtain ⟨_, hlen', hat'⟩ := World.cells?_some (hfx i hi).1
      have h3 := hat' j (by omega)
      rw [hxs i hi]
      rw [Deep.add_add, ha, Addr.add_lit] at h3
      rw [Nat.add_assoc]
      exact h3
    · intro x hx'
      obtain ⟨i, hi, rfl⟩ := List.mem_map.1 hx'
      exact (hfx i (List.mem_range.1 hi)).2.1
    · intro y hy
      obtain ⟨i, hi, rfl⟩ := List.mem_map.1 hy
      have h1 := (hfx i (List.mem_range.1 hi)).2.2
      rw [hx]
      show _ ≤ Rows.uptoBulk (.slice ((List.range len).map D) _)
      rw [Rows.uptoBulk]
      have := bulk_mem (List.mem_map_of_mem (f := D) hi)
      omega
theorem open_calls {t e : TypeId} {v : Value} {d : DataW H} {ps : List MemPlace} {r : Reach} {b0 : Nat} (ht : P.underlying t = some (.slice e)) (hc : P.cellsOf e = 5) (hel : TellsB enc P W e eCall GoodCall (fun c => c.kv.1.user.size))
    (hval : Value.okWide P W r b0 t v) (hd : DataW.Trod enc P W 0 (fun _ => true) true t v d ps) : ∃ l : List MCall, SlS W v 5 eCall l ∧ (∀ x, x ∈ l → OkKV x.kv) ∧ (∀ x, x ∈ l → x.kv.1.user.size ≤ Rows.uptoBulk d) := by
  obtain ⟨a, len, cap, rfl⟩ := okWide_slice ht hval
  obtain ⟨fuel, hf⟩ := hd
  obtain ⟨v, xs, h0, h1, h2, h3⟩ := slS_of_trodB ht hc (by omega) hel eCall_length hf
  simp [Value.cells] at h0
  subst h0
  exact ⟨xs, h1, fun x hx => ok_of_good (h2 x hx).2, h3⟩
end Go.Proofs.Ytoonhcmeklmnlaa
