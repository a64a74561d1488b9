/- From a walk of a law to the law's row, of arguments whose bulk is bounded. -/
import Derived.Test.YtjekfifnhdoamaaLib
import Derived.ProofKit
import Derived.SizedLaws
import Derived.Test.YtjekfifnhdoamaaTy
import Derived.Deep.Slices
import Derived.Laws.Cover2
import Derived.OpenShut
import Derived.Test.YtjekfifnhdoamaaRows
import Derived.Deep.CondSized
set_option linter.unusedSimpArgs false
set_option linter.unusedVariables false
set_option linter.unnecessarySimpa false

/-! ## (Open) A law's arguments, opened: slices of whatever elements, structs of slices. -/

/-! ## (Lift) From a walk of a law to the law's row: whatever the arguments read as, the call returns true, and nothing that was there has turned. -/
namespace Go.St
open Go.ChangeShapes Go.WideShapes Go.ChangeAt Go.RowKit Go.Rg

section
variable {H : Type} {enc : TypeId × Value → H} {P : Program}

theorem trodAll_below (hl : laidOutB P = true) {W W' : World} (hb : Below W.heap.size W W') : ∀ {ts : List TypeId} {vs : List Value} {ds : List (DataW H)} {ps : List MemPlace},
    (∀ t ∈ ts, P.readableRec t = true ∧ t < P.types.size) → (∀ x ∈ ps, x.block < W.heap.size) → DataW.TrodAll enc P W 0 (fun _ => true) true ts vs ds ps →
    DataW.TrodAll enc P W' 0 (fun b => decide (b < W.heap.size)) true ts vs ds ps
  | [], [], [], ps, _, _, h => h
  | t :: ts, v :: vs, d :: ds, ps, hr, hlt, h => by
    obtain ⟨p, q, h1, h2, rfl⟩ := h
    have ht := hr t (List.mem_cons_self ..)
    exact ⟨p, q, Below.trod hl ht.1 ht.2 h1 hb (fun x hx => hlt x (List.mem_append.2 (.inl hx))),
      trodAll_below hl hb (fun u hu => hr u (List.mem_cons_of_mem _ hu)) (fun x hx => hlt x (List.mem_append.2 (.inr hx))) h2, rfl⟩
  | [], _ :: _, _, _, _, _, h => h.elim
  | [], [], _ :: _, _, _, _, h => h.elim
  | _ :: _, [], _, _, _, _, h => h.elim
  | _ :: _, _ :: _, [], _, _, _, h => h.elim

theorem trodAll_length {W : World} {base : Nat} {sp : Nat → Bool} {hl : Bool} : ∀ {ts : List TypeId} {vs : List Value} {ds : List (DataW H)} {ps : List MemPlace}, DataW.TrodAll enc P W base sp hl ts vs ds ps → ds.length = ts.length
  | [], [], [], _, _ => rfl
  | t :: ts, v :: vs, d :: ds, ps, h => by
    obtain ⟨p, q, _, h2, _⟩ := h
    simp [trodAll_length h2]
  | [], _ :: _, _, _, h => h.elim
  | [], [], _ :: _, _, h => h.elim
  | _ :: _, [], _, _, h => h.elim
  | _ :: _, _ :: _, [], _, h => h.elim

theorem law_lifted {C : Checked} {os : Os} {f : FuncId} {fn : Func} {s : ChangeSpec} {bt : TypeId}
    (own : ownKnob C.prog.godebug = none) (started : os.Started) (noInit : C.prog.inits.idxOf? f = none) (hfn : C.prog.funcs[f]? = some fn)
    (witness : ∃ (w : World) (tape : Tape) (i : Input), w.os = os ∧ (w.forCall tape i).Shaped C.prog ∧ i.vars = [] ∧ Input.okWide C.prog (w.forCall tape i) .any w.heap.size f i ∧
      s.pre6 enc C.prog fn [] false (w.forCall tape i).memory i.args ∧ ({} : Assume).holds C.prog (lone (Frame.enter C.prog f i.args .normal) [] (w.forCall tape i)))
    (hl : laidOutB C.prog = true) (hvars : s.vars = []) (hbt : C.prog.underlying bt = some .bool) (hres : fn.resultTypes = #[bt])
    (hread0 : (fn.params.toList.all fun t => C.prog.readableRec t && decide (t < C.prog.types.size)) = true)
    (hspec0 : ∀ (ds : List (DataW H)), ds.length = fn.params.toList.length → s.fn H ds = ⟨[.lit (.bool true)], ds, []⟩)
    (walk : ∀ (W : World) (base : Nat) (args : Array Value) (ds : List (DataW H)) (p : List MemPlace),
      (∀ (j : Nat) t v, fn.params[j]? = some t → args[j]? = some v → Value.okWide C.prog W .any base t v) →
      DataW.TrodAll enc C.prog W 0 (fun _ => true) true fn.params.toList args.toList ds p →
      (DataW.weightsEach C.prog fn.params.toList ds).all (· ≤ reachBytes) = true →
      Calls C.prog f args W fun e W' => e = .returned (.bool true) ∧ Ext W W') :
    ReturnsInHanded {} C os f .any (s.pre6 enc C.prog fn [] false) (s.post enc C.prog fn false true false false) := by
  have hread : ∀ t ∈ fn.params.toList, C.prog.readableRec t = true ∧ t < C.prog.types.size := fun t ht => by
    have := List.all_eq_true.1 hread0 t ht
    simpa using this
  have hspec : ∀ (W : World) (vs : List Value) (ds : List (DataW H)) (p : List MemPlace), DataW.TrodAll enc C.prog W 0 (fun _ => true) true fn.params.toList vs ds p → s.fn H (ds ++ []) = ⟨[.lit (.bool true)], ds, []⟩ := fun W vs ds p h => by
    rw [List.append_nil]; exact hspec0 ds (trodAll_length h)
  refine returnsInHanded_of_change_sized own started noInit hfn witness ?_
  intro W base args ds gs before hval hW _ hsz _
  have hW' := hW
  obtain ⟨p, q, hA, hV, rfl, hfz, hnd⟩ := hW
  rw [hvars] at hV
  obtain ⟨rfl, rfl⟩ := trodVars_none hV
  have hlt : ∀ x ∈ p, x.block < W.heap.size := fun x hx => hW'.lt x (List.mem_append.2 (.inl hx))
  have hvt : s.plain.varTypes C.prog = [] := by
    unfold ChangeSpec.plain DataSpec.varTypes
    simp [hvars]
  rw [hvt, List.append_nil, List.append_nil] at hsz
  refine (walk W base args ds p hval hA hsz).mono fun e W' ⟨he, hb⟩ => ?_
  subst he
  refine ⟨_, rfl, ds, [], p ++ [], [], p, [], hW', ?_, ?_, ?_, hb.frame _, fun h => by cases h⟩
  · rw [hspec W _ ds p hA, hres]
    exact trodAll_mk1 (shut_bool hbt true)
  · rw [hspec W _ ds p hA]
    exact trodAll_below hl hb hread hlt hA
  · rw [hspec W _ ds p hA, hvars]
    rfl
end
end Go.St

/-! ## (Open) A law's arguments, opened: slices of whatever elements, structs of slices. -/
namespace Go.St
open Go.ChangeShapes Go.WideShapes Go.ChangeAt Go.RowKit Go.Rg

section
variable {H : Type} {enc : TypeId × Value → H} {P : Program} {W : World}

/-- what the reading of one value gives: the cells are those of a thing that is good -/
def Tells (enc : TypeId × Value → H) (P : Program) (W : World) (e : TypeId) {α : Type} (c : α → List Value) (good : α → Prop) : Prop :=
  ∀ (fuel : Nat) (cs : List Value) (x : DataW H × List MemPlace), DataW.trod enc P W 0 (fun _ => true) true fuel e cs = some x → ∃ a, cs = c a ∧ good a

theorem tells_int {e : TypeId} {k : IntKind} (h : P.underlying e = some (.int k)) : Tells enc P W e (fun n : Int => [Value.int k n]) (fun n => (Lit.int k n).wf = true) := by
  intro fuel cs x hx
  obtain ⟨n, h1, _, h3⟩ := DataW.trod_int h hx
  exact ⟨n, h1, h3⟩
theorem tells_string {e : TypeId} (h : P.underlying e = some .string) : Tells enc P W e (fun s : ByteArray => [Value.string s]) (fun s => s.size ≤ maxLen) := by
  intro fuel cs x hx
  cases fuel with
  | zero => simp [DataW.trod] at hx
  | succ fuel =>
    unfold DataW.trod at hx
    simp only [h] at hx
    split at hx
    all_goals first | (simp_all; done) | skip
theorem tells_float {e : TypeId} {k : FloatKind} (h : P.underlying e = some (.float k)) : Tells enc P W e (fun n : Nat => [Value.float k n]) (fun _ => True) := by
  intro fuel cs x hx
  cases fuel with
  | zero => simp [DataW.trod] at hx
  | succ fuel =>
    unfold DataW.trod at hx
    simp only [h] at hx
    split at hx
    all_goals first | (simp_all; done) | skip

theorem addr_plain {w : World} {a : Addr} {v : Value} (h : w.cell? (a.add 0) = some v) : a = ⟨a.block, a.off, none⟩ := by
  obtain ⟨b, o, sp⟩ := a
  have : sp = none := by simpa [Addr.add] using World.cell?_spot h
  subst this; rfl

/-- a slice of elements -/
theorem slS_of_trod {t e : TypeId} {fuel : Nat} {cs : List Value} {x : DataW H × List MemPlace} {α : Type} [Inhabited α] {c : α → List Value} {good : α → Prop} {sz : Nat}
    (ht : P.underlying t = some (.slice e)) (hc : P.cellsOf e = sz) (hsz : 0 < sz) (hel : Tells enc P W e c good) (hcl : ∀ x, (c x).length = sz)
    (hf : DataW.trod enc P W 0 (fun _ => true) true fuel t cs = some x) :
    ∃ (v : Value) (xs : List α), cs = [v] ∧ SlS W v sz c xs ∧ (∀ x ∈ xs, good x) ∧ ((x.1.weights P t).all (· ≤ reachBytes) = true → xs.length * P.bytesOf e ≤ 140737488351232) := by
  rcases Deep.open_slice ht hf with ⟨h0, hx⟩ | ⟨a', len, m, m', n, D, Pl, h0, _, hl, hm, hmm, hx, hcell⟩
  · exact ⟨_, [], h0, SlS.nil _ _ _, (by intro x hx'; cases hx'), fun _ => by simp⟩
  · simp only [if_true] at hmm
    subst hmm
    rw [hc] at hcell
    have hch : ∀ i, i < len → ∃ x : α, W.cells? 0 (a'.add (i * sz)) sz = some (c x) ∧ good x := fun i hi => by
      obtain ⟨cs', h1, h2⟩ := hcell i (by omega)
      obtain ⟨x, rfl, hg⟩ := hel _ _ _ h2
      exact ⟨x, h1, hg⟩
    obtain ⟨f, hfx⟩ := Deep.choose_lt hch
    have hxs : ∀ i, i < len → nth ((List.range len).map f) i = f i := fun i hi => by simp [nth, hi]
    refine ⟨_, (List.range len).map f, h0, ⟨some a', m', by simp, by simpa using hl, hm, fun hpos => ?_⟩, ?_, ?_⟩
    · simp only [List.length_map, List.length_range] at hpos ⊢
      have h00 := (hfx 0 hpos).1
      obtain ⟨_, hlen, hat⟩ := World.cells?_some h00
      have hcell0 : ∃ u, W.cell? (a'.add 0) = some u := by
        have := hat 0 (by omega)
        simp [Deep.add_add] at this
        rw [List.getElem?_eq_getElem (by rw [hcl]; exact hsz)] at this
        exact ⟨_, this⟩
      obtain ⟨u, hu⟩ := hcell0
      have ha := addr_plain hu
      refine ⟨a'.block, a'.off, by rw [← ha], fun i hi j hj => ?_⟩
      obtain ⟨_, hlen', hat'⟩ := World.cells?_some (hfx i hi).1
      have h3 := hat' j (by omega)
      rw [hxs i hi]
      rw [Deep.add_add, ha, Addr.add_lit] at h3
      rw [Nat.add_assoc]
      exact h3
    · intro x hx'
      obtain ⟨i, hi, rfl⟩ := List.mem_map.1 hx'
      exact (hfx i (List.mem_range.1 hi)).2
    · intro hw
      have hd' : x.1 = .slice ((List.range len).map D) ((List.range (m' - len)).map fun j => D (len + j)) := by rw [hx]
      rw [hd'] at hw
      have := sized_slice (H := H) (P := P) (ts := [t]) (ds := [_]) (by simpa [DataW.weightsEach] using hw) (j := 0) rfl rfl ht
      simp only [List.length_map, List.length_range, reachBytes] at this
      simp only [List.length_map, List.length_range]
      exact Nat.le_trans (Nat.mul_le_mul_right _ (by omega)) this

theorem open_slS {t e : TypeId} {v : Value} {d : DataW H} {ps : List MemPlace} {r : Reach} {b0 : Nat} {α : Type} [Inhabited α] {c : α → List Value} {good : α → Prop} {sz : Nat}
    (ht : P.underlying t = some (.slice e)) (hc : P.cellsOf e = sz) (hsz : 0 < sz) (hel : Tells enc P W e c good) (hcl : ∀ x, (c x).length = sz)
    (hval : Value.okWide P W r b0 t v) (hd : DataW.Trod enc P W 0 (fun _ => true) true t v d ps) :
    ∃ xs : List α, SlS W v sz c xs ∧ (∀ x ∈ xs, good x) ∧ ((d.weights P t).all (· ≤ reachBytes) = true → xs.length * P.bytesOf e ≤ 140737488351232) := by
  obtain ⟨a, len, cap, rfl⟩ := okWide_slice ht hval
  obtain ⟨fuel, hf⟩ := hd
  obtain ⟨v, xs, h0, h1, h2, h3⟩ := slS_of_trod ht hc hsz hel hcl hf
  simp [Value.cells] at h0
  subst h0
  exact ⟨xs, h1, h2, h3⟩

theorem SlS.sl1 {α : Type} [Inhabited α] {w : World} {v : Value} {c : α → Value} {xs : List α} (h : SlS w v 1 (fun x => [c x]) xs) : Sl1 w v xs.length (fun i => c (nth xs i)) := by
  obtain ⟨a, cap, e, h1, h2, h3⟩ := h.ex
  refine ⟨a, cap, e, h1, h2, fun hp => ?_⟩
  obtain ⟨b, off, e2, h4⟩ := h3 hp
  exact ⟨b, off, e2, fun i hi => by simpa using h4 i hi 0 (by omega)⟩

theorem open_floats {t e : TypeId} {v : Value} {d : DataW H} {ps : List MemPlace} {r : Reach} {b0 : Nat}
    (ht : P.underlying t = some (.slice e)) (hc : P.cellsOf e = 1) (he : P.underlying e = some (.float .f64))
    (hval : Value.okWide P W r b0 t v) (hd : DataW.Trod enc P W 0 (fun _ => true) true t v d ps) : ∃ l : List Nat, Sl1 W v l.length (fun i => .float .f64 (nth l i)) := by
  obtain ⟨xs, h, _⟩ := open_slS (α := Nat) ht hc (by omega) (tells_float he) (fun _ => rfl) hval hd
  exact ⟨xs, h.sl1⟩

/-! ### keys, files, Versions -/
def GoodKey (k : IKey) : Prop := k.user.size ≤ maxLen ∧ (Lit.int .u64 k.seq).wf = true ∧ (Lit.int .i64 k.kind).wf = true
def GoodFile (f : File) : Prop := (Lit.int .i64 f.level).wf = true ∧ (Lit.int .u64 f.num).wf = true ∧ (Lit.int .i64 f.size).wf = true ∧ GoodKey f.small ∧ GoodKey f.large

/-- a struct, opened: each field's cells and its own reading -/
theorem trod_fields {t : TypeId} {fs : Array Field} {fuel : Nat} {cs : List Value} {x : DataW H × List MemPlace} (ht : P.underlying t = some (.struct fs))
    (h : DataW.trod enc P W 0 (fun _ => true) true fuel t cs = some x) : cs.length = P.cellsOf t ∧
    ∀ (i : Nat) (ty off : Nat), (fs.toList.map fun f => (f.type, f.offset))[i]? = some (ty, off) → ∃ n y, DataW.trod enc P W 0 (fun _ => true) true n ty ((cs.drop off).take (P.cellsOf ty)) = some y := by
  obtain ⟨xs, n, _, _, hl, hn, hx⟩ := DataW.trod_struct ht h
  refine ⟨hl, fun i ty off hi => ?_⟩
  rw [List.getElem?_map] at hi
  cases hf : fs.toList[i]? with
  | none => rw [hf] at hi; cases hi
  | some f =>
    rw [hf] at hi
    simp only [Option.map_some, Option.some.injEq, Prod.mk.injEq] at hi
    obtain ⟨rfl, rfl⟩ := hi
    have hlt : i < xs.length := by
      rw [hn]
      have := (List.getElem?_eq_some_iff.1 hf).1
      simpa using this
    have := hx i f (by simpa using hf)
    rw [List.getElem?_eq_getElem hlt] at this
    exact ⟨n, _, this⟩

theorem tells_key {e ts tu ti : TypeId} {fs : Array Field} (h : P.underlying e = some (.struct fs)) (hf : (fs.toList.map fun f => (f.type, f.offset)) = [(ts, 0), (tu, 1), (ti, 2)])
    (hc : P.cellsOf e = 3) (hs : P.underlying ts = some .string) (hs1 : P.cellsOf ts = 1) (hu : P.underlying tu = some (.int .u64)) (hu1 : P.cellsOf tu = 1) (hi : P.underlying ti = some (.int .i64)) (hi1 : P.cellsOf ti = 1) :
    Tells enc P W e eKey GoodKey := by
  intro fuel cs x hx
  obtain ⟨hl, hfl⟩ := trod_fields h hx
  rw [hc] at hl
  rw [hf] at hfl
  match cs, hl with
  | [c0, c1, c2], _ =>
    obtain ⟨n0, y0, h0⟩ := hfl 0 _ _ rfl
    obtain ⟨n1, y1, h1⟩ := hfl 1 _ _ rfl
    obtain ⟨n2, y2, h2⟩ := hfl 2 _ _ rfl
    rw [hs1] at h0
    rw [hu1] at h1
    rw [hi1] at h2
    obtain ⟨s, e0, g0⟩ := tells_string hs _ _ _ h0
    obtain ⟨q, e1, g1⟩ := tells_int hu _ _ _ h1
    obtain ⟨k, e2, g2⟩ := tells_int hi _ _ _ h2
    simp at e0 e1 e2
    subst e0; subst e1; subst e2
    exact ⟨⟨s, q, k⟩, rfl, g0, g1, g2⟩

theorem tells_file {e tk tu ti : TypeId} {fs : Array Field} (h : P.underlying e = some (.struct fs)) (hf : (fs.toList.map fun f => (f.type, f.offset)) = [(ti, 0), (tu, 1), (ti, 2), (tk, 3), (tk, 6)])
    (hc : P.cellsOf e = 9) (hk : Tells enc P W tk eKey GoodKey) (hk1 : P.cellsOf tk = 3) (hu : P.underlying tu = some (.int .u64)) (hu1 : P.cellsOf tu = 1) (hi : P.underlying ti = some (.int .i64)) (hi1 : P.cellsOf ti = 1) :
    Tells enc P W e eFile GoodFile := by
  intro fuel cs x hx
  obtain ⟨hl, hfl⟩ := trod_fields h hx
  rw [hc] at hl
  rw [hf] at hfl
  match cs, hl with
  | [c0, c1, c2, c3, c4, c5, c6, c7, c8], _ =>
    obtain ⟨n0, y0, h0⟩ := hfl 0 _ _ rfl
    obtain ⟨n1, y1, h1⟩ := hfl 1 _ _ rfl
    obtain ⟨n2, y2, h2⟩ := hfl 2 _ _ rfl
    obtain ⟨n3, y3, h3⟩ := hfl 3 _ _ rfl
    obtain ⟨n4, y4, h4⟩ := hfl 4 _ _ rfl
    rw [hi1] at h0 h2
    rw [hu1] at h1
    rw [hk1] at h3 h4
    obtain ⟨l, e0, g0⟩ := tells_int hi _ _ _ h0
    obtain ⟨m, e1, g1⟩ := tells_int hu _ _ _ h1
    obtain ⟨z, e2, g2⟩ := tells_int hi _ _ _ h2
    obtain ⟨a, e3, g3⟩ := hk _ _ _ h3
    obtain ⟨b, e4, g4⟩ := hk _ _ _ h4
    simp [eKey] at e0 e1 e2 e3 e4
    obtain ⟨rfl, rfl, rfl⟩ := e3
    obtain ⟨rfl, rfl, rfl⟩ := e4
    subst e0; subst e1; subst e2
    exact ⟨⟨l, m, z, a, b⟩, rfl, g0, g1, g2, g3, g4⟩

/-- a Version that is read: four slices of files -/
theorem ver_of_trod {t ta tl e : TypeId} {fs : Array Field} {fuel : Nat} {cs : List Value} {x : DataW H × List MemPlace} (h : P.underlying t = some (.struct fs)) (hf : (fs.toList.map fun f => (f.type, f.offset)) = [(ta, 0)])
    (hc : P.cellsOf t = 4) (ha : P.underlying ta = some (.array 4 tl)) (ha1 : P.cellsOf ta = 4) (hl1 : P.cellsOf tl = 1) (hl : P.underlying tl = some (.slice e)) (he : P.cellsOf e = 9) (hel : Tells enc P W e eFile GoodFile)
    (hx : DataW.trod enc P W 0 (fun _ => true) true fuel t cs = some x) :
    ∃ (v0 v1 v2 v3 : Value) (V : Nat → List File), cs = [v0, v1, v2, v3] ∧ SlFile W v0 (V 0) ∧ SlFile W v1 (V 1) ∧ SlFile W v2 (V 2) ∧ SlFile W v3 (V 3) ∧ ∀ i, i < 4 → ∀ f ∈ V i, GoodFile f := by
  obtain ⟨hlen, hfl⟩ := trod_fields h hx
  rw [hc] at hlen
  rw [hf] at hfl
  match cs, hlen with
  | [c0, c1, c2, c3], _ =>
    obtain ⟨n0, y0, h0⟩ := hfl 0 _ _ rfl
    rw [ha1] at h0
    obtain ⟨xs, m, _, _, _, hxl, hat⟩ := DataW.trod_array ha h0
    rw [hl1] at hat
    have one : ∀ i, i < 4 → ∃ y, DataW.trod enc P W 0 (fun _ => true) true m tl ((([c0, c1, c2, c3].drop 0).take 4).drop (i * 1) |>.take 1) = some y := fun i hi => by
      have := hat i hi
      rw [List.getElem?_eq_getElem (by omega)] at this
      exact ⟨_, this⟩
    obtain ⟨y0, k0⟩ := one 0 (by omega)
    obtain ⟨y1, k1⟩ := one 1 (by omega)
    obtain ⟨y2, k2⟩ := one 2 (by omega)
    obtain ⟨y3, k3⟩ := one 3 (by omega)
    obtain ⟨v0, x0, e0, s0, g0, _⟩ := slS_of_trod hl he (by omega) hel eFile_length k0
    obtain ⟨v1, x1, e1, s1, g1, _⟩ := slS_of_trod hl he (by omega) hel eFile_length k1
    obtain ⟨v2, x2, e2, s2, g2, _⟩ := slS_of_trod hl he (by omega) hel eFile_length k2
    obtain ⟨v3, x3, e3, s3, g3, _⟩ := slS_of_trod hl he (by omega) hel eFile_length k3
    simp at e0 e1 e2 e3
    subst e0; subst e1; subst e2; subst e3
    refine ⟨_, _, _, _, fun i => if i = 0 then x0 else if i = 1 then x1 else if i = 2 then x2 else x3, rfl, s0, s1, s2, s3, fun i hi f hf => ?_⟩
    obtain rfl | rfl | rfl | rfl : i = 0 ∨ i = 1 ∨ i = 2 ∨ i = 3 := by omega
    · exact g0 f hf
    · exact g1 f hf
    · exact g2 f hf
    · exact g3 f hf

theorem open_agg {t : TypeId} {fs : Array Field} {v : Value} {r : Reach} {b0 : Nat} (ht : P.underlying t = some (.struct fs)) (hval : Value.okWide P W r b0 t v) : ∃ cs, v = .agg cs := by
  obtain ⟨cs, h, _⟩ := okWide_struct ht hval
  exact ⟨cs, h⟩
end
end Go.St

/-! ## (LiftU) From a walk of a law to the law's row, of arguments whose bulk is bounded. -/
namespace Go.St
open Go.ChangeShapes Go.WideShapes Go.ChangeAt Go.RowKit Go.Rg

section
variable {H : Type} {enc : TypeId × Value → H} {P : Program}
theorem law_lifted_upto {C : Checked} {os : Os} {f : FuncId} {fn : Func} {S : OpenSpec} {k : (H : Type) → List (DataW H) → Bool} (hk : S.cond = some k) {F : Stop.Interp} {bt : TypeId}
    (own : ownKnob C.prog.godebug = none) (started : os.Started) (noInit : C.prog.inits.idxOf? f = none) (hfn : C.prog.funcs[f]? = some fn)
    (witness : ∃ (w : World) (tape : Tape) (i : Input), w.os = os ∧ (w.forCall tape i).Shaped C.prog ∧ i.vars = [] ∧ Input.okWide C.prog (w.forCall tape i) .any w.heap.size f i ∧
      S.pre6 enc C.prog fn [] false (w.forCall tape i).memory i.args ∧ ({} : Assume).holds C.prog (lone (Frame.enter C.prog f i.args .normal) [] (w.forCall tape i)))
    (hl : laidOutB C.prog = true) (hvars : S.vars = []) (hbt : C.prog.underlying bt = some .bool) (hres : fn.resultTypes = #[bt])
    (hread0 : (fn.params.toList.all fun t => C.prog.readableRec t && decide (t < C.prog.types.size)) = true)
    (hspec0 : ∀ (ds : List (DataW H)), ds.length = fn.params.toList.length → S.fn F H ds = ⟨[.lit (.bool true)], ds, []⟩)
    (walk : ∀ (W : World) (base : Nat) (args : Array Value) (ds : List (DataW H)) (p : List MemPlace),
      (∀ (j : Nat) t v, fn.params[j]? = some t → args[j]? = some v → Value.okWide C.prog W .any base t v) →
      DataW.TrodAll enc C.prog W 0 (fun _ => true) true fn.params.toList args.toList ds p →
      (DataW.weightsEach C.prog fn.params.toList ds).all (· ≤ reachBytes) = true → k H ds = true →
      Calls C.prog f args W fun e W' => e = .returned (.bool true) ∧ Ext W W') :
    ReturnsInHanded {} C os f .any (S.pre6 enc C.prog fn [] false) ((S.at F).post enc C.prog fn false true false false) := by
  have hread : ∀ t ∈ fn.params.toList, C.prog.readableRec t = true ∧ t < C.prog.types.size := fun t ht => by
    have := List.all_eq_true.1 hread0 t ht
    simpa using this
  have hspec : ∀ (W : World) (vs : List Value) (ds : List (DataW H)) (p : List MemPlace), DataW.TrodAll enc C.prog W 0 (fun _ => true) true fn.params.toList vs ds p → (S.at F).fn H (ds ++ []) = ⟨[.lit (.bool true)], ds, []⟩ := fun W vs ds p h => by
    rw [List.append_nil]; exact hspec0 ds (trodAll_length h)
  refine returnsInHanded_of_cond_sized hk own started noInit hfn witness ?_
  intro W base args ds gs before hval hW _ hkk hsz _
  have hW' := hW
  obtain ⟨p, q, hA, hV, rfl, hfz, hnd⟩ := hW
  rw [hvars] at hV
  obtain ⟨rfl, rfl⟩ := trodVars_none hV
  have hlt : ∀ x ∈ p, x.block < W.heap.size := fun x hx => hW'.lt x (List.mem_append.2 (.inl hx))
  have hvt : S.bare.plain.varTypes C.prog = [] := by
    unfold OpenSpec.bare ChangeSpec.plain DataSpec.varTypes
    simp [hvars]
  rw [hvt, List.append_nil, List.append_nil] at hsz
  rw [List.append_nil] at hkk
  refine (walk W base args ds p hval hA hsz hkk).mono fun e W' ⟨he, hb⟩ => ?_
  subst he
  refine ⟨_, rfl, ds, [], p ++ [], [], p, [], hW', ?_, ?_, ?_, hb.frame _, fun h => by cases h⟩
  · rw [hspec W _ ds p hA, hres]
    exact trodAll_mk1 (shut_bool hbt true)
  · rw [hspec W _ ds p hA]
    exact trodAll_below hl hb hread hlt hA
  · rw [hspec W _ ds p hA]
    rw [show (S.at F).vars = [] from hvars]
    rfl
end
end Go.St
namespace Go.Proofs.Ytjekfifnhdoamaa
open Go.ChangeShapes Go.WideShapes Go.ChangeAt Go.RowKit Go.Rg Go.St
variable {H : Type} {enc : TypeId × Value → H} {P : Program} {W : World}
theorem bulk_string {t : TypeId} (h : P.underlying t = some .string) {s : ByteArray} {d : DataW H} {ps : List MemPlace} (hd : DataW.Trod enc P W 0 (fun _ => true) true t (.string s) d ps) : s.size ≤ Rows.uptoBulk d := by
  obtain ⟨fuel, hf⟩ := hd
  cases fuel with
  | zero => simp [DataW.trod] at hf
  | succ fuel =>
    unfold DataW.trod at hf
    simp only [h, Value.cells] at hf
    split at hf
    · simp only [Option.some.injEq, Prod.mk.injEq] at hf
      rw [← hf.1]
      show s.size ≤ s.data.toList.length + 1
      exact Nat.le_succ _
    · cases hf
end Go.Proofs.Ytjekfifnhdoamaa
