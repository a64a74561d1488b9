/- Small facts: names that the walk does not open, slices that are read, what was there stays. -/
import Derived.Test.YtjekfifnhdoamaaRgOps
set_option linter.unusedSimpArgs false
set_option linter.unusedVariables false
set_option linter.unnecessarySimpa false
namespace Go.St
open Go.RowKit Go.Rg

theorem hid {p : Prop} (h : p) : Hid p := h
theorem int_val {k : IntKind} {a b : Int} (h : a = b) : Value.int k a = Value.int k b := by rw [h]
theorem float_val {k : FloatKind} {a b : Nat} (h : a = b) : Value.float k a = Value.float k b := by rw [h]
theorem bool_val {a b : Bool} (h : a = b) : Value.bool a = Value.bool b := by rw [h]

/-- the k-th, or a zero one: a name that simp does not open -/
def nth {α : Type} [Inhabited α] (l : List α) (k : Nat) : α := l.getD k default
theorem nth_eq {α : Type} [Inhabited α] (l : List α) (k : Nat) (h : k < l.length) : nth l k = l[k] := by simp [nth, h]
theorem nth_map {α β : Type} [Inhabited α] [Inhabited β] (f : α → β) (l : List α) (k : Nat) (h : k < l.length) : nth (l.map f) k = f (nth l k) := by simp [nth, h]
theorem nth_mem {α : Type} [Inhabited α] (l : List α) (k : Nat) (h : k < l.length) : nth l k ∈ l := by rw [nth_eq l k h]; exact List.getElem_mem h
theorem take_succ_nth {α : Type} [Inhabited α] (l : List α) (k : Nat) (h : k < l.length) : l.take (k + 1) = l.take k ++ [nth l k] := by
  rw [nth_eq l k h, List.take_succ_eq_append_getElem h]
theorem ext_nth {α : Type} [Inhabited α] {l m : List α} (hl : l.length = m.length) (h : ∀ k, k < l.length → nth l k = nth m k) : l = m := by
  apply List.ext_getElem hl
  intro k h1 h2
  have := h k h1
  rwa [nth_eq l k h1, nth_eq m k h2] at this

theorem cell_lt {w : World} {b o : Nat} {v : Value} (h : w.cell? ⟨b, o, none⟩ = some v) : b < w.heap.size := block_lt_of_cell h
theorem ext_cell {w w' : World} (h : Ext w w') {b o : Nat} {v : Value} (hc : w.cell? ⟨b, o, none⟩ = some v) : w'.cell? ⟨b, o, none⟩ = some v :=
  (h.cell (p := ⟨b, o, none⟩) (cell_lt hc)).trans hc
theorem ext_cells {w w' : World} (h : Ext w w') : (∀ b o, b < w.heap.size → w'.cell? ⟨b, o, none⟩ = w.cell? ⟨b, o, none⟩) :=
  fun b o hb => h.cell (p := ⟨b, o, none⟩) hb
theorem ext_frozen {w w' : World} (h : Ext w w') : (∀ b o, b < w.heap.size → w'.frozen? ⟨b, o, none⟩ = w.frozen? ⟨b, o, none⟩) :=
  fun b o hb => h.frozen (p := ⟨b, o, none⟩) hb
theorem ext_below {w w' : World} {B : Nat} (h : Ext w w') (hB : B ≤ w.heap.size) : Below B w w' := Below.mono h hB
theorem below_drewN {B : Nat} {a w : World} (h : Below B a w) (n : Nat) : Below B a (w.drewN n) := ⟨h.os, h.tape, h.output, h.size, h.block⟩

/-- a cell of a block that was laid -/
theorem ext_new {w w' : World} {cs : Array Value} {T : TypeId} (h : Ext (w.alloc (.cells cs T)) w') (o : Nat) {v : Value} (hv : cs[o]? = some v) : w'.cell? ⟨w.heap.size, o, none⟩ = some v := by
  refine ext_cell h ?_
  rw [cell_of_row _ _ _ cs T (0, 0) (heap_alloc_new w _)]
  exact hv
theorem ext_of_new {w w' : World} {o : Obj} (h : Ext (w.alloc o) w') : Ext w w' := ((Ext.rfl w).al o).tr h
theorem ext_new_size {w w' : World} {o : Obj} (h : Ext (w.alloc o) w') : w.heap.size < w'.heap.size := by
  have := h.size
  have e : (w.alloc o).heap.size = w.heap.size + 1 := by show (w.heap.push o).size = _; simp
  omega

/-- a cell that is told by a list -/
theorem ext_cellq {w w' : World} (h : Ext w w') {b o j n : Nat} {l : List Value} (hc : w.cell? ⟨b, o, none⟩ = l[j]?) (hj : j < n) (hl : l.length = n) : w'.cell? ⟨b, o, none⟩ = l[j]? := by
  rw [List.getElem?_eq_getElem (by rw [hl]; exact hj)] at hc ⊢
  exact ext_cell h hc

/-- a slice over one-cell elements, read only -/
structure Sl1 (w : World) (v : Value) (n : Nat) (c : Nat → Value) : Prop where
  ex : ∃ a cap, v = .slice a n cap ∧ n ≤ cap ∧ cap ≤ maxLen ∧ (0 < n → ∃ b off, a = some ⟨b, off, none⟩ ∧ ∀ i, i < n → w.cell? ⟨b, off + i, none⟩ = some (c i))
theorem Sl1.go {w w' : World} {v : Value} {n : Nat} {c : Nat → Value} (h : Sl1 w v n c) (he : Ext w w') : Sl1 w' v n c := by
  obtain ⟨a, cap, e, h0, h1, h2⟩ := h.ex
  refine ⟨a, cap, e, h0, h1, fun hn => ?_⟩
  obtain ⟨b, off, e2, hc⟩ := h2 hn
  exact ⟨b, off, e2, fun i hi => ext_cell he (hc i hi)⟩
theorem Sl1.cong {w : World} {v : Value} {n : Nat} {c c' : Nat → Value} (h : Sl1 w v n c) (hc : ∀ i, i < n → c i = c' i) : Sl1 w v n c' := by
  obtain ⟨a, cap, e, h0, h1, h2⟩ := h.ex
  refine ⟨a, cap, e, h0, h1, fun hn => ?_⟩
  obtain ⟨b, off, e2, hcc⟩ := h2 hn
  exact ⟨b, off, e2, fun i hi => by rw [hcc i hi, hc i hi]⟩
theorem Sl1.nil (w : World) (c : Nat → Value) : Sl1 w (.slice none 0 0) 0 c := ⟨none, 0, rfl, Nat.le_refl _, Nat.zero_le _, fun h => absurd h (Nat.lt_irrefl _)⟩
def SV.sl1 (n : Nat) (c : Nat → Value) : SV := .rel (fun v w => Sl1 w v n c) (fun _ _ _ he h => h.go he)

/-- a slice over elements of so many cells, read only -/
structure SlS {α : Type} [Inhabited α] (w : World) (v : Value) (sz : Nat) (enc : α → List Value) (xs : List α) : Prop where
  ex : ∃ a cap, v = .slice a xs.length cap ∧ xs.length ≤ cap ∧ cap ≤ maxLen ∧
    (0 < xs.length → ∃ b off, a = some ⟨b, off, none⟩ ∧ ∀ i, i < xs.length → ∀ j, j < sz → w.cell? ⟨b, off + i * sz + j, none⟩ = (enc (nth xs i))[j]?)
theorem SlS.go {α : Type} [Inhabited α] {w w' : World} {v : Value} {sz : Nat} {enc : α → List Value} {xs : List α} (hl : ∀ x, (enc x).length = sz) (h : SlS w v sz enc xs) (he : Ext w w') : SlS w' v sz enc xs := by
  obtain ⟨a, cap, e, h0, h1, h2⟩ := h.ex
  refine ⟨a, cap, e, h0, h1, fun hn => ?_⟩
  obtain ⟨b, off, e2, hc⟩ := h2 hn
  refine ⟨b, off, e2, fun i hi j hj => ?_⟩
  have h3 := hc i hi j hj
  rw [List.getElem?_eq_getElem (by rw [hl]; exact hj)] at h3 ⊢
  exact ext_cell he h3
theorem SlS.nil {α : Type} [Inhabited α] (w : World) (sz : Nat) (enc : α → List Value) : SlS w (.slice none 0 0) sz enc ([] : List α) := ⟨none, 0, rfl, Nat.le_refl _, Nat.zero_le _, fun h => absurd h (Nat.lt_irrefl _)⟩

/-! ### slices that the call owns -/
structure ElT (P : Program) (T E : TypeId) (sz bt : Nat) : Prop where
  und : P.underlying T = some (.slice E)
  info : (P.info? E).map (fun i => (i.zero.map (·.cells.size), i.size, i.bytes)) = some (some sz, sz, bt)
  pos : 0 < sz
  bpos : 0 < bt

theorem ElT.parts {P : Program} {T E : TypeId} {sz bt : Nat} (h : ElT P T E sz bt) : ∃ i z, P.info? E = some i ∧ i.zero = some z ∧ i.size = sz ∧ i.bytes = bt ∧ z.cells.size = sz := by
  have hi := h.info
  cases hq : P.info? E with
  | none => rw [hq] at hi; cases hi
  | some i =>
    rw [hq] at hi
    simp only [Option.map_some, Option.some.injEq, Prod.mk.injEq] at hi
    cases hz : i.zero with
    | none => rw [hz] at hi; simp at hi
    | some z =>
      rw [hz] at hi
      simp at hi
      exact ⟨i, z, rfl, hz, hi.2.1, hi.2.2, hi.1⟩

theorem below_grown {w w' : World} {base : Nat} {e : TypeId} {sz : Nat} {v : Value} {n : Nat} {xs : List Value} (hown : w.ownsRow base e sz v n xs) (hb : base ≤ w.heap.size) (hg : w.grownBy w' v.ownBlock) : Below base w w' :=
  (Below.refl base w).grown hg hb fun k hk => (hown.lt k hk).1

section
variable {P : Program} {ops : Array Oper} {Q : Exit → Act → World → Prop} {rest : List Oper} {a : Act} {w : World} {d : Option Tmp} {ty : TypeId} {pos : String} {aft : Array Edge}
theorem wpList_app {s x : Operand} {T E : TypeId} {sz bt : Nat} (hT : ElT P T E sz bt) {base : Nat} {v : Value} {n : Nat} {xs : List Value} (hs : a.eval s = v) (hown : w.ownsRow base E sz v n xs)
    {ad : Addr} {m c : Nat} {news : List Value} (hx : a.eval x = .slice (some ad) m c) (hl : news.length = m * sz) (hnews : ∀ j u, news[j]? = some u → w.cell? (ad.add j) = some u) (h1 : ∀ u ∈ news, u.oneCell' = true)
    (hbytes : (n + m) * bt ≤ 140737488355328) (hbase : base ≤ w.heap.size)
    (h : ∀ v' w', w'.ownsRow base E sz v' (n + m) (xs ++ news) → w.grownBy w' v.ownBlock → Below base w w' → wpList P ops Q rest (a.put d v') w') :
    wpList P ops Q (⟨d, .call ⟨.builtin .append, #[s, x], #[T, T]⟩, ty, pos, aft, none⟩ :: rest) a w := by
  obtain ⟨i, z, hi, hz, h2, h3, h4⟩ := hT.parts
  have hm : n + m ≤ maxLen := by
    have := Nat.le_trans (Nat.le_mul_of_pos_right (n + m) hT.bpos) hbytes
    simp only [maxLen]; omega
  exact wpList_append_own w rfl s x T rfl base E i z sz bt hT.und hi hz h2 h3 h4 hT.pos v n xs hs hown ad m c news hx hl hnews h1 hm hbytes hbase fun v' w' k1 k2 _ => h v' w' k1 k2 (below_grown hown hbase k2)
end

theorem owns_ext {w w' : World} {base : Nat} {e : TypeId} {sz : Nat} {v : Value} {n : Nat} {xs : List Value} (hown : w.ownsRow base e sz v n xs) (h : Ext w w') : w'.ownsRow base e sz v n xs := by
  refine ⟨hown.1, ?_⟩
  rcases hown.2 with h0 | ⟨g, cap, cur, rfl, hb, hg, rest⟩
  · exact .inl h0
  · exact .inr ⟨g, cap, cur, rfl, hb, by rw [h.block g (Array.getElem?_eq_some_iff.1 hg).1]; exact hg, rest⟩
theorem owns_base {w : World} {base base' : Nat} {e : TypeId} {sz : Nat} {v : Value} {n : Nat} {xs : List Value} (hown : w.ownsRow base e sz v n xs) (h : base' ≤ base) : w.ownsRow base' e sz v n xs := by
  refine ⟨hown.1, ?_⟩
  rcases hown.2 with h0 | ⟨g, cap, cur, rfl, hb, rest⟩
  · exact .inl h0
  · exact .inr ⟨g, cap, cur, rfl, Nat.le_trans h hb, rest⟩

/-- what was there stays, by way of a world in which the call's own may have been written -/
theorem ext_via {a b c d : World} (h : Ext a b) (k : Ext b c) (l : Below a.heap.size c d) : Ext a d := (h.tr k).trans l

/-- one new cell, at the head of the newest block -/
theorem news_one (w : World) (u : Value) (T : TypeId) : ∀ j x, [u][j]? = some x → (w.alloc (.cells #[u] T)).cell? ((⟨w.heap.size, 0, none⟩ : Addr).add j) = some x := by
  intro j x hj
  cases j with
  | zero =>
    simp at hj
    subst hj
    show (w.alloc (.cells #[u] T)).cell? ⟨w.heap.size, 0, none⟩ = _
    rw [cell_of_row _ _ _ #[u] T (0, 0) (heap_alloc_new w _)]
    rfl
  | succ j => simp at hj

theorem owns_new (w : World) (cs : Array Value) (T : TypeId) (n sz base : Nat) (hs : cs.size = n * sz) (hb : base ≤ w.heap.size) (hn : n ≤ maxLen) : (w.alloc (.cells cs T)).ownsRow base T sz (.slice (some ⟨w.heap.size, 0, none⟩) n n) n cs.toList :=
  ⟨by simp [hs], .inr ⟨w.heap.size, n, cs, rfl, hb, heap_alloc_new w _, Nat.le_refl _, hn, hs, by rw [← hs, ← Array.length_toList, List.take_length]⟩⟩

theorem owns_sl1 {w : World} {base : Nat} {e : TypeId} {v : Value} {n : Nat} {xs : List Value} (h : w.ownsRow base e 1 v n xs) : Sl1 w v n (fun i => xs.getD i undef) := by
  rcases h.2 with ⟨rfl, rfl⟩ | ⟨g, cap, cur, rfl, _, hg, hnc, hcm, hcs, htk⟩
  · exact Sl1.nil w _
  · refine ⟨_, cap, rfl, hnc, hcm, fun _ => ⟨g, 0, rfl, fun i hi => ?_⟩⟩
    have hx : xs[i]? = cur[i]? := by rw [← htk, List.getElem?_take, if_pos (by omega)]; simp
    have hlt : i < cur.size := by omega
    rw [Nat.zero_add, cell_of_row _ _ _ cur e (0, 0) hg, ← hx]
    have : i < xs.length := by rw [h.1]; omega
    simp [this]

theorem sl1_new (w : World) (cs : Array Value) (E : TypeId) (n : Nat) (c : Nat → Value) (hs : cs.size = n) (hn : n ≤ maxLen) (hc : ∀ i, i < n → cs.getD i undef = c i) :
    Sl1 (w.alloc (.cells cs E)) (.slice (some ⟨w.heap.size, 0, none⟩) n n) n c := by
  refine ⟨_, n, rfl, Nat.le_refl _, hn, fun _ => ⟨w.heap.size, 0, rfl, fun i hi => ?_⟩⟩
  rw [Nat.zero_add, cell_of_row _ _ _ cs E (0, 0) (heap_alloc_new w _), ← hc i hi]
  have : i < cs.size := by omega
  simp [this]

/-- the cells of an element, written out -/
theorem SlS.at9 {α : Type} [Inhabited α] {w : World} {b off : Nat} {enc : α → List Value} {xs : List α} {k : Nat} (h : ∀ j, j < 9 → w.cell? ⟨b, off + k * 9 + j, none⟩ = (enc (nth xs k))[j]?) {c0 c1 c2 c3 c4 c5 c6 c7 c8 : Value}
    (e : enc (nth xs k) = [c0, c1, c2, c3, c4, c5, c6, c7, c8]) :
    w.cell? ⟨b, off + k * 9, none⟩ = some c0 ∧ w.cell? ⟨b, off + k * 9 + 1, none⟩ = some c1 ∧ w.cell? ⟨b, off + k * 9 + 2, none⟩ = some c2 ∧ w.cell? ⟨b, off + k * 9 + 3, none⟩ = some c3 ∧
    w.cell? ⟨b, off + k * 9 + 4, none⟩ = some c4 ∧ w.cell? ⟨b, off + k * 9 + 5, none⟩ = some c5 ∧ w.cell? ⟨b, off + k * 9 + 6, none⟩ = some c6 ∧ w.cell? ⟨b, off + k * 9 + 7, none⟩ = some c7 ∧
    w.cell? ⟨b, off + k * 9 + 8, none⟩ = some c8 := by
  rw [e] at h
  exact ⟨h 0 (by omega), h 1 (by omega), h 2 (by omega), h 3 (by omega), h 4 (by omega), h 5 (by omega), h 6 (by omega), h 7 (by omega), h 8 (by omega)⟩
end Go.St
