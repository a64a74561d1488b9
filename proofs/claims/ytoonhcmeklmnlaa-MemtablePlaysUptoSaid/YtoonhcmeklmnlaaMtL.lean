/- Slices of texts, and a row of them: the part without a walk. -/
import Derived.Test.YtoonhcmeklmnlaaMtM
import Derived.Test.YtoonhcmeklmnlaaMtC
import Derived.OwnWalk
import Derived.Deep.RegionLaw
import Derived.Laws.CopyRow
set_option linter.unusedSimpArgs false
set_option linter.unusedVariables false
set_option linter.unnecessarySimpa false
namespace Go.Proofs.Ytoonhcmeklmnlaa
open Go.RowKit Go.Rg Go.St

/-- a row of one-cell elements, of which one is written -/
theorem row_use {w : World} {base : Nat} {E : TypeId} {n : Nat} {f : Nat → Value} {v : Value} (h : w.ownsRow base E 1 v n ((List.range n).map f)) (hn : 0 < n) :
    ∃ g cap, v = .slice (some ⟨g, 0, none⟩) n cap ∧ n ≤ cap ∧ cap ≤ maxLen ∧ base ≤ g ∧ (∃ cur, w.heap[g]? = some (.cells cur E (0, 0))) ∧ (∀ i, i < n → w.cell? ⟨g, i, none⟩ = some (f i)) ∧
      ∀ i u, i < n → (w.setCell ⟨g, i, none⟩ u).ownsRow base E 1 v n ((List.range n).map (upd f i u)) := by
  rcases h.2 with ⟨_, h0⟩ | ⟨g, cap, cur, h1, hb, hg, hn', hm, hcs, htk⟩
  · omega
  · rw [Nat.mul_one] at htk hcs
    have hcur : ∀ i, i < n → cur[i]? = some (f i) := fun i hi => by
      have e : (cur.toList.take n)[i]? = cur.toList[i]? := by rw [List.getElem?_take, if_pos (by omega)]
      rw [htk] at e
      simp [hi] at e
      exact e.symm
    refine ⟨g, cap, h1, hn', hm, hb, ⟨cur, hg⟩, fun i hi => ?_, fun i u hi => ?_⟩
    · rw [cell_of_row _ _ _ _ _ _ hg]; exact hcur i hi
    · refine ⟨by simp, .inr ⟨g, cap, cur.setIfInBounds i u, h1, hb, heap_setCell_same _ g i _ _ _ hg, hn', hm, by simp [hcs], ?_⟩⟩
      rw [Nat.mul_one]
      apply List.ext_getElem?
      intro j
      rw [List.getElem?_take]
      by_cases hj : j < n
      · rw [if_pos (by omega)]
        simp only [List.getElem?_map, List.getElem?_range hj, Option.map_some]
        rw [Array.getElem?_toList, Array.getElem?_setIfInBounds]
        by_cases e : i = j
        · subst e; rw [if_pos rfl, if_pos (by omega), upd_same]
        · rw [if_neg e, upd_other _ _ _ (Ne.symm e), hcur j hj]
      · rw [if_neg (by omega)]
        exact (List.getElem?_eq_none (by simp; omega)).symm
/-- a slice of texts, whose block is a row of texts -/
def SlT (w : World) (v : Value) (xs : List ByteArray) : Prop :=
  ∃ a cap, v = .slice a xs.length cap ∧ xs.length ≤ cap ∧ cap ≤ maxLen ∧ (0 < xs.length → ∃ b off, a = some ⟨b, off, none⟩ ∧ (∃ cs fr, w.heap[b]? = some (.cells cs 9 fr)) ∧ ∀ i, i < xs.length → w.cell? ⟨b, off + i, none⟩ = some (.string (nth xs i)))
theorem slT_owns {w : World} {base : Nat} {v : Value} {xs : List ByteArray} (h : w.ownsRow base 9 1 v xs.length (xs.map .string)) : SlT w v xs := by
  have hs := owns_str h rfl
  rcases h.2 with ⟨h1, h0⟩ | ⟨g, cap, cur, h1, hb, hg, hn', hm, hcs, htk⟩
  · exact ⟨none, 0, by rw [h1, h0], by omega, Nat.zero_le _, fun h => by omega⟩
  · refine ⟨_, cap, h1, hn', hm, fun hpos => ⟨g, 0, rfl, ⟨cur, _, hg⟩, fun i hi => ?_⟩⟩
    obtain ⟨a, c, e, _, _, hc⟩ := hs.ex
    obtain ⟨b, off, e2, hc⟩ := hc hpos
    rw [h1, e2] at e
    simp only [Value.slice.injEq, Option.some.injEq, Addr.mk.injEq] at e
    obtain ⟨⟨rfl, rfl, _⟩, _⟩ := e
    exact hc i hi
theorem SlT.ch {w w' : World} {F : Nat → Prop} {v : Value} {xs : List ByteArray} (h : SlT w v xs) (hC : Ch F w w') (hF : ∀ b cs fr, w.heap[b]? = some (.cells cs 9 fr) → ¬ F b) : SlT w' v xs := by
  obtain ⟨a, cap, e, h1, h2, h3⟩ := h
  refine ⟨a, cap, e, h1, h2, fun hp => ?_⟩
  obtain ⟨b, off, e2, ⟨cs, fr, hb⟩, hc⟩ := h3 hp
  have hb' := hC.block b (blk_lt hb) (hF b cs fr hb)
  refine ⟨b, off, e2, ⟨cs, fr, hb'.trans hb⟩, fun i hi => ?_⟩
  have := hc i hi
  unfold World.cell? at this ⊢
  rw [hb']
  exact this
theorem SlT.ext {w w' : World} {v : Value} {xs : List ByteArray} (h : SlT w v xs) (he : Ext w w') : SlT w' v xs := h.ch (Ch.of_ext he) (F := fun _ => False) fun _ _ _ _ => id
/-- the rest of a slice of texts -/
theorem SlT.tail {w : World} {m cap : Nat} {x : ByteArray} {xs : List ByteArray} {b off : Nat} (h : SlT w (.slice (some ⟨b, off, none⟩) m cap) (x :: xs)) {a' : Option Addr} (ha : 0 < xs.length → a' = some ⟨b, off + 1, none⟩) : SlT w (.slice a' xs.length (cap - 1)) xs := by
  obtain ⟨a0, cap0, e, h1, h2, h3⟩ := h
  simp only [Value.slice.injEq] at e
  obtain ⟨rfl, rfl, rfl⟩ := e
  rw [List.length_cons] at h1 h3
  refine ⟨a', cap - 1, rfl, by omega, by omega, fun hp => ?_⟩
  obtain ⟨b', off', e2, hb, hc⟩ := h3 (by omega)
  simp only [Option.some.injEq, Addr.mk.injEq] at e2
  obtain ⟨rfl, rfl, _⟩ := e2
  refine ⟨b, off + 1, ha hp, hb, fun i hi => ?_⟩
  have := hc (i + 1) (by omega)
  rw [show off + 1 + i = off + (i + 1) by omega, this]
  simp [nth]
theorem SlT.nil {w : World} {v : Value} (h : SlT w v []) : ∃ a cap, v = .slice a 0 cap := by
  obtain ⟨a, cap, e, _⟩ := h
  exact ⟨a, cap, e⟩
theorem SlT.cons {w : World} {v : Value} {x : ByteArray} {xs : List ByteArray} (h : SlT w v (x :: xs)) : ∃ b off cap, v = .slice (some ⟨b, off, none⟩) (xs.length + 1) cap ∧ w.cell? ⟨b, off, none⟩ = some (.string x) ∧ xs.length + 1 ≤ cap := by
  obtain ⟨a, cap, e, h1, h2, h3⟩ := h
  obtain ⟨b, off, rfl, _, hc⟩ := h3 (Nat.succ_pos _)
  exact ⟨b, off, cap, e, hc 0 (Nat.succ_pos _), h1⟩
/-- a row of slices of texts -/
def TX (B : Nat) (w : World) (tv : Value) (n : Nat) (R : Nat → List ByteArray) : Prop := ∃ f : Nat → Value, w.ownsRow B 32 1 tv n ((List.range n).map f) ∧ ∀ i, i < n → SlT w (f i) (R i)
theorem TX.zero (B : Nat) (w : World) (R : Nat → List ByteArray) : TX B w (.slice none 0 0) 0 R := ⟨fun _ => undef, World.ownsRow_nil _ _ _ _, fun i hi => absurd hi (Nat.not_lt_zero _)⟩
theorem TX.ext {B : Nat} {w w' : World} {tv : Value} {n : Nat} {R : Nat → List ByteArray} (h : TX B w tv n R) (he : Ext w w') : TX B w' tv n R := by
  obtain ⟨f, h1, h2⟩ := h
  exact ⟨f, owns_ext h1 he, fun i hi => (h2 i hi).ext he⟩
theorem TX.use {B : Nat} {w : World} {a : Option Addr} {n cap : Nat} {R : Nat → List ByteArray} (h : TX B w (.slice a n cap) n R) (hn : 0 < n) : ∃ (g : Nat) (f : Nat → Value), a = some ⟨g, 0, none⟩ ∧ B ≤ g ∧ (∃ cur, w.heap[g]? = some (.cells cur 32 (0, 0))) ∧ (∀ i, i < n → w.cell? ⟨g, i, none⟩ = some (f i)) ∧
    (∀ i, i < n → SlT w (f i) (R i)) ∧ ∀ i u, i < n → (w.setCell ⟨g, i, none⟩ u).ownsRow B 32 1 (.slice a n cap) n ((List.range n).map (upd f i u)) := by
  obtain ⟨f, h1, h2⟩ := h
  obtain ⟨g, c, e, _, _, hb, hc, hcell, hset⟩ := row_use h1 hn
  simp only [Value.slice.injEq, true_and] at e
  exact ⟨g, f, e.1, hb, hc, hcell, h2, hset⟩
theorem TX.ch {B : Nat} {w w' : World} {tv : Value} {n : Nat} {R : Nat → List ByteArray} {F : Nat → Prop} (h : TX B w tv n R) (hC : Ch F w w') (hF : ∀ b cs, w.heap[b]? = some (.cells cs 32 (0, 0)) → ¬ F b) (hS : ∀ b cs fr, w.heap[b]? = some (.cells cs 9 fr) → ¬ F b) : TX B w' tv n R := by
  obtain ⟨f, h1, h2⟩ := h
  refine ⟨f, owns_ch h1 fun g hg => ?_, fun i hi => (h2 i hi).ch hC hS⟩
  rcases h1.2 with ⟨e, _⟩ | ⟨g', cap, cur, e, _, hc, _⟩
  · rw [e] at hg; cases hg
  · rw [e] at hg
    simp [Value.ownBlock] at hg
    subst hg
    exact hC.block _ (blk_lt hc) (hF _ _ hc)
theorem TX.pop {B : Nat} {w : World} {g n cap : Nat} {R : Nat → List ByteArray} {f : Nat → Value} {j : Nat} {x : ByteArray} {xs : List ByteArray} {b off c : Nat} {a' : Option Addr} (hcur : ∃ cur, w.heap[g]? = some (.cells cur 32 (0, 0))) (hsl : ∀ i, i < n → SlT w (f i) (R i))
    (hset : ∀ i u, i < n → (w.setCell ⟨g, i, none⟩ u).ownsRow B 32 1 (.slice (some ⟨g, 0, none⟩) n cap) n ((List.range n).map (upd f i u))) (hj : j < n) (hR : R j = x :: xs) (hf : f j = .slice (some ⟨b, off, none⟩) (xs.length + 1) c) (ha : 0 < xs.length → a' = some ⟨b, off + 1, none⟩) :
    TX B (w.setCell ⟨g, j, none⟩ (.slice a' xs.length (c - 1))) (.slice (some ⟨g, 0, none⟩) n cap) n (popR R j) := by
  have hC : Ch (· = g) w (w.setCell ⟨g, j, none⟩ (.slice a' xs.length (c - 1))) := (Ch.rfl _ w).setC rfl
  have hF : ∀ b cs fr, w.heap[b]? = some (.cells cs 9 fr) → ¬ b = g := fun b cs fr hb => by
    obtain ⟨cur, hc⟩ := hcur
    exact cells_ne hb hc (by decide)
  refine ⟨upd f j (.slice a' xs.length (c - 1)), hset j _ hj, fun i hi => ?_⟩
  unfold popR
  by_cases e : i = j
  · subst e
    rw [upd_same, if_pos rfl, hR]
    have h1 := hsl i hi
    rw [hf, hR] at h1
    exact (h1.tail ha).ch hC hF
  · rw [upd_other _ _ _ e, if_neg e]
    exact (hsl i hi).ch hC hF
theorem range_snoc (f : Nat → Value) (n : Nat) (k : Value) : (List.range (n + 1)).map (upd f n k) = (List.range n).map f ++ [k] := by
  rw [List.range_succ, List.map_append]
  congr 1
  · exact List.map_congr_left fun i hi => upd_other _ _ _ (Nat.ne_of_lt (List.mem_range.1 hi))
  · simp [upd_same]
theorem TX.push {B : Nat} {w w' : World} {tv tv' : Value} {n : Nat} {R : Nat → List ByteArray} {f : Nat → Value} (ho : w.ownsRow B 32 1 tv n ((List.range n).map f)) (hs : ∀ i, i < n → SlT w (f i) (R i)) {o : Obj} {k : Value} (hk : SlT w k (R n)) (hg : (w.alloc o).grownBy w' tv.ownBlock)
    (ho' : w'.ownsRow B 32 1 tv' (n + 1) ((List.range n).map f ++ [k])) : TX B w' tv' (n + 1) R := by
  have hC : Ch (fun x => tv.ownBlock = some x) w w' := (Ch.of_ext ((Ext.rfl w).al o)).tr (grown_ch hg)
  have hF : ∀ b cs fr, w.heap[b]? = some (.cells cs 9 fr) → ¬ tv.ownBlock = some b := fun b cs fr hb => own_ne' ho hb (by decide)
  refine ⟨upd f n k, by rw [range_snoc]; exact ho', fun i hi => ?_⟩
  by_cases e : i = n
  · subst e; rw [upd_same]; exact hk.ch hC hF
  · rw [upd_other _ _ _ e]; exact (hs i (by omega)).ch hC hF
theorem flat_at {α : Type} [Inhabited α] {sz : Nat} {enc : α → List Value} (hl : ∀ x, (enc x).length = sz) : ∀ (xs : List α) (i j : Nat), i < xs.length → j < sz → (xs.flatMap enc)[i * sz + j]? = (enc (nth xs i))[j]?
  | [], i, j, hi, _ => absurd hi (Nat.not_lt_zero _)
  | x :: xs, 0, j, _, hj => by
    rw [List.flatMap_cons, Nat.zero_mul, Nat.zero_add, List.getElem?_append_left (by rw [hl]; exact hj)]
    rfl
  | x :: xs, i + 1, j, hi, hj => by
    rw [List.flatMap_cons, List.getElem?_append_right (by rw [hl, Nat.succ_mul]; omega), hl, show (i + 1) * sz + j - sz = i * sz + j by rw [Nat.succ_mul]; omega]
    rw [flat_at hl xs i j (by simpa using hi) hj]
    rfl
/-- many cells, read as a slice -/
theorem owns_slT {α : Type} [Inhabited α] {w : World} {base : Nat} {e : TypeId} {sz : Nat} {v : Value} {enc : α → List Value} {xs : List α} {n : Nat} (h : w.ownsRow base e sz v n (xs.flatMap enc)) (hn : n = xs.length) (hl : ∀ x, (enc x).length = sz) (hsz : 0 < sz) : SlS w v sz enc xs := by
  subst hn
  rcases h.2 with ⟨rfl, hx⟩ | ⟨g, cap, cur, rfl, _, hg, hnc, hcm, hcs, htk⟩
  · obtain rfl := List.eq_nil_of_length_eq_zero hx
    exact SlS.nil _ _ _
  · refine ⟨_, cap, rfl, hnc, hcm, fun _ => ⟨g, 0, rfl, fun i hi j hj => ?_⟩⟩
    have hlt : i * sz + j < xs.length * sz := by
      have : (i + 1) * sz ≤ xs.length * sz := Nat.mul_le_mul_right _ hi
      rw [Nat.succ_mul] at this
      omega
    rw [← flat_at hl xs i j hi hj, ← htk, List.getElem?_take, if_pos hlt, Nat.zero_add, cell_of_row _ _ _ cur e (0, 0) hg, Array.getElem?_toList]
/-- a key and its value -/
abbrev KVp := IKey × ByteArray
def eKV (x : KVp) : List Value := eKey x.1 ++ [.string x.2]
theorem eKV_length (x : KVp) : (eKV x).length = 4 := rfl
theorem eKV_one (x : KVp) : ∀ u ∈ eKV x, u.oneCell' = true := by
  intro u hu
  simp only [eKV, eKey, List.mem_append, List.mem_cons, List.mem_nil_iff, or_false] at hu
  rcases hu with (rfl | rfl | rfl) | rfl <;> rfl
theorem el_kv : ElT Try.prog 35 44 4 48 := ⟨Try.underlying35, by kernel_rfl, by decide, by decide⟩
theorem rowsE : ElT Try.prog 127 32 1 24 := ⟨Try.underlying127, by kernel_rfl, by decide, by decide⟩
theorem kv_info : (Try.prog.info? 44).map (fun i => (i.zero, i.size, i.bytes)) = some (some (.agg #[.string ByteArray.empty, .int .u64 0, .int .i64 0, .string ByteArray.empty]), 4, 48) := by kernel_rfl
theorem ext_none {w w' : World} (h : w.grownBy w' none) : Ext w w' := ⟨h.os, h.tape, h.output, h.size, fun k hk => h.block k hk (fun e => by cases e)⟩
/-- how far All is -/
structure AllR (w0 : World) (M : MT) (n N : Nat) (tv : Value) (g : Nat) (R : Nat → List ByteArray) (out : List KVp) (wr : World) : Prop where
  mrg : Mrg M n R out
  ext : Ext w0 wr
  tx : TX w0.heap.size wr tv n R
  row : wr.ownsRow w0.heap.size 44 4 (.slice (some ⟨g, 0, none⟩) out.length N) out.length (out.flatMap eKV)
  cnt : out.length + totR R n = N
def AllPost (M : MT) (w : World) (e : Ending) (w' : World) : Prop := ∃ v out, e = .returned v ∧ AllOf M out ∧ w'.ownsRow w.heap.size 44 4 v out.length (out.flatMap eKV) ∧ Ext w w' ∧ out.length = M.es.length
/-- append within the capacity, as one step of a region that draws -/
theorem step_append_fits {P : Program} {ops : Array Oper} {o : Oper} {a : Act} {w : World} {K : Act → World → Prop} {Q : Exit → Act → World → Prop} {E : Prop}
    (hg : o.guard = none) (s x : Operand) (t : TypeId) (hop : o.op = Op.call { callee := Callee.builtin Builtin.append, args := #[s, x], argTypes := #[t, t] })
    (base : Nat) (e : TypeId) (i : TypeInfo) (size : Nat) (h1 : P.underlying t = some (.slice e)) (h2 : P.info? e = some i) (h4 : i.size = size)
    (g k cap : Nat) (xs : List Value) (hs : a.eval s = .slice (some ⟨g, 0, none⟩) k cap) (hown : w.ownsRow base e size (.slice (some ⟨g, 0, none⟩) k cap) k xs) (ad : Addr) (m c : Nat) (news : List Value) (hx : a.eval x = .slice (some ad) m c) (hn : news.length = m * size)
    (hc : ∀ j u, news[j]? = some u → w.cell? (ad.add j) = some u) (h1c : ∀ u ∈ news, u.oneCell' = true) (b1 : k + m ≤ cap)
    (hK : ∀ w', w'.ownsRow base e size (.slice (some ⟨g, 0, none⟩) (k + m) cap) (k + m) (xs ++ news) → w.grownBy w' (some g) → K (a.put o.dst (.slice (some ⟨g, 0, none⟩) (k + m) cap)) w') :
    if Region.wanted o (yielded ops a.tmps) = true then Oper.wp P o a w K Q else E := by
  have hw : Region.wanted o (yielded ops a.tmps) = true := by simp [Region.wanted, hg]
  rw [if_pos hw]
  obtain ⟨w', hrun, r1, r2⟩ := run_append_fits (P := P) w base t o.type e i size h1 h2 h4 g k cap xs hown ad m c news hn hc h1c b1
  unfold Oper.wp
  simp [execOp, hop, resolve, invoke, builtin, hs, hx, hrun, Result.andThen]
  exact hK _ r1 r2
theorem news_at (w : World) (cs : Array Value) (T : TypeId) : ∀ j u, cs.toList[j]? = some u → (w.alloc (.cells cs T)).cell? ((⟨w.heap.size, 0, none⟩ : Addr).add j) = some u := by
  intro j u h
  rw [Addr.add_lit, cell_of_row _ _ _ cs T (0, 0) (heap_alloc_new w _), Nat.zero_add, ← Array.getElem?_toList]
  exact h
/-- copy into a row of the call's own, elements of whatever size -/
theorem run_copy_sz {P : Program} (w : World) (dT sT ty elem : TypeId) (g dLen dCap : Nat) (a : Addr) (sLen sCap : Nat) (cur : Array Value) (t : TypeId) (cs : List Value) (n sz : Nat)
    (hu : P.underlying dT = some (.slice elem)) (hs : (P.info? elem).map (·.size) = some sz) (hg : w.heap[g]? = some (.cells cur t (0, 0))) (hn : n = Nat.min sLen dLen) (hcl : cs.length = n * sz)
    (hsrc : ∀ j v, cs[j]? = some v → w.cell? (a.add j) = some v) (hfit : cs.length ≤ cur.size) (h1 : ∀ v ∈ cs, v.oneCell' = true) :
    (Builtin.copy_ #[dT, sT] ty #[.slice (some ⟨g, 0, none⟩) dLen dCap, .slice (some a) sLen sCap]).run P w = .ok (goInt n) (w.setRow g (cs ++ cur.toList.drop cs.length).toArray) := by
  have hl := run_loadCells_list (P := P) w a cs hsrc
  have hst := run_storeCells_at P g 0 t cs 0 cur w hg (by simpa using hfit) h1
  cases hq : P.info? elem with
  | none => simp [hq] at hs
  | some i =>
    have hi : i.size = sz := by simpa [hq] using hs
    rw [hcl] at hl
    simp [Builtin.copy_, run_underlying hu, Builtin.lenOf, Builtin.firstCells, sizeOf, typeInfo, hq, hi, ← hn, hl, hst]
theorem wpList_copy_sz {P : Program} {w : World} {ops : Array Oper} {rest : List Oper} {o : Oper} {a : Act} {Q : Exit → Act → World → Prop} (hgd : o.guard = none) (d s : Operand) (dT sT : TypeId)
    (ho : o.op = .call { callee := .builtin .copy, args := #[d, s], argTypes := #[dT, sT] }) (elem : TypeId) (sz : Nat) (hu : P.underlying dT = some (.slice elem)) (hsz : (P.info? elem).map (·.size) = some sz)
    (g dLen dCap : Nat) (ad : Addr) (sLen sCap : Nat) (hd : a.eval d = .slice (some ⟨g, 0, none⟩) dLen dCap) (hs : a.eval s = .slice (some ad) sLen sCap)
    (cur : Array Value) (t : TypeId) (hg : w.heap[g]? = some (.cells cur t (0, 0))) (cs : List Value) (n : Nat) (hn : n = Nat.min sLen dLen) (hcl : cs.length = n * sz)
    (hsrc : ∀ j v, cs[j]? = some v → w.cell? (ad.add j) = some v) (hfit : cs.length ≤ cur.size) (h1 : ∀ v ∈ cs, v.oneCell' = true)
    (h : wpList P ops Q rest (a.put o.dst (goInt n)) (w.setRow g (cs ++ cur.toList.drop cs.length).toArray)) : wpList P ops Q (o :: rest) a w := by
  refine wpList_plain hgd fun K hK => ?_
  have hrun := run_copy_sz (P := P) w dT sT o.type elem g dLen dCap ad sLen sCap cur t cs n sz hu hsz hg hn hcl hsrc hfit h1
  unfold Oper.wp
  simp [execOp, ho, resolve, invoke, builtin, hd, hs, hrun, Result.andThen]
  exact hK _ _ h
theorem owns_at {w : World} {base : Nat} {e : TypeId} {sz g n cap : Nat} {xs : List Value} (h : w.ownsRow base e sz (.slice (some ⟨g, 0, none⟩) n cap) n xs) : ∃ cur, w.heap[g]? = some (.cells cur e (0, 0)) ∧ cur.size = cap * sz ∧ cur.toList.take (n * sz) = xs ∧ base ≤ g ∧ n ≤ cap ∧ cap ≤ maxLen := by
  rcases h.2 with ⟨h1, _⟩ | ⟨g', cap', cur, h1, hb, hg, hn, hm, hcs, htk⟩
  · cases h1
  · simp only [Value.slice.injEq, Option.some.injEq, Addr.mk.injEq] at h1
    obtain ⟨⟨rfl, _, _⟩, _, rfl⟩ := h1
    exact ⟨cur, hg, hcs, htk, hb, hn, hm⟩
theorem owns_src {w : World} {base : Nat} {e : TypeId} {sz g n cap : Nat} {xs : List Value} (h : w.ownsRow base e sz (.slice (some ⟨g, 0, none⟩) n cap) n xs) : ∀ j v, xs[j]? = some v → w.cell? ((⟨g, 0, none⟩ : Addr).add j) = some v := by
  obtain ⟨cur, hg, _, htk, _⟩ := owns_at h
  intro j v hv
  rw [← htk, List.getElem?_take] at hv
  split at hv
  · rw [Addr.add_lit, Nat.zero_add, cell_of_row _ _ _ _ _ _ hg, ← Array.getElem?_toList]; exact hv
  · cases hv
theorem copy_owns {w : World} {base : Nat} {e : TypeId} {g N sz : Nat} {cs : List Value} {cur : Array Value} (hb : base ≤ g) (hg : w.heap[g]? = some (.cells cur e (0, 0))) (hcl : cs.length = N * sz) (hcur : cur.size = N * sz) (hm : N ≤ maxLen) :
    (w.setRow g (cs ++ cur.toList.drop cs.length).toArray).ownsRow base e sz (.slice (some ⟨g, 0, none⟩) N N) N cs ∧ Ch (· = g) w (w.setRow g (cs ++ cur.toList.drop cs.length).toArray) := by
  refine ⟨⟨by rw [hcl], .inr ⟨g, N, _, rfl, hb, setRow_heap w g cur _ e _ hg, Nat.le_refl _, hm, ?_, ?_⟩⟩, ⟨rfl, rfl, rfl, by simp [World.setRow], fun b _ hb => setRow_other w g b _ hb⟩⟩
  · simp [hcl, hcur]
  · rw [← hcl]; simp
theorem flat_one (out : List KVp) : ∀ v ∈ out.flatMap eKV, v.oneCell' = true := fun v hv => by
  obtain ⟨x, _, hx⟩ := List.mem_flatMap.1 hv
  exact eKV_one x v hx
theorem ext_far {w0 w w' : World} {F : Nat → Prop} (h : Ext w0 w) (k : Ch F w w') (hF : ∀ b, F b → w0.heap.size ≤ b) : Ext w0 w' := ((Ch.of_ext h).tr k).ext fun b hb hx => by have := hF b hx; omega
theorem AllR.step {w wo w5 wc : World} {M : MT} {n N g g2 ct : Nat} {R : Nat → List ByteArray} {out : List KVp} {j : Nat} {x : ByteArray} {xs : List ByteArray} {e : KVp} {a' : Option Addr} {f : Nat → Value} {b off c : Nat} (hM : MFull M) (h : AllR w M n N (.slice (some ⟨g2, 0, none⟩) n ct) g R out wo) (hG : w.heap.size ≤ g) (hG2 : w.heap.size ≤ g2)
    (hb : BestAt R n (j : Int)) (hR : R j = x :: xs) (he : e ∈ M.es) (hx : keyT e.1 = x) (hj : j < n) (E5 : Ext w w5) (hC : Ch (fun b => some g = some b) w5 wc) (hO : wc.ownsRow w.heap.size 44 4 (.slice (some ⟨g, 0, none⟩) (out.length + 1) N) (out.length + 1) (out.flatMap eKV ++ eKV e))
    (k1 : ∃ cur, wc.heap[g2]? = some (.cells cur 32 (0, 0))) (k2 : ∀ i, i < n → SlT wc (f i) (R i)) (k3 : ∀ i u, i < n → (wc.setCell ⟨g2, i, none⟩ u).ownsRow w.heap.size 32 1 (.slice (some ⟨g2, 0, none⟩) n ct) n ((List.range n).map (upd f i u)))
    (k4 : f j = .slice (some ⟨b, off, none⟩) (xs.length + 1) c) (ha : 0 < xs.length → a' = some ⟨b, off + 1, none⟩) :
    AllR w M n N (.slice (some ⟨g2, 0, none⟩) n ct) g (popR R j) (out ++ [e]) (wc.setCell ⟨g2, j, none⟩ (.slice a' xs.length (c - 1))) := by
  refine ⟨h.mrg.step hM.toMInv hb hR he hx hj, ?_, TX.pop k1 k2 k3 hj hR k4 ha, ?_, ?_⟩
  · refine ext_far (F := fun b => b = g ∨ b = g2) E5 ((hC.mono fun b _ hb => .inl (Option.some.inj hb).symm).setC (.inr rfl)) ?_
    rintro b (rfl | rfl)
    · exact hG
    · exact hG2
  · have hne : g ≠ g2 := fun e => by
      obtain ⟨cur, hc⟩ := k1
      exact own_ne' hO hc (by decide) (by rw [e]; rfl)
    rw [List.flatMap_append, List.length_append]
    rw [show [e].flatMap eKV = eKV e by simp]
    exact owns_ch hO fun b hb => heap_setCell_other _ _ _ _ (by
      have : g = b := by simpa [Value.ownBlock] using hb
      rw [← this]; exact hne)
  · have h1 := totR_pop hR hj
    have h2 := h.cnt
    rw [List.length_append]
    show out.length + 1 + _ = N
    omega
end Go.Proofs.Ytoonhcmeklmnlaa
