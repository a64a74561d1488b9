/- The walk of Begin. -/
import Derived.Test.YtoonhcmeklmnlaaSk3
import Derived.Test.YtoonhcmeklmnlaaMaps
import Derived.Maps.AppendAt
set_option linter.unusedSimpArgs false
set_option linter.unusedVariables false
set_option linter.unnecessarySimpa false
namespace Go.Proofs.Ytoonhcmeklmnlaa
open Go.RowKit Go.Rg Go.St

def setB (w : World) (b : Nat) (o : Obj) : World := { w with heap := w.heap.setIfInBounds b o }
theorem setB_same {w : World} {b : Nat} {o : Obj} (h : b < w.heap.size) : (setB w b o).heap[b]? = some o := by
  show (w.heap.setIfInBounds b o)[b]? = _
  simp [h]
theorem setB_other {w : World} {b k : Nat} {o : Obj} (h : k ≠ b) : (setB w b o).heap[k]? = w.heap[k]? := by
  show (w.heap.setIfInBounds b o)[k]? = _
  rw [Array.getElem?_setIfInBounds_ne (Ne.symm h)]
theorem setB_size (w : World) (b : Nat) (o : Obj) : (setB w b o).heap.size = w.heap.size := by
  show (w.heap.setIfInBounds b o).size = _
  simp
theorem Ch.setB {F : Nat → Prop} {w w0 : World} {b : Nat} {o : Obj} (h : Ch F w0 w) (hb : F b) : Ch F w0 (setB w b o) :=
  ⟨h.os, h.tape, h.output, by rw [setB_size]; exact h.size, fun k hk hf => by rw [setB_other (fun e => hf (by rw [e]; exact hb))]; exact h.block k hk hf⟩

section
variable {P : Program} {ops : Array Oper} {Q : Exit → Act → World → Prop} {rest : List Oper} {a : Act} {w : World} {d : Option Tmp} {ty : TypeId} {pos : String} {aft : Array Edge}
/-- append, and where the row lies then -/
theorem wpList_app_at {s x : Operand} {T E : TypeId} {sz bt : Nat} (hT : ElT P T E sz bt) {base : Nat} {v : Value} {n : Nat} {xs : List Value} (hs : a.eval s = v) (hown : w.ownsRow base E sz v n xs)
    {ad : Addr} {m c : Nat} {news : List Value} (hx : a.eval x = .slice (some ad) m c) (hl : news.length = m * sz) (hnews : ∀ j u, news[j]? = some u → w.cell? (ad.add j) = some u) (h1 : ∀ u ∈ news, u.oneCell' = true)
    (hbytes : (n + m) * bt ≤ 140737488355328) (hbase : base ≤ w.heap.size)
    (h : ∀ v' w', w'.ownsRow base E sz v' (n + m) (xs ++ news) → w.grownBy w' v.ownBlock → (v'.ownBlock = v.ownBlock ∨ v'.ownBlock = some w.heap.size) → wpList P ops Q rest (a.put d v') w') :
    wpList P ops Q (⟨d, .call ⟨.builtin .append, #[s, x], #[T, T]⟩, ty, pos, aft, none⟩ :: rest) a w := by
  obtain ⟨i, z, hi, hz, h2, h3, h4⟩ := hT.parts
  have hm : n + m ≤ maxLen := by
    have := Nat.le_trans (Nat.le_mul_of_pos_right (n + m) hT.bpos) hbytes
    simp only [maxLen]; omega
  exact wpList_append_own_at w rfl s x T rfl base E i z sz bt hT.und hi hz h2 h3 h4 hT.pos v n xs hs hown ad m c news hx hl hnews h1 hm hbytes hbase fun v' w' k1 k2 _ k3 => h v' w' k1 k2 k3
end
theorem ch_grown {F : Nat → Prop} {w0 w w' : World} {row : Option Nat} (h : Ch F w0 w) (hg : w.grownBy w' row) (hr : ∀ g, row = some g → F g) : Ch F w0 w' :=
  h.tr ⟨hg.os, hg.tape, hg.output, hg.size, fun k hk hf => hg.block k hk (fun e => hf (hr k e.symm))⟩

def keysM (K : SK) : List (ByteArray × Value) := (List.range K.n).map fun i => (K.key i, .bool true)
theorem Rep.map {w : World} {L : Loc} {K : SK} (h : Rep w L K) : MapIs w L.mb (fun s => .string s) (keysM K) := by
  obtain ⟨es, c, h1, h2⟩ := h.mp
  exact ⟨es, c, h1, by rw [h2]; simp [keysM]⟩
theorem keysM_lkp (K : SK) (k : ByteArray) {b : Bool} (hb : b = true ↔ ∃ i, i < K.n ∧ K.key i = k) : (lkp (keysM K) k).getD (.bool false) = .bool b := by
  unfold lkp
  cases hf : (keysM K).find? (fun p => p.1 == k) with
  | none =>
    rw [List.find?_eq_none] at hf
    have : b = false := by
      cases hbb : b with
      | false => rfl
      | true =>
        obtain ⟨i, hi, hk⟩ := hb.1 hbb
        exact absurd (by simpa using hk) (hf (K.key i, .bool true) (by simp only [keysM, List.mem_map, List.mem_range]; exact ⟨i, hi, rfl⟩))
    subst this; rfl
  | some p =>
    have h1 := List.find?_some hf
    have h2 := List.mem_of_find?_eq_some hf
    simp only [keysM, List.mem_map, List.mem_range] at h2
    obtain ⟨i, hi, rfl⟩ := h2
    have : b = true := hb.2 ⟨i, hi, by simpa using h1⟩
    subst this; rfl

theorem mapT : Try.prog.underlying 107 = some (.map 9 4) := by kernel_rfl
theorem strT : Try.prog.underlying 9 = some .string := by kernel_rfl
theorem boolI : (Try.prog.info? 4).map (·.zero) = some (some (.bool false)) := by kernel_rfl
theorem opsE : ElT Try.prog 106 110 1 8 := ⟨by kernel_rfl, by kernel_rfl, by decide, by decide⟩

theorem look_key {w : World} {L : Loc} {K : SK} (h : Rep w L K) (k : ByteArray) {b : Bool} (hb : b = true ↔ ∃ i, i < K.n ∧ K.key i = k) :
    (Instr.lookup 107 (.map (some L.mb)) (.string k) false).run Try.prog w = .ok (.bool b) w := by
  have hz := boolI
  cases hq : Try.prog.info? 4 with
  | none => rw [hq] at hz; cases hz
  | some i =>
    rw [hq] at hz
    simp at hz
    have := run_lookup (w := w) mapT (keyT_string strT) h.map k hq hz false
    rw [this]
    simp only [keysM_lkp K k hb]
    rfl

theorem put_key {w : World} {L : Loc} {K : SK} (h : Rep w L K) (k : ByteArray) (hno : ∀ i, i < K.n → K.key i ≠ k) :
    ∃ o, (∀ n, (Instr.mapUpdate 107 (.map (some L.mb)) (.string k) (.bool true)).run Try.prog (w.drewN n) = .ok () (setB (w.drewN n) L.mb o)) ∧
      ∃ es clock, o = .map es clock ∧ es.toList.map (fun e => (e.key, e.val)) = (List.range K.n).map (fun i => (Value.string (K.key i), Value.bool true)) ++ [(Value.string k, Value.bool true)] := by
  have hno' : ∀ p ∈ keysM K, p.1 ≠ k := by
    intro p hp
    simp only [keysM, List.mem_map, List.mem_range] at hp
    obtain ⟨i, hi, rfl⟩ := hp
    exact hno i hi
  obtain ⟨es, c, e1, e2⟩ := h.map
  have hf : (keysM K).findIdx? (fun p => p.1 == k) = none := by
    rw [List.findIdx?_eq_none_iff]
    intro p hp
    simpa using hno' p hp
  refine ⟨.map (es.push { key := .string k, val := .bool true, born := c }) (c + 1), fun n => ?_, _, _, rfl, ?_⟩
  · have e1' : (w.drewN n).heap[L.mb]? = some (.map es c) := e1
    have e1'' : w.heap[L.mb]? = some (.map es c) := e1
    unfold Instr.mapUpdate
    simp only [Sem.run_bind, run_underlying mapT, Result.andThen_ok, getObj, Sem.run, e1']
    rw [run_checkKey (keyT_string strT), Result.andThen_ok, run_findKey (keyT_string strT) k e2, Result.andThen_ok, hf]
    simp [setObj, Sem.run, e1', e1'', setB]
  · simp [e2, keysM]

/-- where the parts lie when one more is begun -/
def Loc.more (L : Loc) (n : Nat) (v : Value) (ob nb : Nat) : Loc := { L with ops := v, ob := upd L.ob n ob, nb := upd L.nb n nb }

theorem adr_more {L : Loc} {n : Nat} {v : Value} {ob nb : Nat} {r : Option Nat} (h : ∀ j, r = some j → j < n) : adr (L.more n v ob nb) r = adr L r := by
  cases r with
  | none => rfl
  | some j =>
    have := h j rfl
    simp only [adr, Loc.more]
    rw [upd_other _ _ _ (by omega)]
theorem refB_more {L : Loc} {n : Nat} {v : Value} {ob nb : Nat} {r : Option Nat} (h : ∀ j, r = some j → j < n) : refB (L.more n v ob nb) r = refB L r := by
  cases r with
  | none => rfl
  | some j =>
    have := h j rfl
    simp only [refB, Loc.more]
    rw [upd_other _ _ _ (by omega)]

theorem rep_begin {w w' : World} {L : Loc} {K : SK} (h : Rep w L K) (hI : Inv K) {k : ByteArray} {ht : Nat} {v' : Value} {ob nb : Nat} (hob : w.heap.size ≤ ob) (hnb : w.heap.size ≤ nb)
    (hch : Ch (fun b => b = L.lb ∨ b = L.mb ∨ L.ops.ownBlock = some b) w w')
    (hl : w'.heap[L.lb]? = some (.cells ((headC L (K.nxt none) K.room).setIfInBounds 10 v') 109 (0, 0)))
    (hm : ∃ es clock, w'.heap[L.mb]? = some (.map es clock) ∧ es.toList.map (fun e => (e.key, e.val)) = (List.range K.n).map (fun i => (Value.string (K.key i), Value.bool true)) ++ [(Value.string k, Value.bool true)])
    (hv : w'.ownsRow 0 110 1 v' (K.n + 1) ((List.range K.n).map (fun i => .pointer (some ⟨L.ob i, 0, none⟩)) ++ [.pointer (some ⟨ob, 0, none⟩)]))
    (hn : w'.heap[nb]? = some (.cells #[.string k, .pointer none, .pointer none, .pointer none, .pointer none, .pointer none, .pointer none, .pointer none, .pointer none] 105 (0, 0)))
    (ho : w'.heap[ob]? = some (.cells #[.pointer (some ⟨L.lb, 0, none⟩), .pointer (some ⟨nb, 0, none⟩), .int .i64 ht, .int .i64 0, .pointer (some ⟨L.lb, 0, none⟩), .int .i64 7, .pointer none, mth 89 ob] 112 (0, 0))) :
    Rep w' (L.more K.n v' ob nb) (beginK K k ht) := by
  have hlk : ∀ r, (∀ i, r = some i → i < K.n) → ∀ l, l < 8 → ∀ j, K.nxt r l = some j → j < K.n := fun r hr l hl j hj => by
    cases r with
    | none => exact (hI.link hl (fun i hi => by cases hi) hj).1
    | some i => exact hI.own i (hr i rfl) l j hj
  have hnode : ∀ (r : Option Nat), (∀ i, r = some i → i < K.n) → ∀ key, nodeC (L.more K.n v' ob nb) key (K.nxt r) = nodeC L key (K.nxt r) := fun r hr key => by
    unfold nodeC lnk
    rw [adr_more (hlk r hr 0 (by omega)), adr_more (hlk r hr 1 (by omega)), adr_more (hlk r hr 2 (by omega)), adr_more (hlk r hr 3 (by omega)), adr_more (hlk r hr 4 (by omega)), adr_more (hlk r hr 5 (by omega)), adr_more (hlk r hr 6 (by omega)), adr_more (hlk r hr 7 (by omega))]
  have keep : ∀ {b : Nat} {cs : Array Value} {T : TypeId}, w.heap[b]? = some (.cells cs T (0, 0)) → T ≠ 109 → T ≠ 110 → w'.heap[b]? = some (.cells cs T (0, 0)) := fun hb h1 h2 => by
    refine (hch.block _ (blk_lt hb) ?_).trans hb
    rintro (e | e | e)
    · subst e; exact cells_ne hb h.hd h1 rfl
    · subst e
      obtain ⟨es, c, hm', _⟩ := h.mp
      exact cells_map_ne hb hm' rfl
    · exact h.own_ne hb h2 e
  have hlt : ∀ {i}, i < K.n + 1 → i < K.n ∨ i = K.n := fun {i} hi => by omega
  refine ⟨?_, ?_, ?_, ?_, ?_, ?_, ?_⟩
  · have := hl
    simp only [beginK]
    rw [show (L.more K.n v' ob nb).lb = L.lb from rfl, hl]
    have e0 : ∀ l, l < 8 → lnk (L.more K.n v' ob nb) (K.nxt none) l = lnk L (K.nxt none) l := fun l hl => by unfold lnk; rw [adr_more (hlk none (fun i hi => by cases hi) l hl)]
    unfold headC
    rw [e0 0 (by omega), e0 1 (by omega), e0 2 (by omega), e0 3 (by omega), e0 4 (by omega), e0 5 (by omega), e0 6 (by omega), e0 7 (by omega)]
    rfl
  · intro i hi
    simp only [beginK] at hi ⊢
    rcases hlt hi with hi | rfl
    · rw [show (L.more K.n v' ob nb).nb i = L.nb i from upd_other _ _ _ (by omega), upd_other _ _ _ (show i ≠ K.n by omega), hnode (some i) (fun j hj => by cases hj; exact hi)]
      exact keep (h.nd i hi) (by decide) (by decide)
    · rw [show (L.more K.n v' ob nb).nb K.n = nb from upd_same _ _ _, upd_same, hn]
      unfold nodeC lnk
      simp only [hI.far _ _ (Nat.le_refl K.n)]
      rfl
  · intro i hi
    simp only [beginK] at hi
    rcases hlt hi with hi | rfl
    · have := keep (h.op i hi) (by decide) (by decide)
      rw [show (L.more K.n v' ob nb).ob i = L.ob i from upd_other _ _ _ (by omega), this]
      have hat : ∀ j, K.at_ i = some j → j < K.n := fun j hj => (hI.at_ i hi j hj).1
      unfold opK beginK
      simp only
      rw [show (L.more K.n v' ob nb).nb i = L.nb i from upd_other _ _ _ (by omega), show (L.more K.n v' ob nb).ob i = L.ob i from upd_other _ _ _ (by omega)]
      rw [upd_other _ _ _ (show i ≠ K.n by omega), upd_other _ _ _ (show i ≠ K.n by omega), upd_other _ _ _ (show i ≠ K.n by omega), upd_other _ _ _ (show i ≠ K.n by omega), upd_other _ _ _ (show i ≠ K.n by omega), upd_other _ _ _ (show i ≠ K.n by omega)]
      rw [refB_more hat, adr_more (fun j hj => hI.nxv i hi j hj)]
      rfl
    · rw [show (L.more K.n v' ob nb).ob K.n = ob from upd_same _ _ _, ho]
      unfold opK beginK
      simp only [upd_same]
      rw [show (L.more K.n v' ob nb).nb K.n = nb from upd_same _ _ _, show (L.more K.n v' ob nb).ob K.n = ob from upd_same _ _ _]
      rfl
  · show w'.ownsRow 0 _ 1 v' (K.n + 1) _
    have e : (List.range (beginK K k ht).n).map (fun i => Value.pointer (some ⟨(L.more K.n v' ob nb).ob i, 0, none⟩)) = (List.range K.n).map (fun i => .pointer (some ⟨L.ob i, 0, none⟩)) ++ [.pointer (some ⟨ob, 0, none⟩)] := by
      show (List.range (K.n + 1)).map _ = _
      rw [List.range_succ, List.map_append]
      congr 1
      · refine List.map_congr_left fun i hi => ?_
        rw [List.mem_range] at hi
        rw [show (L.more K.n v' ob nb).ob i = L.ob i from upd_other _ _ _ (by omega)]
      · simp only [List.map_cons, List.map_nil]
        rw [show (L.more K.n v' ob nb).ob K.n = ob from upd_same _ _ _]
    rw [e]; exact hv
  · obtain ⟨es, c, h1, h2⟩ := hm
    refine ⟨es, c, h1, ?_⟩
    rw [h2]
    show _ = (List.range (K.n + 1)).map _
    rw [List.range_succ, List.map_append]
    congr 1
    · refine List.map_congr_left fun i hi => ?_
      rw [List.mem_range] at hi
      simp only [beginK]
      rw [upd_other _ _ _ (show i ≠ K.n by omega)]
    · simp only [List.map_cons, List.map_nil, beginK, upd_same]
  · intro i j hi hj he
    simp only [beginK] at hi hj
    rcases hlt hi with hi | rfl <;> rcases hlt hj with hj | rfl
    · rw [show (L.more K.n v' ob nb).ob i = L.ob i from upd_other _ _ _ (by omega), show (L.more K.n v' ob nb).ob j = L.ob j from upd_other _ _ _ (by omega)] at he
      exact h.io i j hi hj he
    · rw [show (L.more K.n v' ob nb).ob i = L.ob i from upd_other _ _ _ (by omega), show (L.more K.n v' ob nb).ob K.n = ob from upd_same _ _ _] at he
      have := blk_lt (h.op i hi); omega
    · rw [show (L.more K.n v' ob nb).ob j = L.ob j from upd_other _ _ _ (by omega), show (L.more K.n v' ob nb).ob K.n = ob from upd_same _ _ _] at he
      have := blk_lt (h.op j hj); omega
    · rfl
  · intro i j hi hj he
    simp only [beginK] at hi hj
    rcases hlt hi with hi | rfl <;> rcases hlt hj with hj | rfl
    · rw [show (L.more K.n v' ob nb).nb i = L.nb i from upd_other _ _ _ (by omega), show (L.more K.n v' ob nb).nb j = L.nb j from upd_other _ _ _ (by omega)] at he
      exact h.im i j hi hj he
    · rw [show (L.more K.n v' ob nb).nb i = L.nb i from upd_other _ _ _ (by omega), show (L.more K.n v' ob nb).nb K.n = nb from upd_same _ _ _] at he
      have := blk_lt (h.nd i hi); omega
    · rw [show (L.more K.n v' ob nb).nb j = L.nb j from upd_other _ _ _ (by omega), show (L.more K.n v' ob nb).nb K.n = nb from upd_same _ _ _] at he
      have := blk_lt (h.nd j hj); omega
    · rfl
end Go.Proofs.Ytoonhcmeklmnlaa
