/- The two maps of a table get an entry, in whatever order: the claim that goes by what has been done. -/
import Derived.Test.YtoonhcmeklmnlaaMt13
import Derived.Test.YtoonhcmeklmnlaaRgN
set_option linter.unusedSimpArgs false
set_option linter.unusedVariables false
set_option linter.unnecessarySimpa false
set_option linter.unusedSectionVars false
namespace Go.Proofs.Ytoonhcmeklmnlaa
open Go.RowKit Go.Rg Go.St

section
variable {P : Program} {w : World} {α : Type} [BEq α] [LawfulBEq α] {enc : α → Value}
theorem run_entryC {mt kt et : TypeId} (hm : P.underlying mt = some (.map kt et)) (hk : KeyF P kt enc) {b c : Nat} {es : Array MapEntry} {l : List (α × Value)} (h1 : w.heap[b]? = some (.map es c)) (h2 : es.toList.map (fun e => (e.key, e.val)) = l.map (fun p => (enc p.1, p.2))) (k : α) {i : TypeInfo} {z : Value} (hi : P.info? et = some i) (hz : i.zero = some z) (hno : fnd l k = none) :
    (Instr.mapEntry mt (.map (some b)) (enc k)).run P w = .ok (.tuple #[z, .int .i64 (c : Nat)]) (setB w b (.map (es.push { key := enc k, val := z, born := c }) (c + 1))) := by
  unfold Instr.mapEntry
  simp only [Sem.run_bind, run_underlying hm, Result.andThen_ok, getObj, Sem.run, h1, Sem.run_pure]
  rw [hk.check, Result.andThen_ok, hk.find k _ l _ h2, Result.andThen_ok, hno]
  simp [zeroValue, typeInfo, hi, hz, setObj, Sem.run, h1, goInt, setB]
theorem run_storeC {mt : TypeId} {b c cl : Nat} {es : Array MapEntry} {key z : Value} (h1 : w.heap[b]? = some (.map (es.push { key := key, val := z, born := c }) cl)) (h3 : ∀ e, e ∈ es.toList → e.born < c) (v : Value) :
    (Instr.entryStore mt (.map (some b)) (.int .i64 (c : Nat)) v).run P w = .ok () (setB w b (.map (es.push { key := key, val := v, born := c }) cl)) := by
  have hf : (es.push { key := key, val := z, born := c }).findIdx? (fun e => (e.born : Int) == (c : Int)) = some es.size := by
    rw [Array.findIdx?_eq_some_iff_getElem]
    refine ⟨by simp, by simp, fun j hj => ?_⟩
    have hje : (es.push { key := key, val := z, born := c })[j]'(by simp; omega) = es[j] := by simp [Array.getElem_push, hj]
    rw [hje]
    have := h3 es[j] (by simp)
    simp; omega
  have hmod : (es.push { key := key, val := z, born := c }).modify es.size (fun e => { e with val := v }) = es.push { key := key, val := v, born := c } := by
    apply Array.ext
    · simp
    · intro i h1 h2
      rw [Array.getElem_modify]
      by_cases e : es.size = i
      · subst e; simp
      · rw [if_neg e]
        have hi : i < es.size := by simp at h2; omega
        simp [Array.getElem_push, hi]
  unfold Instr.entryStore
  simp only [Sem.run_bind, Result.andThen_ok, getObj, Sem.run, h1, Sem.run_pure]
  simp only [asInt, asIntOf, Sem.run_bind, Sem.run_pure, Result.andThen_ok]
  rw [hf]
  simp only []
  rw [hmod]
  simp [setObj, Sem.run, h1, setB]
end

def objK (a b : Bool) (es : Array MapEntry) (c : Nat) (key z v : Value) : Obj := if b then .map (es.push { key := key, val := v, born := c }) (c + 1) else if a then .map (es.push { key := key, val := z, born := c }) (c + 1) else .map es c
/-- what is there, by what has been done -/
structure PutI (w0 : World) (T : TLoc) (M : MT) (bx : Nat) (k : IKey) (v S : ByteArray) (es1 : Array MapEntry) (c1 : Nat) (es2 : Array MapEntry) (c2 : Nat) (L : Nat → Bool) (w' : World) : Prop where
  tb : w'.heap[T.tb]? = some (.cells (tabC T M) 121 (0, 0))
  bx : w'.heap[bx]? = some (.cells #[.string k.user, .int .u64 k.seq, .int .i64 k.kind] 42 (0, 0))
  km : w'.heap[T.kb]? = some (objK (L 12) (L 14) es1 c1 (.string S) (aKey zKey) (aKey k))
  vm : w'.heap[T.vb]? = some (objK (L 15) (L 17) es2 c2 (aKey k) (.string ByteArray.empty) (.string v))
  ch : Ch (fun b => b = T.kb ∨ b = T.vb) w0 w'
  o1 : L 14 = true → L 12 = true
  o2 : L 17 = true → L 15 = true
section
variable {w0 w w' : World} {T : TLoc} {M : MT} {bx : Nat} {k : IKey} {v S : ByteArray} {es1 es2 : Array MapEntry} {c1 c2 : Nat} {L : Nat → Bool}
theorem setL_same (L : Nat → Bool) (i : Nat) : setL L i i = true := if_pos rfl
theorem setL_other (L : Nat → Bool) {i j : Nat} (h : j ≠ i) : setL L i j = L j := if_neg h
theorem PutI.ext (h : PutI w0 T M bx k v S es1 c1 es2 c2 L w) (he : Ext w w') : PutI w0 T M bx k v S es1 c1 es2 c2 L w' :=
  ⟨(he.block _ (blk_lt h.tb)).trans h.tb, (he.block _ (blk_lt h.bx)).trans h.bx, (he.block _ (blk_lt h.km)).trans h.km, (he.block _ (blk_lt h.vm)).trans h.vm, h.ch.tr (Ch.of_ext he), h.o1, h.o2⟩
theorem PutI.read (h : PutI w0 T M bx k v S es1 c1 es2 c2 L w) (he : Ext w w') {i : Nat} (hi : i ≠ 12 ∧ i ≠ 14 ∧ i ≠ 15 ∧ i ≠ 17) : PutI w0 T M bx k v S es1 c1 es2 c2 (setL L i) w' := by
  have h' := h.ext he
  have e1 := setL_other L (Ne.symm hi.1)
  have e2 := setL_other L (Ne.symm hi.2.1)
  have e3 := setL_other L (Ne.symm hi.2.2.1)
  have e4 := setL_other L (Ne.symm hi.2.2.2)
  exact ⟨h'.tb, h'.bx, by rw [e1, e2]; exact h'.km, by rw [e3, e4]; exact h'.vm, h'.ch, by rw [e1, e2]; exact h'.o1, by rw [e3, e4]; exact h'.o2⟩
theorem map_ne_cells {a b : Nat} {ca : Array Value} {ta : TypeId} {fa : Nat × Nat} {o : Obj} (ha : w.heap[a]? = some (.cells ca ta fa)) (hb : w.heap[b]? = some o) (ho : ∀ c t f, o ≠ .cells c t f) : a ≠ b := by
  rintro rfl
  rw [ha] at hb
  exact ho _ _ _ (Option.some.inj hb).symm
theorem objK_map (a b : Bool) (es : Array MapEntry) (c : Nat) (key z v : Value) : ∀ x t f, objK a b es c key z v ≠ .cells x t f := by
  intro x t f e
  unfold objK at e
  cases b <;> cases a <;> simp at e
theorem PutI.set1 (h : PutI w0 T M bx k v S es1 c1 es2 c2 L w) (hne : T.kb ≠ T.vb) {L' : Nat → Bool} (h3 : L' 15 = L 15) (h4 : L' 17 = L 17) (ho1 : L' 14 = true → L' 12 = true) {o : Obj} (ho : o = objK (L' 12) (L' 14) es1 c1 (.string S) (aKey zKey) (aKey k)) :
    PutI w0 T M bx k v S es1 c1 es2 c2 L' (setB w T.kb o) :=
  ⟨(setB_other (map_ne_cells h.tb h.km (objK_map _ _ _ _ _ _ _))).trans h.tb, (setB_other (map_ne_cells h.bx h.km (objK_map _ _ _ _ _ _ _))).trans h.bx, by rw [ho]; exact setB_same (blk_lt h.km), (setB_other (Ne.symm hne)).trans (by rw [h3, h4]; exact h.vm), h.ch.setB (.inl rfl), ho1, by rw [h3, h4]; exact h.o2⟩
theorem PutI.set2 (h : PutI w0 T M bx k v S es1 c1 es2 c2 L w) (hne : T.kb ≠ T.vb) {L' : Nat → Bool} (h3 : L' 12 = L 12) (h4 : L' 14 = L 14) (ho2 : L' 17 = true → L' 15 = true) {o : Obj} (ho : o = objK (L' 15) (L' 17) es2 c2 (aKey k) (.string ByteArray.empty) (.string v)) :
    PutI w0 T M bx k v S es1 c1 es2 c2 L' (setB w T.vb o) :=
  ⟨(setB_other (map_ne_cells h.tb h.vm (objK_map _ _ _ _ _ _ _))).trans h.tb, (setB_other (map_ne_cells h.bx h.vm (objK_map _ _ _ _ _ _ _))).trans h.bx, (setB_other hne).trans (by rw [h3, h4]; exact h.km), by rw [ho]; exact setB_same (blk_lt h.vm), h.ch.setB (.inr rfl), by rw [h3, h4]; exact h.o1, ho2⟩
end

/-- what is laid, ahead -/
structure PutF (T : TLoc) (M : MT) (k : IKey) (S : ByteArray) (es1 : Array MapEntry) (c1 : Nat) (es2 : Array MapEntry) (c2 : Nat) : Prop where
  p1 : es1.toList.map (fun e => (e.key, e.val)) = (kmap M).map (fun p => (strEnc p.1, p.2))
  b1 : ∀ e, e ∈ es1.toList → e.born < c1
  p2 : es2.toList.map (fun e => (e.key, e.val)) = (vmap M).map (fun p => (aKey p.1, p.2))
  b2 : ∀ e, e ∈ es2.toList → e.born < c2
  f1 : fnd (kmap M) S = none
  f2 : fnd (vmap M) k = none
  ne : T.kb ≠ T.vb
section
variable {w0 w w' : World} {T : TLoc} {M : MT} {bx : Nat} {k : IKey} {v S : ByteArray} {es1 es2 : Array MapEntry} {c1 c2 : Nat} {L : Nat → Bool} {d : Option Tmp} {ty : TypeId} {pos : String} {aft : Array Edge} {ρ : Operand → Value} {x y z : Operand}
set_option maxRecDepth 100000 in
theorem put_e12 (F : PutF T M k S es1 c1 es2 c2) (hx : [x, y].map ρ = [.map (some T.kb), .string S]) (h : PutI w0 T M bx k v S es1 c1 es2 c2 L w) (hL : L 12 = false) :
    UponN Try.prog (.tuple #[aKey zKey, .int .i64 (c1 : Nat)]) (PutI w0 T M bx k v S es1 c1 es2 c2 (setL L 12)) ((execOp ρ ⟨d, .mapEntry 118 x y, ty, pos, aft, none⟩).run Try.prog w) := by
  simp only [List.map_cons, List.map_nil, List.cons.injEq, and_true] at hx
  obtain ⟨hx, hy⟩ := hx
  have h14 : L 14 = false := by
    cases e : L 14
    · rfl
    · rw [h.o1 e] at hL; cases hL
  have hm := h.km
  rw [hL, h14] at hm
  obtain ⟨i, hi, hz⟩ := ikeyZ
  have hr := run_entryC kmapT strK (es := es1) (c := c1) hm F.p1 S hi hz F.f1
  have e : (execOp ρ ⟨d, .mapEntry 118 x y, ty, pos, aft, none⟩).run Try.prog w = .ok (.value (.tuple #[aKey zKey, .int .i64 (c1 : Nat)])) (setB w T.kb (.map (es1.push { key := strEnc S, val := aKey zKey, born := c1 }) (c1 + 1))) := by
    simp only [execOp, hx, hy, Sem.run_bind]
    rw [show (Value.string S) = strEnc S from rfl, hr]
    rfl
  rw [e]
  refine ⟨rfl, h.set1 F.ne (setL_other L (by decide)) (setL_other L (by decide)) (fun _ => setL_same L 12) ?_⟩
  rw [setL_same, setL_other L (by decide), h14]
  rfl
set_option maxRecDepth 100000 in
theorem put_s14 (F : PutF T M k S es1 c1 es2 c2) (hx : [x, y, z].map ρ = [.map (some T.kb), .int .i64 (c1 : Nat), aKey k]) (h : PutI w0 T M bx k v S es1 c1 es2 c2 L w) (hL : L 14 = false) (hL2 : L 12 = true) :
    UponN Try.prog undef (PutI w0 T M bx k v S es1 c1 es2 c2 (setL L 14)) ((execOp ρ ⟨d, .entryStore 118 x y z, ty, pos, aft, none⟩).run Try.prog w) := by
  simp only [List.map_cons, List.map_nil, List.cons.injEq, and_true] at hx
  obtain ⟨hx, hy, hz⟩ := hx
  have hm := h.km
  rw [hL, hL2] at hm
  have hr := run_storeC (P := Try.prog) (mt := 118) (es := es1) (c := c1) hm F.b1 (aKey k)
  have e : (execOp ρ ⟨d, .entryStore 118 x y z, ty, pos, aft, none⟩).run Try.prog w = .ok .skip (setB w T.kb (.map (es1.push { key := .string S, val := aKey k, born := c1 }) (c1 + 1))) := by
    simp only [execOp, hx, hy, hz, Sem.run_bind]
    rw [hr]
    rfl
  rw [e]
  refine ⟨rfl, h.set1 F.ne (setL_other L (by decide)) (setL_other L (by decide)) (fun _ => by rw [setL_other L (by decide)]; exact hL2) ?_⟩
  rw [setL_same]
  rfl
set_option maxRecDepth 100000 in
theorem put_e15 (F : PutF T M k S es1 c1 es2 c2) (hx : [x, y].map ρ = [.map (some T.vb), aKey k]) (h : PutI w0 T M bx k v S es1 c1 es2 c2 L w) (hL : L 15 = false) :
    UponN Try.prog (.tuple #[.string ByteArray.empty, .int .i64 (c2 : Nat)]) (PutI w0 T M bx k v S es1 c1 es2 c2 (setL L 15)) ((execOp ρ ⟨d, .mapEntry 119 x y, ty, pos, aft, none⟩).run Try.prog w) := by
  simp only [List.map_cons, List.map_nil, List.cons.injEq, and_true] at hx
  obtain ⟨hx, hy⟩ := hx
  have h17 : L 17 = false := by
    cases e : L 17
    · rfl
    · rw [h.o2 e] at hL; cases hL
  have hm := h.vm
  rw [hL, h17] at hm
  obtain ⟨i, hi, hz⟩ := strZ
  have hr := run_entryC vmapT keyF_ikey (es := es2) (c := c2) hm F.p2 k hi hz F.f2
  have e : (execOp ρ ⟨d, .mapEntry 119 x y, ty, pos, aft, none⟩).run Try.prog w = .ok (.value (.tuple #[.string ByteArray.empty, .int .i64 (c2 : Nat)])) (setB w T.vb (.map (es2.push { key := aKey k, val := .string ByteArray.empty, born := c2 }) (c2 + 1))) := by
    simp only [execOp, hx, hy, Sem.run_bind]
    rw [hr]
    rfl
  rw [e]
  refine ⟨rfl, h.set2 F.ne (setL_other L (by decide)) (setL_other L (by decide)) (fun _ => setL_same L 15) ?_⟩
  rw [setL_same, setL_other L (by decide), h17]
  rfl
set_option maxRecDepth 100000 in
theorem put_s17 (F : PutF T M k S es1 c1 es2 c2) (hx : [x, y, z].map ρ = [.map (some T.vb), .int .i64 (c2 : Nat), .string v]) (h : PutI w0 T M bx k v S es1 c1 es2 c2 L w) (hL : L 17 = false) (hL2 : L 15 = true) :
    UponN Try.prog undef (PutI w0 T M bx k v S es1 c1 es2 c2 (setL L 17)) ((execOp ρ ⟨d, .entryStore 119 x y z, ty, pos, aft, none⟩).run Try.prog w) := by
  simp only [List.map_cons, List.map_nil, List.cons.injEq, and_true] at hx
  obtain ⟨hx, hy, hz⟩ := hx
  have hm := h.vm
  rw [hL, hL2] at hm
  have hr := run_storeC (P := Try.prog) (mt := 119) (es := es2) (c := c2) hm F.b2 (.string v)
  have e : (execOp ρ ⟨d, .entryStore 119 x y z, ty, pos, aft, none⟩).run Try.prog w = .ok .skip (setB w T.vb (.map (es2.push { key := aKey k, val := .string v, born := c2 }) (c2 + 1))) := by
    simp only [execOp, hx, hy, hz, Sem.run_bind]
    rw [hr]
    rfl
  rw [e]
  refine ⟨rfl, h.set2 F.ne (setL_other L (by decide)) (setL_other L (by decide)) (fun _ => by rw [setL_other L (by decide)]; exact hL2) ?_⟩
  rw [setL_same]
  rfl
end
/-- both maps, when all is done -/
theorem PutI.maps {w0 w : World} {T : TLoc} {M : MT} {bx : Nat} {k : IKey} {v S : ByteArray} {es1 es2 : Array MapEntry} {c1 c2 : Nat} {L : Nat → Bool} (h : PutI w0 T M bx k v S es1 c1 es2 c2 L w) (F : PutF T M k S es1 c1 es2 c2) (h14 : L 14 = true) (h17 : L 17 = true) :
    MapB w T.kb strEnc (kmap M ++ [(S, aKey k)]) ∧ MapB w T.vb aKey (vmap M ++ [(k, .string v)]) := by
  have h1 := h.km
  have h2 := h.vm
  rw [h14] at h1
  rw [h17] at h2
  refine ⟨⟨_, _, h1, ?_, fun e he => ?_⟩, ⟨_, _, h2, ?_, fun e he => ?_⟩⟩
  · rw [Array.toList_push, List.map_append, List.map_append, F.p1]; rfl
  · rw [Array.toList_push, List.mem_append] at he
    rcases he with he | he
    · exact Nat.lt_succ_of_lt (F.b1 e he)
    · rw [List.mem_singleton.1 he]; exact Nat.lt_succ_self _
  · rw [Array.toList_push, List.map_append, List.map_append, F.p2]; rfl
  · rw [Array.toList_push, List.mem_append] at he
    rcases he with he | he
    · exact Nat.lt_succ_of_lt (F.b2 e he)
    · rw [List.mem_singleton.1 he]; exact Nat.lt_succ_self _
theorem putF_of {w : World} {T : TLoc} {M : MT} (h : TRep w T M) {k : IKey} {S : ByteArray} (f1 : ∀ e, e ∈ M.es → keyT e.1 ≠ S) (f2 : ∀ e, e ∈ M.es → e.1 ≠ k) :
    ∃ es1 c1 es2 c2, PutF T M k S es1 c1 es2 c2 ∧ w.heap[T.kb]? = some (.map es1 c1) ∧ w.heap[T.vb]? = some (.map es2 c2) := by
  obtain ⟨es1, c1, a1, a2, a3⟩ := h.km
  obtain ⟨es2, c2, b1, b2, b3⟩ := h.vm
  refine ⟨es1, c1, es2, c2, ⟨a2, a3, b2, b3, fnd_absent fun p hp => ?_, fnd_absent fun p hp => ?_, h.kv⟩, a1, b1⟩
  · obtain ⟨e, he, rfl⟩ := List.mem_map.1 hp
    exact f1 e he
  · obtain ⟨e, he, rfl⟩ := List.mem_map.1 hp
    exact f2 e he

theorem tfoot_lt {w : World} {T : TLoc} {M : MT} (H : TRep w T M) {b : Nat} (hb : TFoot T M b) : b < w.heap.size := by
  rcases hb with rfl | rfl | rfl | hb | ⟨i, hi, hb⟩
  · exact blk_lt H.tb
  · exact H.km.lt
  · exact H.vm.lt
  · exact (H.row.lt b hb).2
  · exact foot_lt H hi hb
theorem add_facts {w w2 wc wy wr : World} {T T' : TLoc} {M M1 : MT} (H : TRep w T M) (E : Ext w w2) {bx : Nat} {ob : Obj} (hb : w2.heap[bx]? = some ob) (hbx : w.heap.size ≤ bx) (R' : TRep wc T' M1) (C' : Ch (fun x => x = T.tb ∨ T.lv.ownBlock = some x) w2 wc)
    (F' : ∀ b, TFoot T' M1 b → TFoot T M b ∨ w2.heap.size ≤ b) (EY : Ext wc wy) {n : Nat} (hn : n < M1.ls.length) {S : ByteArray} {ht : Nat} {L2 : Loc} {m D : Nat} (hS : Steps (nthK M1 n) S ht D) (hR : Ran wy (T'.L n) (nthK M1 n) S ht L2 m wr) (hlb : L2.lb = (T'.L n).lb)
    (hF : ∀ b, Foot L2 ((nthK M1 n).n + 1) b → Foot (T'.L n) (nthK M1 n).n b ∨ wy.heap.size ≤ b) :
    TRep wr (lastT T' n L2) (setK M1 n (runK (beginK (nthK M1 n) S ht) (nthK M1 n).n m)) ∧ wr.heap[bx]? = some ob ∧ (∀ b, TFoot (lastT T' n L2) (setK M1 n (runK (beginK (nthK M1 n) S ht) (nthK M1 n).n m)) b → TFoot T M b ∨ w2.heap.size ≤ b) ∧ Ch (TFoot T M) w wr := by
  obtain ⟨G1, G2⟩ := set_rep (R'.ext EY) hn hR.ch hR.rep hlb (by rw [hS.hn m]; exact hF)
  have hsz := E.size
  have hsz2 := C'.size
  have hsz3 := EY.size
  have hblt := blk_lt hb
  have h1 : ¬ (bx = T.tb ∨ T.lv.ownBlock = some bx) := by
    rintro (e | e)
    · have := blk_lt H.tb; omega
    · have := (H.row.lt bx e).2; omega
  have h2 : ¬ Foot (T'.L n) (nthK M1 n).n bx := fun hf => by
    rcases F' bx (.inr (.inr (.inr (.inr ⟨n, hn, hf⟩)))) with h | h
    · have := tfoot_lt H h; omega
    · omega
  refine ⟨G1, ?_, fun b hb => ?_, ?_⟩
  · exact (hR.ch.block bx (by omega) h2).trans ((EY.block bx (by omega)).trans ((C'.block bx hblt h1).trans hb))
  · rcases G2 b hb with h | h
    · exact F' b h
    · exact .inr (by omega)
  · refine ch_new2 (((Ch.of_ext E).tr (C'.mono fun b _ hb => ?_)).tr (Ch.of_ext EY)) hR.ch fun b hf => ?_
    · rcases hb with h | h
      · exact .inl h
      · exact .inr (.inr (.inr (.inl h)))
    · rcases F' b (.inr (.inr (.inr (.inr ⟨n, hn, hf⟩)))) with h | h
      · exact .inl h
      · exact .inr (by omega)
theorem mfull_put {M : MT} (h : Ready M) {n : Nat} {k : IKey} {v : ByteArray} (hk : GoodE k) (hno : ∀ e, e ∈ M.es → e.1 ≠ k) (hv : GoodV k v) {ht D : Nat} (C : CanBegin M n (keyT k)) (h1 : 1 ≤ ht) (h8 : ht ≤ 8) (hS : Steps (nthK M n) (keyT k) ht D) (s : Int) :
    MFull (putE (setK M n (runK (beginK (nthK M n) (keyT k) ht) (nthK M n).n (D + 1))) k v s) := by
  have hl := C.last
  subst hl
  exact ready_put h hk hno hv (put1 C.inv C.dn C.new h1 h8 hS.dn) s
theorem grow_rest (M : MT) : (grow1 M).frozen = M.frozen ∧ (grow1 M).size = M.size := by unfold grow1; split <;> exact ⟨rfl, rfl⟩
/-- all that is known when the operation is done -/
structure AddMid (w wr : World) (T : TLoc) (M : MT) (k : IKey) (v : ByteArray) (bx : Nat) (T1 : TLoc) (M1 : MT) : Prop where
  tb : T1.tb = T.tb
  kb : T1.kb = T.kb
  vb : T1.vb = T.vb
  rep : TRep wr T1 M1
  box : wr.heap[bx]? = some (.cells #[.string k.user, .int .u64 k.seq, .int .i64 k.kind] 42 (0, 0))
  feet : ∀ b, TFoot T1 M1 b → TFoot T M b ∨ w.heap.size ≤ b
  ch : Ch (TFoot T M) w wr
  es : M1.es = M.es
  fr : M1.frozen = M.frozen
  size : M1.size = M.size
  full : ∀ s, MFull (putE M1 k v s)
theorem add_mid {w w2 wc wy wr : World} {T T' : TLoc} {M : MT} (H : TRep w T M) (E : Ext w w2) {bx : Nat} {k : IKey} {v : ByteArray} (hb : w2.heap[bx]? = some (.cells #[.string k.user, .int .u64 k.seq, .int .i64 k.kind] 42 (0, 0))) (hbx : w.heap.size ≤ bx) (R' : TRep wc T' (grow1 M)) (C' : Ch (fun x => x = T.tb ∨ T.lv.ownBlock = some x) w2 wc)
    (F' : ∀ b, TFoot T' (grow1 M) b → TFoot T M b ∨ w2.heap.size ≤ b) (EY : Ext wc wy) {n : Nat} {ht : Nat} {L2 : Loc} {D : Nat} (e1 : T'.tb = T.tb) (e2 : T'.kb = T.kb) (e3 : T'.vb = T.vb) (hRd : Ready (grow1 M)) (hk : GoodE k) (hno : ∀ e, e ∈ M.es → e.1 ≠ k) (hv : GoodV k v) {S : ByteArray} (hSk : S = keyT k) (C : CanBegin (grow1 M) n S) (h1 : 1 ≤ ht) (h8 : ht ≤ 8)
    (hS : Steps (nthK (grow1 M) n) S ht D) (hR : Ran wy (T'.L n) (nthK (grow1 M) n) S ht L2 (D + 1) wr) (hlb : L2.lb = (T'.L n).lb) (hF : ∀ b, Foot L2 ((nthK (grow1 M) n).n + 1) b → Foot (T'.L n) (nthK (grow1 M) n).n b ∨ wy.heap.size ≤ b) :
    ∃ T1 M1, AddMid w wr T M k v bx T1 M1 := by
  subst hSk
  obtain ⟨G1, G2, G3, G4⟩ := add_facts H E hb hbx R' C' F' EY C.lt hS hR hlb hF
  have hsz := E.size
  exact ⟨lastT T' n L2, setK (grow1 M) n (runK (beginK (nthK (grow1 M) n) (keyT k) ht) (nthK (grow1 M) n).n (D + 1)), ⟨e1, e2, e3, G1, G2, fun b hb => (G3 b hb).imp id fun h => Nat.le_trans hsz h, G4, grow_es M, (grow_rest M).1, (grow_rest M).2, mfull_put hRd hk (by rw [grow_es]; exact hno) hv C h1 h8 hS⟩⟩
/-- how much room an entry takes -/
def roomE (k : IKey) (v : ByteArray) : Int := (k.user.size : Int) + v.size + 16
def AddPost (w : World) (T : TLoc) (M : MT) (k : IKey) (v : ByteArray) (e : Ending) (w' : World) : Prop :=
  e = .returned (.int .i64 0) ∧ ∃ T2 M2, T2.tb = T.tb ∧ TRep w' T2 M2 ∧ MFull M2 ∧ M2.es = M.es ++ [(k, v)] ∧ M2.frozen = M.frozen ∧ M2.size = M.size + roomE k v ∧ Ch (TFoot T M) w w' ∧ ∀ b, TFoot T2 M2 b → TFoot T M b ∨ w.heap.size ≤ b
theorem add_post {w wr w3 w' : World} {T T1 : TLoc} {M M1 : MT} {k : IKey} {v : ByteArray} {bx : Nat} {es1 es2 : Array MapEntry} {c1 c2 : Nat} {L : Nat → Bool} {s : Int} (hk : GoodE k) (hR : TRep wr T1 M1) (hch : Ch (TFoot T M) w wr) (hft : ∀ b, TFoot T1 M1 b → TFoot T M b ∨ w.heap.size ≤ b) (htb : T1.tb = T.tb) (hkb : T1.kb = T.kb) (hvb : T1.vb = T.vb)
    {S : ByteArray} (hS : S = keyT k) (hI : PutI wr T1 M1 bx k v S es1 c1 es2 c2 L w3) (F : PutF T1 M1 k S es1 c1 es2 c2) (h14 : L 14 = true) (h17 : L 17 = true) (hw : Ext w3 w') (hM : MFull (putE M1 k v s)) (he : M1.es = M.es) (hfr : M1.frozen = M.frozen) (hs : s = M.size + roomE k v) :
    AddPost w T M k v (.returned (.int .i64 0)) (w'.setCell ⟨T.tb, 3, none⟩ (.int .i64 s)) := by
  subst hS
  obtain ⟨m1, m2⟩ := hI.maps F h14 h17
  have hc3 : Ch (fun b => b = T1.tb ∨ b = T1.kb ∨ b = T1.vb) wr w' := (hI.ch.mono fun b _ h => .inr h).tr (Ch.of_ext hw)
  have hc : Ch (fun b => b = T1.tb ∨ b = T1.kb ∨ b = T1.vb) wr (w'.setCell ⟨T.tb, 3, none⟩ (.int .i64 s)) := hc3.setC (.inl htb.symm)
  have htb' := (hw.block _ (blk_lt hI.tb)).trans hI.tb
  have m1' := m1.go (hw.block _ m1.lt)
  have m2' := m2.go (hw.block _ m2.lt)
  have hrep := put_rep (k := k) (v := v) (s := s) hR hc (by
    have := heap_setCell_same w' T.tb 3 (tabC T1 M1) 121 (.int .i64 s) (by rw [← htb]; exact htb')
    rw [htb, this]
    rfl) (m1'.go (heap_setCell_other _ _ _ _ fun e => by
      obtain ⟨es, c, h1, _⟩ := m1'
      rw [e, ← htb] at h1
      rw [htb'] at h1; cases h1)) (m2'.go (heap_setCell_other _ _ _ _ fun e => by
      obtain ⟨es, c, h1, _⟩ := m2'
      rw [e, ← htb] at h1
      rw [htb'] at h1; cases h1))
  refine ⟨rfl, T1, putE M1 k v s, htb, hrep, hM, by show M1.es ++ [(k, v)] = _; rw [he], hfr, hs, hch.tr (hc.mono fun b _ hb => ?_), hft⟩
  rcases hb with rfl | rfl | rfl
  · exact .inl htb
  · exact .inr (.inl hkb)
  · exact .inr (.inr (.inl hvb))
end Go.Proofs.Ytoonhcmeklmnlaa
namespace Go.Rg
open Go.RowKit
section
variable {P : Program} {ops : Array Oper} {w0 : World} {s : Nat → Option SV} {d : Option Tmp} {ty : TypeId} {pos : String} {aft : Array Edge} {g : Option (Nat × Bool)}
theorem ob_nilck {x : Operand} {p : Addr} (hg : gw ops s ⟨d, .nilCheck x, ty, pos, aft, g⟩ = some true) (hx : lk s x = some (.ex (.pointer (some p)))) : Ob P ops w0 ⟨d, .nilCheck x, ty, pos, aft, g⟩ s (.ex (.pointer (some p))) :=
  ob_ex1 hg (x := x) rfl hx fun ρ w _ h1 => by simp [execOp, h1, Instr.sureAddr]
theorem ob_loadrow {x : Operand} {t t0 : TypeId} {b : Nat} {cs : Array Value} {fr : Nat × Nat} (hg : gw ops s ⟨d, .load t x, ty, pos, aft, g⟩ = some true) (hx : lk s x = some (.ex (.pointer (some ⟨b, 0, none⟩))))
    (hc : ∀ w, Ext w0 w → w.heap[b]? = some (.cells cs t0 fr)) {D : TypeDesc} (hu : P.underlying t = some D) (hd : (match D with | .struct _ | .array _ _ => true | _ => false) = true) (hi : (P.info? t).map (·.size) = some cs.size) : Ob P ops w0 ⟨d, .load t x, ty, pos, aft, g⟩ s (.ex (.agg cs)) :=
  ob_ex1 hg (x := x) rfl hx fun ρ w he h1 => by
    simp only [execOp, h1, Instr.loadAt, Instr.sureAddr, Sem.run_bind, Sem.run_pure, Result.andThen_ok, run_loadVar_row w b t0 t cs fr D (hc w he) hu hd hi]
end
end Go.Rg
