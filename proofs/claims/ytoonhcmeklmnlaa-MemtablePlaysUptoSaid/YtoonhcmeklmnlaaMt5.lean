/- Maps whose keys are texts or keys with numbers, told as lists of pairs. -/
import Derived.Test.YtoonhcmeklmnlaaMaps
import Derived.Test.YtoonhcmeklmnlaaTy
import Derived.Test.YtoonhcmeklmnlaaRows
import Derived.Laws.StructEq
set_option linter.unusedSimpArgs false
set_option linter.unusedVariables false
set_option linter.unnecessarySimpa false
set_option linter.unusedSectionVars false
namespace Go.Proofs.Ytoonhcmeklmnlaa
open Go.RowKit Go.Rg Go.St

/-- where a key stands, and what it has -/
def fnd {α : Type} [BEq α] (l : List (α × Value)) (k : α) : Option (Nat × Value) := (l.findIdx? (fun p => p.1 == k)).map fun i => (i, ((l[i]?).map (·.2)).getD default)
/-- how a kind of key is found -/
structure KeyF (P : Program) (t : TypeId) {α : Type} [BEq α] (enc : α → Value) : Prop where
  find : ∀ (k : α) (es : List MapEntry) (l : List (α × Value)) (w : World), es.map (fun e => (e.key, e.val)) = l.map (fun p => (enc p.1, p.2)) →
    (Instr.findKey t (enc k) es).run P w = .ok (fnd l k) w
  check : ∀ (b : Bool) (k : α) (w : World), (Instr.checkKey b 10000 t (enc k)).run P w = .ok () w
theorem keyF_of {P : Program} {t : TypeId} {α : Type} [BEq α] [LawfulBEq α] {enc : α → Value} (h : KeyT P t enc) : KeyF P t enc :=
  ⟨fun k es l w he => by
    have := run_findKey (w := w) h k (es := es.toArray) (l := l) (by simpa using he)
    simp only at this
    rw [this]
    unfold fnd
    cases l.findIdx? (fun p => p.1 == k) <;> rfl, fun b k w => run_checkKey h k b⟩

deriving instance DecidableEq for IKey
abbrev aKey (k : IKey) : Value := .agg #[.string k.user, .int .u64 k.seq, .int .i64 k.kind]
theorem tl_iff' (a b : ByteArray) : (a.toList = b.toList) = (a = b) := propext ⟨fun h => by cases a; cases b; simp [ByteArray.toList_eq] at h; rw [h], fun e => by rw [e]⟩
theorem ikey_equal (a b : IKey) (w : World) : (Op.equal 42 (aKey a) (aKey b)).run Try.prog w = .ok (decide (a = b)) w := by
  have hS : Try.prog.underlying 42 = some (.struct (Try.prog.fieldsOf 42)) := by kernel_rfl
  have hp : Try.prog.stoodInHeld 42 = false := by kernel_rfl
  have u1 := Try.underlying3
  have u2 := Try.underlying36
  have u3 := Try.underlying9
  have a1 := Try.isAgg3
  have a2 := Try.isAgg36
  have a3 := Try.isAgg9
  have z1 := Try.sizeOf3
  have z2 := Try.sizeOf36
  have z3 := Try.sizeOf9
  have e : (Op.equal 42 (aKey a) (aKey b)).run Try.prog w = (Op.equalIn 10000 42 (aKey a) (aKey b)).run Try.prog w := by simp [Op.equal, Op.maxDepth]
  rw [e, show (10000 : Nat) = 9999 + 1 from rfl, run_equalIn_agg w 9999 42 _ _ hS hp]
  simp only [Program.fieldsOf, Try.underlying42]
  go_simp
  obtain ⟨x, y, z⟩ := a
  obtain ⟨x', y', z'⟩ := b
  by_cases h1 : x = x' <;> by_cases h2 : y = y' <;> by_cases h3 : z = z' <;> simp [h1, h2, h3, tl_iff']

theorem findAsking_list (k : IKey) (w : World) : ∀ (es : List MapEntry) (l : List (IKey × Value)) (j : Nat), es.map (fun e => (e.key, e.val)) = l.map (fun p => (aKey p.1, p.2)) →
    (Instr.findAsking 42 (aKey k) es j).run Try.prog w = .ok ((fnd l k).map fun p => (j + p.1, p.2)) w
  | [], [], j, _ => by simp [Instr.findAsking, fnd]
  | [], _ :: _, _, h => by simp at h
  | _ :: _, [], _, h => by simp at h
  | e :: es, p :: l, j, h => by
    simp only [List.map_cons, List.cons.injEq, Prod.mk.injEq] at h
    obtain ⟨⟨h1, h2⟩, h3⟩ := h
    unfold Instr.findAsking
    rw [Sem.run_bind, h1, ikey_equal, Result.andThen_ok]
    by_cases hk : p.1 = k
    · have e2 : (p.1 == k) = true := by simp [hk]
      rw [decide_eq_true hk.symm]
      simp [fnd, List.findIdx?_cons, e2, h2]
    · have e2 : (p.1 == k) = false := by simpa using hk
      rw [decide_eq_false (fun e => hk e.symm)]
      simp only [Bool.false_eq_true, if_false]
      rw [findAsking_list k w es l (j + 1) h3]
      unfold fnd
      simp only [List.findIdx?_cons, e2]
      cases hf : l.findIdx? (fun p => p.1 == k) with
      | none => simp
      | some i => simp; omega
theorem ikey_find (k : IKey) (es : List MapEntry) (l : List (IKey × Value)) (w : World) (h : es.map (fun e => (e.key, e.val)) = l.map (fun p => (aKey p.1, p.2))) : (Instr.findKey 42 (aKey k) es).run Try.prog w = .ok (fnd l k) w := by
  unfold Instr.findKey
  rw [Sem.run_bind, run_underlying Try.underlying42, Result.andThen_ok]
  match es, l, h with
  | [], [], _ => simp [Instr.findNow, fnd]
  | e :: es, p :: l, h =>
    have e1 : e.key = aKey p.1 := by simp at h; exact h.1.1
    unfold Instr.findNow
    rw [e1]
    simp only [Instr.sameNow]
    rw [findAsking_list k w (e :: es) (p :: l) 0 h]
    cases fnd (p :: l) k <;> simp
theorem ikey_check (b : Bool) (k : IKey) (w : World) : (Instr.checkKey b 10000 42 (aKey k)).run Try.prog w = .ok () w := by
  have u1 := Try.underlying3
  have u2 := Try.underlying36
  have u3 := Try.underlying9
  have a1 := Try.isAgg3
  have a2 := Try.isAgg36
  have a3 := Try.isAgg9
  have z1 := Try.sizeOf3
  have z2 := Try.sizeOf36
  have z3 := Try.sizeOf9
  have c1 : ∀ (n : Nat) (v : Value) (w : World), (Instr.checkKey b (n + 1) 3 v).run Try.prog w = .ok () w := fun n v w => by
    unfold Instr.checkKey; simp [run_underlying u1]
  have c2 : ∀ (n : Nat) (v : Value) (w : World), (Instr.checkKey b (n + 1) 36 v).run Try.prog w = .ok () w := fun n v w => by
    unfold Instr.checkKey; simp [run_underlying u2]
  have c3 : ∀ (n : Nat) (v : Value) (w : World), (Instr.checkKey b (n + 1) 9 v).run Try.prog w = .ok () w := fun n v w => by
    unfold Instr.checkKey; simp [run_underlying u3]
  rw [show (10000 : Nat) = 9998 + 1 + 1 from rfl]
  unfold Instr.checkKey
  rw [Sem.run_bind, run_underlying Try.underlying42, Result.andThen_ok]
  simp only
  rw [← Array.forIn_toList]
  simp only [List.forIn_cons, List.forIn_nil]
  go_simp
theorem keyF_ikey : KeyF Try.prog 42 aKey := ⟨ikey_find, ikey_check⟩

/-! ### maps in memory, with when each entry came -/
def MapB (w : World) (b : Nat) {α : Type} (enc : α → Value) (l : List (α × Value)) : Prop :=
  ∃ es clock, w.heap[b]? = some (.map es clock) ∧ es.toList.map (fun e => (e.key, e.val)) = l.map (fun p => (enc p.1, p.2)) ∧ ∀ e, e ∈ es.toList → e.born < clock
/-- an entry has been made, and has no value yet -/
def PendB (w : World) (b : Nat) {α : Type} (enc : α → Value) (l : List (α × Value)) (k : α) (c : Nat) : Prop :=
  ∃ (es : Array MapEntry) (clock : Nat) (z : Value), w.heap[b]? = some (.map (es.push { key := enc k, val := z, born := c }) clock) ∧ es.toList.map (fun e => (e.key, e.val)) = l.map (fun p => (enc p.1, p.2)) ∧ (∀ e, e ∈ es.toList → e.born < c) ∧ c < clock
theorem MapB.go {w w' : World} {b : Nat} {α : Type} {enc : α → Value} {l : List (α × Value)} (h : MapB w b enc l) (he : w'.heap[b]? = w.heap[b]?) : MapB w' b enc l := by
  obtain ⟨es, c, h1, h2, h3⟩ := h
  exact ⟨es, c, by rw [he]; exact h1, h2, h3⟩
theorem MapB.lt {w : World} {b : Nat} {α : Type} {enc : α → Value} {l : List (α × Value)} (h : MapB w b enc l) : b < w.heap.size := by
  obtain ⟨es, c, h1, h2⟩ := h
  exact (Array.getElem?_eq_some_iff.1 h1).1
theorem PendB.go {w w' : World} {b : Nat} {α : Type} {enc : α → Value} {l : List (α × Value)} {k : α} {c : Nat} (h : PendB w b enc l k c) (he : w'.heap[b]? = w.heap[b]?) : PendB w' b enc l k c := by
  obtain ⟨es, cl, z, h1, h2⟩ := h
  exact ⟨es, cl, z, by rw [he]; exact h1, h2⟩
theorem mapB_new (w : World) {α : Type} (enc : α → Value) : MapB (w.alloc (.map #[] 0)) w.heap.size enc [] := ⟨#[], 0, heap_alloc_new w _, rfl, fun e h => by simp at h⟩

section
variable {P : Program} {w : World} {α : Type} [BEq α] [LawfulBEq α] {enc : α → Value}
def lk1 (l : List (α × Value)) (k : α) : Option Value := (fnd l k).map (·.2)
theorem run_lookupB {mt kt et : TypeId} (hm : P.underlying mt = some (.map kt et)) (hk : KeyF P kt enc) {b : Nat} {l : List (α × Value)} (h : MapB w b enc l) (k : α) {i : TypeInfo} {z : Value} (hi : P.info? et = some i) (hz : i.zero = some z) (ok : Bool) :
    (Instr.lookup mt (.map (some b)) (enc k) ok).run P w = .ok (if ok then .tuple #[(lk1 l k).getD z, .bool (lk1 l k).isSome] else (lk1 l k).getD z) w := by
  obtain ⟨es, c, h1, h2, _⟩ := h
  unfold Instr.lookup
  simp only [Sem.run_bind, run_underlying hm, Result.andThen_ok, getObj, Sem.run, h1, Sem.run_pure]
  rw [hk.check, Result.andThen_ok, hk.find k _ l w h2, Result.andThen_ok]
  unfold lk1
  cases fnd l k with
  | none => cases ok <;> simp [zeroValue, typeInfo, hi, hz]
  | some i => cases ok <;> simp
theorem run_entryB {mt kt et : TypeId} (hm : P.underlying mt = some (.map kt et)) (hk : KeyF P kt enc) {b : Nat} {l : List (α × Value)} (h : MapB w b enc l) (k : α) {i : TypeInfo} {z : Value} (hi : P.info? et = some i) (hz : i.zero = some z) (hno : fnd l k = none) :
    ∃ o c, (∀ n, (Instr.mapEntry mt (.map (some b)) (enc k)).run P (w.drewN n) = .ok (.tuple #[z, .int .i64 (c : Nat)]) { (w.drewN n) with heap := w.heap.setIfInBounds b o }) ∧ PendB { w with heap := w.heap.setIfInBounds b o } b enc l k c := by
  obtain ⟨es, c, h1, h2, h3⟩ := h
  have hlt : b < w.heap.size := (Array.getElem?_eq_some_iff.1 h1).1
  refine ⟨.map (es.push { key := enc k, val := z, born := c }) (c + 1), c, fun n => ?_, es, c + 1, z, by simp [hlt], h2, h3, Nat.lt_succ_self c⟩
  have e1 : (w.drewN n).heap[b]? = some (.map es c) := h1
  unfold Instr.mapEntry
  simp only [Sem.run_bind, run_underlying hm, Result.andThen_ok, getObj, Sem.run, e1, Sem.run_pure]
  rw [hk.check, Result.andThen_ok, hk.find k _ l _ h2, Result.andThen_ok, hno]
  simp [zeroValue, typeInfo, hi, hz, setObj, Sem.run, e1, h1, goInt]
theorem run_storeB {mt : TypeId} {b : Nat} {l : List (α × Value)} {k : α} {c : Nat} (h : PendB w b enc l k c) (v : Value) :
    ∃ o, (∀ n, (Instr.entryStore mt (.map (some b)) (.int .i64 (c : Nat)) v).run P (w.drewN n) = .ok () { (w.drewN n) with heap := w.heap.setIfInBounds b o }) ∧ MapB { w with heap := w.heap.setIfInBounds b o } b enc (l ++ [(k, v)]) := by
  obtain ⟨es, cl, z, h1, h2, h3, h4⟩ := h
  have hlt : b < w.heap.size := (Array.getElem?_eq_some_iff.1 h1).1
  have hf : (es.push { key := enc k, val := z, born := c }).findIdx? (fun e => (e.born : Int) == (c : Int)) = some es.size := by
    rw [Array.findIdx?_eq_some_iff_getElem]
    refine ⟨by simp, by simp, fun j hj => ?_⟩
    have hje : (es.push { key := enc k, val := z, born := c })[j]'(by simp; omega) = es[j] := by simp [Array.getElem_push, hj]
    rw [hje]
    have := h3 es[j] (by simp)
    simp; omega
  have hmod : (es.push { key := enc k, val := z, born := c }).modify es.size (fun e => { e with val := v }) = es.push { key := enc k, val := v, born := c } := by
    apply Array.ext
    · simp
    · intro i h1 h2
      rw [Array.getElem_modify]
      by_cases e : es.size = i
      · subst e; simp
      · rw [if_neg e]
        have hi : i < es.size := by simp at h2; omega
        simp [Array.getElem_push, hi]
  refine ⟨.map (es.push { key := enc k, val := v, born := c }) cl, fun n => ?_, es.push { key := enc k, val := v, born := c }, cl, by simp [hlt], by simp [h2], fun e he => ?_⟩
  · have e1 : (w.drewN n).heap[b]? = some (.map (es.push { key := enc k, val := z, born := c }) cl) := h1
    unfold Instr.entryStore
    simp only [Sem.run_bind, Result.andThen_ok, getObj, Sem.run, e1, Sem.run_pure]
    simp only [asInt, asIntOf, Sem.run_bind, Sem.run_pure, Result.andThen_ok]
    rw [hf]
    simp only []
    rw [hmod]
    simp [setObj, Sem.run, e1, h1]
  · simp at he
    rcases he with he | rfl
    · have := h3 e (by simpa using he); omega
    · exact h4
end
end Go.Proofs.Ytoonhcmeklmnlaa
