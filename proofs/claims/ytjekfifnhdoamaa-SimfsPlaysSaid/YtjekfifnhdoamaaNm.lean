/- Maps whose values are pointers, told as lists: key, block, when it came. -/
import Derived.Test.YtjekfifnhdoamaaMapI
import Derived.Test.YtjekfifnhdoamaaCh
import Derived.LaidEqlPtr
set_option linter.unusedSimpArgs false
set_option linter.unusedVariables false
set_option linter.unnecessarySimpa false
set_option linter.unusedSectionVars false
namespace Go.St
open Go.RowKit Go.Rg

/-! ### plain -/
section
variable {α : Type} [BEq α] [LawfulBEq α]
abbrev Ent (α : Type) := List (α × Nat × Nat)
abbrev ptrV (b : Nat) : Value := .pointer (some ⟨b, 0, none⟩)
def posE (E : Ent α) (k : α) : Option Nat := E.findIdx? (fun p => p.1 == k)
def getE (E : Ent α) (k : α) : Option Nat := (E.find? (fun p => p.1 == k)).map (·.2.1)
def delE (E : Ent α) (k : α) : Ent α := E.eraseP (fun p => p.1 == k)
def putEn (E : Ent α) (k : α) (v c : Nat) : Ent α := if (posE E k).isSome then E.map (fun p => if p.1 == k then (k, v, p.2.2) else p) else E ++ [(k, v, c)]
def clkE (E : Ent α) (k : α) (c : Nat) : Nat := if (posE E k).isSome then c else c + 1
def keysE (E : Ent α) : List α := E.map (·.1)
def bornE (E : Ent α) : List Nat := E.map (·.2.2)
/-- keys and what they have -/
def pr (E : Ent α) : List (α × Nat) := E.map fun p => (p.1, p.2.1)
def offK (k : α) (l : List (α × Nat)) : List (α × Nat) := l.filter fun p => !(p.1 == k)
theorem posE_none {E : Ent α} {k : α} (h : posE E k = none) : ∀ p, p ∈ E → (p.1 == k) = false := by
  unfold posE at h
  rw [List.findIdx?_eq_none_iff] at h
  exact h
theorem posE_some {E : Ent α} {k : α} {i : Nat} (h : posE E k = some i) : ∃ hi : i < E.length, E[i].1 = k ∧ ∀ j (hj : j < i), (E[j]'(by omega)).1 ≠ k := by
  unfold posE at h
  rw [List.findIdx?_eq_some_iff_getElem] at h
  obtain ⟨hi, h1, h2⟩ := h
  exact ⟨hi, by simpa using h1, fun j hj => by simpa using h2 j hj⟩
theorem getE_pos {E : Ent α} {k : α} : getE E k = (posE E k).map (fun i => (E[i]?.map (·.2.1)).getD 0) := by
  unfold getE posE
  induction E with
  | nil => rfl
  | cons p E ih =>
    rw [List.find?_cons, List.findIdx?_cons]
    cases h : p.1 == k with
    | true => simp
    | false =>
      simp only [Bool.false_eq_true, if_false]
      rw [ih]
      cases E.findIdx? (fun p => p.1 == k) <;> simp
theorem offK_none {k : α} {l : List (α × Nat)} (h : ∀ p, p ∈ l → (p.1 == k) = false) : offK k l = l := by
  unfold offK
  rw [List.filter_eq_self]
  intro p hp
  rw [h p hp]; rfl
theorem pr_del {k : α} : ∀ {E : Ent α}, (keysE E).Nodup → pr (delE E k) = offK k (pr E)
  | [], _ => rfl
  | p :: E, hn => by
    unfold keysE at hn
    rw [List.map_cons, List.nodup_cons] at hn
    unfold delE offK pr
    rw [List.eraseP_cons, List.map_cons, List.filter_cons]
    cases h : p.1 == k with
    | true =>
      simp only [cond_true, Bool.not_true, Bool.false_eq_true, if_false]
      symm
      rw [List.filter_eq_self]
      intro q hq
      obtain ⟨r, hr, rfl⟩ := List.mem_map.1 hq
      have : (r.1 == k) = false := by
        rw [beq_eq_false_iff_ne]
        intro e
        exact hn.1 (by rw [eq_of_beq h, ← e]; exact List.mem_map_of_mem hr)
      simp [this]
    | false =>
      simp only [cond_false, Bool.not_false, if_true, List.map_cons]
      have := pr_del (k := k) (E := E) hn.2
      unfold pr delE offK at this
      rw [this]
theorem pr_put {k : α} {v c : Nat} {E : Ent α} (hn : (keysE E).Nodup) : (pr (putEn E k v c)).Perm ((k, v) :: offK k (pr E)) := by
  unfold putEn
  cases hp : posE E k with
  | none =>
    simp only [Option.isSome_none, Bool.false_eq_true, if_false]
    have h := posE_none hp
    have e : pr (E ++ [(k, v, c)]) = pr E ++ [(k, v)] := by unfold pr; simp
    rw [e, offK_none]
    · exact List.perm_append_singleton _ _
    · intro q hq
      unfold pr at hq
      obtain ⟨r, hr, rfl⟩ := List.mem_map.1 hq
      exact h r hr
  | some i =>
    simp only [Option.isSome_some, if_true]
    clear c
    unfold posE at hp
    induction E generalizing i with
    | nil => simp at hp
    | cons p E ih =>
      unfold keysE at hn
      rw [List.map_cons, List.nodup_cons] at hn
      rw [List.findIdx?_cons] at hp
      cases h : p.1 == k with
      | true =>
        have hk := eq_of_beq h
        have hno : ∀ q, q ∈ E → (q.1 == k) = false := fun q hq => by
          rw [beq_eq_false_iff_ne]
          intro e
          exact hn.1 (by rw [hk, ← e]; exact List.mem_map_of_mem hq)
        have e1 : E.map (fun p => if (p.1 == k) = true then (k, v, p.2.2) else p) = E := by
          conv => rhs; rw [← List.map_id E]
          refine List.map_congr_left fun q hq => ?_
          rw [hno q hq]; simp
        rw [List.map_cons, e1]
        unfold pr offK
        rw [List.map_cons, List.map_cons, List.filter_cons]
        simp only [h, if_true, Bool.not_true, Bool.false_eq_true, if_false]
        rw [List.filter_eq_self.2]
        intro q hq
        obtain ⟨r, hr, rfl⟩ := List.mem_map.1 hq
        simp [hno r hr]
      | false =>
        simp only [h, Bool.false_eq_true, if_false] at hp
        cases hq : E.findIdx? (fun p => p.1 == k) with
        | none => rw [hq] at hp; simp at hp
        | some j =>
          have := ih hn.2 j hq
          rw [List.map_cons]
          unfold pr offK at this ⊢
          rw [List.map_cons, List.map_cons, List.filter_cons]
          simp only [h, Bool.false_eq_true, if_false, Bool.not_false, if_true]
          exact (List.Perm.cons _ this).trans (List.Perm.swap _ _ _)
theorem put_born {E : Ent α} {k : α} {v c : Nat} (hb : ∀ p, p ∈ E → p.2.2 < c) (hn : (bornE E).Nodup) : (∀ p, p ∈ putEn E k v c → p.2.2 < clkE E k c) ∧ (bornE (putEn E k v c)).Nodup := by
  unfold putEn clkE
  cases hp : posE E k with
  | none =>
    simp only [Option.isSome_none, Bool.false_eq_true, if_false]
    refine ⟨fun p h => ?_, ?_⟩
    · rcases List.mem_append.1 h with h | h
      · have := hb p h; omega
      · simp at h; subst h; exact Nat.lt_succ_self _
    · unfold bornE
      rw [List.map_append, List.nodup_append]
      refine ⟨hn, by simp, fun a ha b hb' => ?_⟩
      obtain ⟨q, hq, rfl⟩ := List.mem_map.1 ha
      simp at hb'
      subst hb'
      exact Nat.ne_of_lt (hb q hq)
  | some i =>
    simp only [Option.isSome_some, if_true]
    refine ⟨fun p h => ?_, ?_⟩
    · obtain ⟨q, hq, rfl⟩ := List.mem_map.1 h
      have := hb q hq
      split <;> exact this
    · unfold bornE at hn ⊢
      rw [List.map_map]
      have e : ((fun p : α × Nat × Nat => p.2.2) ∘ fun p => if (p.1 == k) = true then (k, v, p.2.2) else p) = fun p => p.2.2 := by
        funext p
        simp only [Function.comp]
        split <;> rfl
      rw [e]
      exact hn
theorem del_sub (E : Ent α) (k : α) : (delE E k).Sublist E := List.eraseP_sublist
theorem keys_pr (E : Ent α) : keysE E = (pr E).map (·.1) := by unfold keysE pr; rw [List.map_map]; rfl
theorem get_pr {E : Ent α} {k : α} : getE E k = ((pr E).find? (fun p => p.1 == k)).map (·.2) := by
  unfold getE pr
  rw [List.find?_map]
  cases h : E.find? ((fun p => p.1 == k) ∘ fun p => (p.1, p.2.1)) with
  | none =>
    have : E.find? (fun p => p.1 == k) = none := h
    rw [this]; rfl
  | some p =>
    have : E.find? (fun p => p.1 == k) = some p := h
    rw [this]; rfl
/-- what a key has does not hang on the order -/
theorem find_perm {β : Type} {l m : List (α × β)} (hp : l.Perm m) (hn : (l.map (·.1)).Nodup) (k : α) : l.find? (fun p => p.1 == k) = m.find? (fun p => p.1 == k) := by
  induction hp with
  | nil => rfl
  | cons x _ ih =>
    rw [List.map_cons, List.nodup_cons] at hn
    rw [List.find?_cons, List.find?_cons, ih hn.2]
  | swap x y l =>
    rw [List.map_cons, List.map_cons, List.nodup_cons] at hn
    simp only [List.find?_cons]
    cases h1 : y.1 == k <;> cases h2 : x.1 == k <;> simp only []
    exfalso
    exact hn.1 (by rw [eq_of_beq h1, ← eq_of_beq h2]; exact List.mem_cons_self)
  | trans h1 _ ih1 ih2 =>
    rw [ih1 hn, ih2 ((h1.map _).nodup_iff.1 hn)]
end

/-! ### in memory -/
section
variable {P : Program} {α : Type} [BEq α] [LawfulBEq α] {enc : α → Value}
def eN (enc : α → Value) (E : Ent α) : Array MapEntry := (E.map fun p => (⟨enc p.1, ptrV p.2.1, p.2.2⟩ : MapEntry)).toArray
theorem eN_list (E : Ent α) : (eN enc E).toList = E.map fun p => (⟨enc p.1, ptrV p.2.1, p.2.2⟩ : MapEntry) := by unfold eN; simp
theorem eN_size (E : Ent α) : (eN enc E).size = E.length := by unfold eN; simp
theorem eN_mem {E : Ent α} {e : MapEntry} (h : e ∈ (eN enc E).toList) : ∃ p, p ∈ E ∧ e = ⟨enc p.1, ptrV p.2.1, p.2.2⟩ := by
  rw [eN_list] at h
  obtain ⟨p, hp, rfl⟩ := List.mem_map.1 h
  exact ⟨p, hp, rfl⟩
theorem eN_of {E : Ent α} {p : α × Nat × Nat} (h : p ∈ E) : (⟨enc p.1, ptrV p.2.1, p.2.2⟩ : MapEntry) ∈ (eN enc E).toList := by
  rw [eN_list]
  exact List.mem_map.2 ⟨p, h, rfl⟩
theorem eN_born (E : Ent α) : (eN enc E).toList.map (·.born) = bornE E := by
  rw [eN_list, List.map_map]
  rfl
/-- how keys of a kind are found -/
structure KeyG (P : Program) (t : TypeId) (enc : α → Value) (ok : World → α → Prop) : Prop where
  find : ∀ (k : α) (E : Ent α) (w : World), ok w k → (∀ p, p ∈ E → ok w p.1) → (Instr.findKey t (enc k) (eN enc E).toList).run P w = .ok ((posE E k).map fun i => (i, ptrV ((E[i]?.map (·.2.1)).getD 0))) w
  check : ∀ (b : Bool) (k : α) (w : World), (Instr.checkKey b 10000 t (enc k)).run P w = .ok () w
  bits : ∀ k, Instr.sameBits 10000 (enc k) (enc k) = true
theorem keyG_of {t : TypeId} (h : KeyT P t enc) : KeyG P t enc (fun _ _ => True) :=
  ⟨fun k E w _ _ => by
    have he : (eN enc E).toList.map (fun e => (e.key, e.val)) = (E.map fun p => (p.1, ptrV p.2.1)).map (fun p => (enc p.1, p.2)) := by
      rw [eN_list, List.map_map, List.map_map]; rfl
    rw [run_findKey (w := w) h k (es := eN enc E) he]
    have e2 : (E.map fun p => (p.1, ptrV p.2.1)).findIdx? (fun p => p.1 == k) = posE E k := by
      rw [List.findIdx?_map]; rfl
    rw [e2]
    cases hp : posE E k with
    | none => rfl
    | some i =>
      obtain ⟨hi, _⟩ := posE_some hp
      simp [hi], fun b k w => run_checkKey h k b, fun k => h.bits _ _ _ (by simp)⟩
/-- an ordinary block -/
def Plain (w : World) (b : Nat) : Prop := ∃ cs t, w.heap[b]? = some (.cells cs t (0, 0))
theorem equal_ptr {t e : TypeId} {j : TypeInfo} (h : P.underlying t = some (.pointer e)) (hi : P.info? e = some j) (hsz : j.size ≠ 0) {w : World} {a b : Nat} (ha : Plain w a) (hb : Plain w b) :
    (Op.equal t (ptrV a) (ptrV b)).run P w = .ok (b == a) w := by
  have hd : ∀ d : Nat, (Op.equalIn (d + 1) t (ptrV a) (ptrV b)).run P w = .ok (b == a) w := fun d => by
    by_cases hk : b = a
    · subst hk
      simp [Op.equalIn, run_underlying h, sizeOf, typeInfo, hi, hsz, run_sameAddr_same]
    · have h1 : (b == a) = false := by simpa using hk
      obtain ⟨ca, ta, ha⟩ := ha
      obtain ⟨cb, tb, hb⟩ := hb
      have hne : (⟨a, 0, none⟩ : Addr) ≠ ⟨b, 0, none⟩ := fun e => hk (by injection e with e1; exact e1.symm)
      simp [Op.equalIn, run_underlying h, sizeOf, typeInfo, hi, hsz, run_sameAddr_other w hne ha hb, h1]
  simp [Op.equal, Op.maxDepth, hd 9999]
/-- keys that are pointers -/
theorem keyG_ptr {t e : TypeId} {j : TypeInfo} (h : P.underlying t = some (.pointer e)) (hi : P.info? e = some j) (hsz : j.size ≠ 0) : KeyG P t ptrV Plain := by
  have hfa : ∀ (k : Nat) (E : Ent Nat) (w : World) (j : Nat), Plain w k → (∀ p, p ∈ E → Plain w p.1) → (Instr.findAsking t (ptrV k) (E.map fun p => (⟨ptrV p.1, ptrV p.2.1, p.2.2⟩ : MapEntry)) j).run P w = .ok ((posE E k).map fun i => (j + i, ptrV ((E[i]?.map (·.2.1)).getD 0))) w := by
    intro k E w
    induction E with
    | nil => intro j _ _; simp [Instr.findAsking, posE]
    | cons p E ih =>
      intro j hk0 hE0
      rw [List.map_cons]
      unfold Instr.findAsking
      rw [Sem.run_bind, equal_ptr h hi hsz hk0 (hE0 p List.mem_cons_self), Result.andThen_ok]
      unfold posE
      rw [List.findIdx?_cons]
      cases hk : p.1 == k with
      | true => simp
      | false =>
        simp only [Bool.false_eq_true, if_false]
        rw [ih (j + 1) hk0 (fun q hq => hE0 q (List.mem_cons_of_mem _ hq))]
        unfold posE
        cases E.findIdx? (fun p => p.1 == k) with
        | none => rfl
        | some i => simp; omega
  refine ⟨fun k E w hk0 hE0 => ?_, fun b k w => ?_, fun k => ?_⟩
  · unfold Instr.findKey
    rw [Sem.run_bind, run_underlying h, Result.andThen_ok, eN_list]
    cases E with
    | nil => simp [Instr.findNow, posE]
    | cons p E =>
      have : Instr.findNow (.pointer e) (ptrV k) ((p :: E).map fun p => (⟨ptrV p.1, ptrV p.2.1, p.2.2⟩ : MapEntry)) 0 = none := by
        rw [List.map_cons]
        unfold Instr.findNow
        rfl
      rw [this]
      simp only
      rw [hfa _ _ _ _ hk0 hE0]
      simp
  · have : ∀ n, (Instr.checkKey b (n + 1) t (ptrV k)).run P w = .ok () w := fun n => by
      unfold Instr.checkKey; simp [run_underlying h]
    exact this 9999
  · simp [Instr.sameBits]

/-- a map from keys to pointers -/
structure NmAt (enc : α → Value) (w : World) (mb : Nat) (E : Ent α) (c : Nat) : Prop where
  map : w.heap[mb]? = some (.map (eN enc E) c)
  born : ∀ p, p ∈ E → p.2.2 < c
  nd : (bornE E).Nodup
theorem NmAt.lt {w : World} {mb c : Nat} {E : Ent α} (h : NmAt enc w mb E c) : mb < w.heap.size := blk_lt h.map
theorem NmAt.go {w w' : World} {mb c : Nat} {E : Ent α} (h : NmAt enc w mb E c) (he : w'.heap[mb]? = w.heap[mb]?) : NmAt enc w' mb E c := ⟨he.trans h.map, h.born, h.nd⟩
theorem nmAt_new (w : World) (enc : α → Value) : NmAt enc (w.alloc (.map #[] 0)) w.heap.size [] 0 := ⟨heap_alloc_new w _, fun p h => (by cases h), List.nodup_nil⟩
theorem nm_look {mt kt et : TypeId} (hm : P.underlying mt = some (.map kt et)) {ok : World → α → Prop} (hk : KeyG P kt enc ok) (hz : (P.info? et).bind (·.zero) = some (.pointer none)) {w : World} {mb c : Nat} {E : Ent α} (h : NmAt enc w mb E c) (k : α) (hk0 : ok w k) (hE0 : ∀ p, p ∈ E → ok w p.1) :
    (Instr.lookup mt (.map (some mb)) (enc k) false).run P w = .ok ((getE E k).elim (.pointer none) ptrV) w := by
  obtain ⟨i, hi, hz'⟩ : ∃ i, P.info? et = some i ∧ i.zero = some (.pointer none) := by
    cases hq : P.info? et with
    | none => rw [hq] at hz; cases hz
    | some i => rw [hq] at hz; exact ⟨i, rfl, hz⟩
  unfold Instr.lookup
  simp only [Sem.run_bind, run_underlying hm, Result.andThen_ok, getObj, Sem.run, h.map, Sem.run_pure]
  rw [hk.check, Result.andThen_ok, hk.find _ _ _ hk0 hE0, Result.andThen_ok, getE_pos]
  cases posE E k with
  | none => simp [zeroValue, typeInfo, hi, hz']
  | some i => simp
theorem er_mapG {β γ : Type} (f : β → γ) : ∀ (L : List β) (i : Nat), (L.map f).eraseIdx i = (L.eraseIdx i).map f
  | [], _ => rfl
  | a :: t, 0 => rfl
  | a :: t, i + 1 => by simp [er_mapG f t i]
theorem nodup_inj {β : Type} {l : List β} (hn : l.Nodup) {i j : Nat} (hi : i < l.length) (hj : j < l.length) (h : l[i] = l[j]) : i = j := by
  have hp := List.pairwise_iff_getElem.1 hn
  rcases Nat.lt_trichotomy i j with h1 | h1 | h1
  · exact absurd h (hp i j hi hj h1)
  · exact h1
  · exact absurd h.symm (hp j i hj hi h1)
theorem setW_ch (w : World) (b : Nat) (o : Obj) : Ch (· = b) w (setW w b o) :=
  ⟨rfl, rfl, rfl, by simp [setW], fun k _ h => setW_other h⟩
theorem nm_del {mt kt et : TypeId} (hm : P.underlying mt = some (.map kt et)) {ok : World → α → Prop} (hk : KeyG P kt enc ok) {w : World} {mb c : Nat} {E : Ent α} (h : NmAt enc w mb E c) (k : α) (hk0 : ok w k) (hE0 : ∀ p, p ∈ E → ok w p.1) :
    ∃ w', (∀ ty, (Builtin.delete_ #[mt, kt] ty #[.map (some mb), enc k]).run P w = .ok (.tuple #[]) w') ∧ NmAt enc w' mb (delE E k) c ∧ Ch (· = mb) w w' := by
  refine ⟨setW w mb (.map (eN enc (delE E k)) c), fun ty => ?_, ⟨setW_same h.map, fun p hp => h.born p ((del_sub E k).subset hp), h.nd.sublist ((del_sub E k).map _)⟩, setW_ch _ _ _⟩
  unfold Builtin.delete_
  simp only [List.getElem?_toArray, List.getElem?_cons_zero, List.getElem?_cons_succ, Sem.run_bind, run_underlying hm, Result.andThen_ok, getObj, Sem.run, h.map]
  rw [hk.check, Result.andThen_ok, hk.find _ _ _ hk0 hE0, Result.andThen_ok]
  have e : delE E k = match posE E k with | some i => E.eraseIdx i | none => E := by
    unfold delE posE
    rw [List.eraseP_eq_eraseIdx]
    cases E.findIdx? (fun p => p.1 == k) <;> rfl
  rw [e]
  cases hp : posE E k with
  | none => simp [setObj, Sem.run, h.map, setW, Result.andThen]
  | some i =>
    have e2 : (eN enc E).eraseIdxIfInBounds i = eN enc (E.eraseIdx i) := by
      apply Array.ext'
      rw [Array.toList_eraseIdxIfInBounds, eN_list, eN_list, er_mapG]
    simp [setObj, Sem.run, h.map, setW, Result.andThen, e2]
theorem nm_put {mt kt et : TypeId} (hm : P.underlying mt = some (.map kt et)) {ok : World → α → Prop} (hk : KeyG P kt enc ok) {w : World} {mb c : Nat} {E : Ent α} (h : NmAt enc w mb E c) (hn : (keysE E).Nodup) (k : α) (v : Nat) (hk0 : ok w k) (hE0 : ∀ p, p ∈ E → ok w p.1) :
    ∃ w', (Instr.mapUpdate mt (.map (some mb)) (enc k) (ptrV v)).run P w = .ok () w' ∧ NmAt enc w' mb (putEn E k v c) (clkE E k c) ∧ Ch (· = mb) w w' := by
  obtain ⟨hb, hd⟩ := put_born (k := k) (v := v) h.born h.nd
  refine ⟨setW w mb (.map (eN enc (putEn E k v c)) (clkE E k c)), ?_, ⟨setW_same h.map, hb, hd⟩, setW_ch _ _ _⟩
  unfold Instr.mapUpdate
  simp only [Sem.run_bind, run_underlying hm, Result.andThen_ok, getObj, Sem.run, h.map]
  rw [hk.check, Result.andThen_ok, hk.find _ _ _ hk0 hE0, Result.andThen_ok]
  unfold putEn clkE
  cases hp : posE E k with
  | none =>
    have e : (eN enc E).push ⟨enc k, ptrV v, c⟩ = eN enc (E ++ [(k, v, c)]) := by unfold eN; simp
    simp [setObj, Sem.run, h.map, setW, Result.andThen, e]
  | some i =>
    obtain ⟨hi, h1, h2⟩ := posE_some hp
    have e3 : ((eN enc E)[i]?.map (·.key)).getD (enc k) = enc k := by
      rw [← Array.getElem?_toList, eN_list]
      simp [hi, h1]
    simp only [Option.map_some, Option.isSome_some, if_true]
    rw [e3]
    have e4 : (Instr.keyThatStays (enc k) (enc k)).run P w = .ok (enc k) w := by
      unfold Instr.keyThatStays
      rw [if_pos (hk.bits k)]
      rfl
    rw [Sem.run_bind, e4, Result.andThen_ok]
    have e5 : (eN enc E).modify i (fun e => { e with key := enc k, val := ptrV v }) = eN enc (E.map fun p => if (p.1 == k) = true then (k, v, p.2.2) else p) := by
      apply Array.ext'
      apply List.ext_getElem?
      intro j
      rw [Array.getElem?_toList, Array.getElem?_modify, ← Array.getElem?_toList, eN_list, eN_list]
      simp only [List.getElem?_map, List.map_map]
      by_cases hj : i = j
      · subst hj
        simp [hi, h1]
      · rw [if_neg hj]
        cases hq : E[j]? with
        | none => rfl
        | some p =>
          have hpk : (p.1 == k) = false := by
            rw [beq_eq_false_iff_ne]
            intro e
            obtain ⟨hj2, hpj⟩ := List.getElem?_eq_some_iff.1 hq
            have hkj : (keysE E)[i]'(by simp [keysE, hi]) = (keysE E)[j]'(by simp [keysE, hj2]) := by
              unfold keysE
              simp [h1, hpj, e]
            exact hj (nodup_inj hn _ _ hkj)
          simp [hpk]
    simp [setObj, Sem.run, h.map, setW, Result.andThen, e5]

/-! ### a loop over such a map -/
def leftE (E : Ent α) (seen : Array Nat) : Nat := (E.filter fun p => !seen.contains p.2.2).length
theorem left_eN (E : Ent α) (seen : Array Nat) : (leftOf (eN enc E) seen).size = leftE E seen := by
  unfold leftOf leftE
  rw [← Array.length_toList, Array.toList_filter, eN_list, List.filter_map, List.length_map]
  rfl
theorem nm_next {w : World} {r mb c : Nat} {E : Ent α} {seen : Array Nat} (h : NmAt enc w mb E c) (hit : w.heap[r]? = some (.mapIter (some mb) c seen c)) :
    ((∀ p, p ∈ E → seen.contains p.2.2 = true) ∧ ∀ ty, (Instr.next (.pointer (some ⟨r, 0, none⟩)) false ty).run P w = .ok (.tuple #[.bool false]) w) ∨
    ∃ p wz, p ∈ E ∧ seen.contains p.2.2 = false ∧ (∀ ty, (Instr.next (.pointer (some ⟨r, 0, none⟩)) false ty).run P w = .ok (.tuple #[.bool true, enc p.1, ptrV p.2.1]) wz) ∧
      (Instr.entry (.pointer (some ⟨r, 0, none⟩))).run P wz = .ok (.tuple #[enc p.1, ptrV p.2.1]) wz ∧ wz.heap[r]? = some (.mapIter (some mb) c (seen.push p.2.2) c) ∧ Ch (fun k => k = r) w wz ∧ leftE E (seen.push p.2.2) < leftE E seen := by
  have hne : r ≠ mb := fun e => by rw [e, h.map] at hit; cases hit
  have hold : ∀ e, e ∈ (eN enc E).toList → e.born < c := fun e he => by
    obtain ⟨p, hp, rfl⟩ := eN_mem he
    exact h.born p hp
  have hty : ∀ ty ty', (Instr.next (.pointer (some ⟨r, 0, none⟩)) false ty).run P w = (Instr.next (.pointer (some ⟨r, 0, none⟩)) false ty').run P w := fun ty ty' => rfl
  rcases run_nextAt (P := P) w 0 r mb c c seen (eN enc E) c hit h.map hold (Nat.le_refl _) with ⟨h0, hrun⟩ | ⟨e, he, w1, hw1, hrun⟩
  · exact .inl ⟨fun p hp => all_seen (eN enc E) seen h0 _ (eN_of hp), fun ty => (hty ty 0).trans hrun⟩
  · obtain ⟨hin, hns⟩ := mem_left he
    obtain ⟨p, hp, rfl⟩ := eN_mem hin
    have W1 : w1.heap = w.heap ∧ Ch (fun k => k = r) w w1 := by
      rcases hw1 with rfl | rfl
      · exact ⟨rfl, Ch.rfl _ _⟩
      · exact ⟨rfl, (Ch.rfl _ _).dr⟩
    have hit1 : w1.heap[r]? = some (.mapIter (some mb) c seen c) := by rw [W1.1]; exact hit
    have IT := setW_same (o := .mapIter (some mb) c (seen.push p.2.2) c) hit1
    have HM : (setW w1 r (.mapIter (some mb) c (seen.push p.2.2) c)).heap[mb]? = some (.map (eN enc E) c) := by
      rw [setW_other (Ne.symm hne), W1.1]; exact h.map
    have hls := left_shrinks (eN enc E) seen _ he
    rw [left_eN, left_eN] at hls
    refine .inr ⟨p, setW w1 r (.mapIter (some mb) c (seen.push p.2.2) c), hp, hns, fun ty => (hty ty 0).trans hrun, ?_, IT, W1.2.tr (setW_ch _ _ _), hls⟩
    exact run_entryAt (P := P) _ r mb c seen (eN enc E) c _ IT HM hin (by rw [eN_born]; exact h.nd)
end
section
variable {α : Type} [BEq α] [LawfulBEq α]
def sumEn (f : Nat → Nat) (E : Ent α) (seen : Array Nat) : Nat := ((E.filter fun p => seen.contains p.2.2).map fun p => f p.2.1).sum
theorem sumEn_none (f : Nat → Nat) (E : Ent α) : sumEn f E #[] = 0 := by
  unfold sumEn
  have : (E.filter fun p => (#[] : Array Nat).contains p.2.2) = [] := by
    rw [List.filter_eq_nil_iff]
    simp
  rw [this]
  rfl
theorem sumEn_all {f : Nat → Nat} {E : Ent α} {seen : Array Nat} (h : ∀ p, p ∈ E → seen.contains p.2.2 = true) : sumEn f E seen = (E.map fun p => f p.2.1).sum := by
  unfold sumEn
  rw [List.filter_eq_self.2 h]
theorem sumEn_push (f : Nat → Nat) (seen : Array Nat) (p : α × Nat × Nat) (hs : seen.contains p.2.2 = false) : ∀ E : Ent α, (bornE E).Nodup → p ∈ E → sumEn f E (seen.push p.2.2) = f p.2.1 + sumEn f E seen
  | [], _, h => by cases h
  | q :: E, hn, h => by
    unfold bornE at hn
    rw [List.map_cons, List.nodup_cons] at hn
    unfold sumEn
    rw [List.filter_cons, List.filter_cons]
    rcases List.mem_cons.1 h with rfl | h
    · have e : E.filter (fun x => (seen.push p.2.2).contains x.2.2) = E.filter (fun x => seen.contains x.2.2) := by
        apply List.filter_congr
        intro x hx
        rw [contains_push]
        have : (x.2.2 == p.2.2) = false := by
          rw [beq_eq_false_iff_ne]
          intro e
          exact hn.1 (by rw [← e]; exact List.mem_map_of_mem (f := fun z : α × Nat × Nat => z.2.2) hx)
        rw [this, Bool.or_false]
      have h1 : (seen.push p.2.2).contains p.2.2 = true := by rw [contains_push]; simp
      rw [h1, hs, e]
      simp
    · have ih := sumEn_push f seen p hs E hn.2 h
      unfold sumEn at ih
      have hne : (q.2.2 == p.2.2) = false := by
        rw [beq_eq_false_iff_ne]
        intro e
        exact hn.1 (by rw [e]; exact List.mem_map_of_mem (f := fun z : α × Nat × Nat => z.2.2) h)
      have hc : (seen.push p.2.2).contains q.2.2 = seen.contains q.2.2 := by rw [contains_push, hne, Bool.or_false]
      rw [hc]
      cases seen.contains q.2.2 with
      | true => simp only [if_true, List.map_cons, List.sum_cons]; omega
      | false => simp only [Bool.false_eq_true, if_false]; exact ih
theorem sumEn_le (f : Nat → Nat) (E : Ent α) (seen : Array Nat) : sumEn f E seen ≤ (E.map fun p => f p.2.1).sum := by
  unfold sumEn
  induction E with
  | nil => exact Nat.le_refl _
  | cons q E ih =>
    rw [List.filter_cons, List.map_cons, List.sum_cons]
    split
    · rw [List.map_cons, List.sum_cons]; omega
    · omega
theorem perm_sum {l m : List Nat} (h : l.Perm m) : l.sum = m.sum := by
  induction h with
  | nil => rfl
  | cons x _ ih => rw [List.sum_cons, List.sum_cons, ih]
  | swap x y l => simp only [List.sum_cons]; omega
  | trans _ _ ih1 ih2 => exact ih1.trans ih2
theorem pr_sum {f : Nat → Nat} {E : Ent α} {l : List (α × Nat)} (h : (pr E).Perm l) : (E.map fun p => f p.2.1).sum = (l.map fun p => f p.2).sum := by
  rw [← perm_sum (h.map fun p => f p.2)]
  unfold pr
  rw [List.map_map]
  rfl
end
end Go.St
