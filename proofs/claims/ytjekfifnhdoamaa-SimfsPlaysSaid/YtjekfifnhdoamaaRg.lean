/- A region whose operations make memory or only read, each told by a predicate on the value that it yields: one look at each operation, in the text's order, serves every order. -/
import Derived.WalkKit
import Derived.Still
import Derived.Deep.Draws
set_option linter.unusedSimpArgs false
set_option linter.unusedVariables false
set_option linter.unnecessarySimpa false
namespace Go.Rg
open Go.RowKit

/-- what was there stays as it was -/
abbrev Ext (w w' : World) : Prop := Below w.heap.size w w'
theorem Ext.rfl (w : World) : Ext w w := Below.refl _ _
theorem Ext.tr {a b c : World} (h : Ext a b) (k : Ext b c) : Ext a c := Below.trans h (Below.mono k h.size)
theorem Ext.dr {a b : World} (h : Ext a b) : Ext a { b with drawn := b.drawn + 1 } := ⟨h.os, h.tape, h.output, h.size, h.block⟩
theorem Ext.drN {a b : World} (h : Ext a b) (n : Nat) : Ext a (b.drewN n) := ⟨h.os, h.tape, h.output, h.size, h.block⟩
theorem Ext.al {a b : World} (h : Ext a b) (o : Obj) : Ext a (b.alloc o) := Below.alloc h h.size o

/-- what is known of a slot -/
inductive SV where
  | ex (v : Value)
  | rel (V : Value → World → Prop) (h : ∀ v w w', Ext w w' → V v w → V v w')
def SV.holds : SV → Value → World → Prop
  | .ex v, x, _ => x = v
  | .rel V _, x, w => V x w
theorem SV.go {V : SV} {v : Value} {w w' : World} (he : Ext w w') (hv : V.holds v w) : V.holds v w' := by
  cases V with
  | ex u => exact hv
  | rel V h => exact h v w w' he hv

def setD (s : List SV) (d : Option Tmp) (V : SV) : List SV := match d with | some t => s.set t V | none => s

def Upon (P : Program) (V : SV) (w : World) : Result Next → Prop
  | .ok (.value v) w' => Ext w w' ∧ V.holds v w'
  | .ok .skip w' => Ext w w' ∧ V.holds undef w'
  | .ok (.enter f args) w' => Ext w w' ∧ Calls P f args w' (fun e w'' => ∃ v, e = .returned v ∧ Ext w w'' ∧ V.holds v w'')
  | _ => False

def Ob (P : Program) (ops : Array Oper) (w0 : World) (o : Oper) (f : Nat → Option SV) (V : SV) : Prop :=
  ∀ (a : Act) (w : World), Ext w0 w →
    (∀ t ∈ o.looksAt ops, ∀ V', f t = some V' → t < a.tmps.size ∧ V'.holds (a.tmps.getD t undef) w) →
    if Region.wanted o (yielded ops a.tmps) then Upon P V w ((execOp a.eval o).run P w) else V.holds undef w

def rg (P : Program) (ops : Array Oper) (w0 : World) (K : List SV → Prop) : List Oper → List SV → Prop
  | [], s => K s
  | o :: rest, s => ∃ V, Ob P ops w0 o (fun t => s[t]?) V ∧ rg P ops w0 K rest (setD s o.dst V)

/-! ### the check -/
def masks (ops : Array Oper) : Array Nat := Region.before ops
def chk (ops : Array Oper) (B : Array Nat) : Bool :=
  (List.range ops.size).all fun i =>
    match ops[i]? with
    | none => true
    | some o =>
      (o.after.all fun e => !Region.binds .any e || decide (e.on < i)) &&
      (List.range ops.size).all fun k =>
        (!(B.getD i 0).testBit k || o.after.any fun e => Region.binds .any e && decide (e.on < i) && (e.on == k || (B.getD e.on 0).testBit k)) &&
        (match ops[k]? with
         | none => true
         | some ok =>
           match ok.dst with
           | none => true
           | some t => k == i || !((o.looksAt ops).contains t || o.dst == some t) || (if k < i then (B.getD i 0).testBit k else (B.getD k 0).testBit i))

section
variable {P : Program} {ops : Array Oper} {B : Array Nat} {w0 : World}

/-- all edges of what is listed are listed -/
def Closed (ops : Array Oper) (L : Nat → Bool) : Prop := ∀ i o, ops[i]? = some o → L i = true → ∀ e ∈ o.after, Region.binds .any e = true → L e.on = true

theorem chk_at (h : chk ops B = true) {i : Nat} {o : Oper} (ho : ops[i]? = some o) :
    (∀ e ∈ o.after, Region.binds .any e = true → e.on < i) ∧
    (∀ k, k < ops.size → (B.getD i 0).testBit k = true → ∃ e ∈ o.after, Region.binds .any e = true ∧ e.on < i ∧ (e.on = k ∨ (B.getD e.on 0).testBit k = true)) ∧
    (∀ k ok t, ops[k]? = some ok → ok.dst = some t → k ≠ i → (t ∈ o.looksAt ops ∨ o.dst = some t) → (k < i → (B.getD i 0).testBit k = true) ∧ (i < k → (B.getD k 0).testBit i = true)) := by
  have hi : i < ops.size := (Array.getElem?_eq_some_iff.1 ho).1
  unfold chk at h
  rw [List.all_eq_true] at h
  have h1 := h i (List.mem_range.2 hi)
  simp only [ho, Bool.and_eq_true] at h1
  obtain ⟨ha, hb⟩ := h1
  rw [List.all_eq_true] at hb
  refine ⟨fun e he hbd => ?_, fun k hk ht => ?_, fun k ok t hok hd hne hin => ?_⟩
  · have := (Array.all_eq_true_iff_forall_mem.1 ha) e he
    simp [hbd] at this
    exact this
  · have h2 := hb k (List.mem_range.2 hk)
    simp only [Bool.and_eq_true] at h2
    have h3 := h2.1
    simp only [ht, Bool.not_true, Bool.false_or, Array.any_eq_true'] at h3
    obtain ⟨e, he, h4⟩ := h3
    simp only [Bool.and_eq_true, decide_eq_true_eq, Bool.or_eq_true, beq_iff_eq] at h4
    exact ⟨e, he, h4.1.1, h4.1.2, h4.2⟩
  · have hk : k < ops.size := (Array.getElem?_eq_some_iff.1 hok).1
    have h2 := hb k (List.mem_range.2 hk)
    simp only [Bool.and_eq_true, hok, hd] at h2
    have h3 := h2.2
    have hc : ((o.looksAt ops).contains t || o.dst == some t) = true := by
      rcases hin with h | h
      · simp [h]
      · simp [h]
    simp only [hc, Bool.not_true, Bool.or_false, Bool.or_eq_true, beq_iff_eq, hne, false_or] at h3
    constructor
    · intro hlt; rw [if_pos hlt] at h3; exact h3
    · intro hlt; rw [if_neg (by omega)] at h3; exact h3

theorem before_listed (h : chk ops B = true) {L : Nat → Bool} (hL : Closed ops L) : ∀ i, (∀ o, ops[i]? = some o → ∀ e ∈ o.after, Region.binds .any e = true → L e.on = true) →
    ∀ k, k < ops.size → i < ops.size → (B.getD i 0).testBit k = true → L k = true := by
  intro i
  induction i using Nat.strongRecOn with
  | _ i ih =>
    intro hr k hk hi ht
    have ho : ops[i]? = some ops[i] := Array.getElem?_eq_getElem hi
    obtain ⟨_, h2, _⟩ := chk_at h ho
    obtain ⟨e, he, hb, hlt, hor⟩ := h2 k hk ht
    have hl := hr _ ho e he hb
    rcases hor with rfl | hor
    · exact hl
    · exact ih e.on hlt (fun o ho' e' he' hb' => hL e.on o ho' hl e' he' hb') k hk (by omega) hor

/-- what is known once so many are looked at, of those that are listed -/
def knowTo (ops : Array Oper) (Vs : Nat → SV) (s0 : List SV) (L : Nat → Bool) : Nat → List SV
  | 0 => s0
  | i + 1 => if L i then setD (knowTo ops Vs s0 L i) ((ops[i]?).bind (·.dst)) (Vs i) else knowTo ops Vs s0 L i

theorem length_setD (s : List SV) (d : Option Tmp) (V : SV) : (setD s d V).length = s.length := by cases d <;> simp [setD]
theorem length_knowTo (Vs : Nat → SV) (s0 : List SV) (L : Nat → Bool) (n : Nat) : (knowTo ops Vs s0 L n).length = s0.length := by
  induction n with
  | zero => rfl
  | succ n ih => simp only [knowTo]; split <;> simp [length_setD, ih]
theorem get_setD (s : List SV) (d : Option Tmp) (V : SV) (t : Nat) : (setD s d V)[t]? = if d = some t ∧ t < s.length then some V else s[t]? := by
  cases d with
  | none => simp [setD]
  | some u =>
    simp only [setD, List.getElem?_set, Option.some.injEq]
    by_cases hu : u = t
    · subst hu; by_cases hl : u < s.length <;> simp [hl]
    · simp [hu]

theorem know_read (h : chk ops B = true) {L : Nat → Bool} (hL : Closed ops L) (Vs : Nat → SV) (s0 : List SV) {i : Nat} {o : Oper} (ho : ops[i]? = some o) (hun : L i = false)
    (hr : ∀ e ∈ o.after, Region.binds .any e = true → L e.on = true) {t : Nat} (ht : t ∈ o.looksAt ops ∨ o.dst = some t) :
    ∀ n, n ≤ ops.size → (knowTo ops Vs s0 L n)[t]? = (knowTo ops Vs s0 (fun _ => true) (min n i))[t]? := by
  have hi : i < ops.size := (Array.getElem?_eq_some_iff.1 ho).1
  obtain ⟨_, _, h3⟩ := chk_at h ho
  have hbef := before_listed h hL i (fun o' ho' => by rw [ho] at ho'; cases ho'; exact hr)
  intro n
  induction n with
  | zero => intro _; simp [knowTo]
  | succ n ih =>
    intro hn
    have ih := ih (by omega)
    have hon : ops[n]? = some ops[n] := Array.getElem?_eq_getElem (by omega)
    rcases Nat.lt_or_ge n i with hlt | hge
    · rw [show min (n + 1) i = n + 1 by omega]
      rw [show min n i = n by omega] at ih
      simp only [knowTo, if_true]
      by_cases hln : L n = true
      · rw [if_pos hln, get_setD, get_setD, ih, length_knowTo, length_knowTo]
      · rw [if_neg hln, get_setD, ih, length_knowTo]
        rw [if_neg]
        rintro ⟨hd, _⟩
        rw [hon] at hd
        have hbit := (h3 n _ t hon hd (by omega) ht).1 hlt
        exact hln (hbef n (by omega) hi hbit)
    · rw [show min (n + 1) i = i by omega]
      rw [show min n i = i by omega] at ih
      simp only [knowTo]
      by_cases hln : L n = true
      · rw [if_pos hln, get_setD, ih, length_knowTo]
        rw [if_neg]
        rintro ⟨hd, _⟩
        rw [hon] at hd
        have hne : n ≠ i := fun e => by subst e; rw [hun] at hln; cases hln
        have hbit := (h3 n _ t hon hd hne ht).2 (by omega)
        have := before_listed h hL n (fun o' ho' e' he' hb' => hL n o' ho' hln e' he' hb') i hi (by omega) hbit
        rw [hun] at this; cases this
      · rw [if_neg hln]; exact ih

theorem know_other (Vs : Nat → SV) (s0 : List SV) {L L' : Nat → Bool} {i : Nat} (hne : ∀ j, j ≠ i → L' j = L j) (hi : L i = false) (hi' : L' i = true) {t : Nat} (ht : (ops[i]?).bind (·.dst) ≠ some t) :
    ∀ n, (knowTo ops Vs s0 L' n)[t]? = (knowTo ops Vs s0 L n)[t]? := by
  intro n
  induction n with
  | zero => rfl
  | succ n ih =>
    simp only [knowTo]
    by_cases hn : n = i
    · subst hn
      rw [if_pos hi', if_neg (by rw [hi]; exact Bool.false_ne_true), get_setD, if_neg (fun e => ht e.1), ih]
    · rw [hne n hn]
      by_cases hl : L n = true
      · rw [if_pos hl, if_pos hl, get_setD, get_setD, ih, length_knowTo, length_knowTo]
      · rw [if_neg hl, if_neg hl, ih]

theorem know_same (h : chk ops B = true) {L L' : Nat → Bool} (hL : Closed ops L) (Vs : Nat → SV) (s0 : List SV) {i : Nat} {o : Oper} (ho : ops[i]? = some o) (hun : L i = false)
    (hne : ∀ j, j ≠ i → L' j = L j) (hi' : L' i = true) {t : Nat} (hd : o.dst = some t) (hlen : t < s0.length) :
    ∀ n, i < n → n ≤ ops.size → (knowTo ops Vs s0 L' n)[t]? = some (Vs i) := by
  have hi : i < ops.size := (Array.getElem?_eq_some_iff.1 ho).1
  obtain ⟨_, _, h3⟩ := chk_at h ho
  intro n
  induction n with
  | zero => intro h0 _; omega
  | succ n ih =>
    intro hin hn
    have hon : ops[n]? = some ops[n] := Array.getElem?_eq_getElem (by omega)
    simp only [knowTo]
    by_cases hni : n = i
    · subst hni
      rw [if_pos hi', get_setD, ho, if_pos ⟨hd, by rw [length_knowTo]; exact hlen⟩]
    · have ih := ih (by omega) (by omega)
      rw [hne n hni]
      by_cases hl : L n = true
      · rw [if_pos hl, get_setD, ih, if_neg]
        rintro ⟨hd', _⟩
        rw [hon] at hd'
        have hbit := (h3 n _ t hon hd' hni (Or.inr hd)).2 (by omega)
        have := before_listed h hL n (fun o' ho' e' he' hb' => hL n o' ho' hl e' he' hb') i hi (by omega) hbit
        rw [hun] at this; cases this
      · rw [if_neg hl]; exact ih

/-- what holds of a frame -/
def Holds (s : List SV) (a : Act) (w : World) : Prop := a.tmps.size = s.length ∧ ∀ t (V : SV), s[t]? = some V → V.holds (a.tmps.getD t undef) w

theorem Holds.ext {s : List SV} {a : Act} {w w' : World} (h : Holds s a w) (he : Ext w w') : Holds s a w' :=
  ⟨h.1, fun t V ht => SV.go he (h.2 t V ht)⟩

/-- the listing, as a function -/
def Lof (listed : Array Bool) : Nat → Bool := fun i => listed.getD i false

def unl (n : Nat) (listed : Array Bool) : Nat := (List.range n).countP fun i => !listed.getD i true

theorem getD_set (listed : Array Bool) (i j : Nat) (d : Bool) (hi : i < listed.size) : (listed.setIfInBounds i true).getD j d = if j = i then true else listed.getD j d := by
  by_cases h : j = i
  · subst h; simp [hi]
  · rw [if_neg h, getD_set_ne d (Ne.symm h)]

theorem countP_lt {n : Nat} {p q : Nat → Bool} {i : Nat} (hi : i < n) (hp : p i = true) (hq : q i = false) (h : ∀ j, q j = true → p j = true) : (List.range n).countP q < (List.range n).countP p := by
  induction n with
  | zero => omega
  | succ n ih =>
    rw [List.range_succ, List.countP_append, List.countP_append]
    have hle : (List.range n).countP q ≤ (List.range n).countP p := List.countP_mono_left fun j _ hj => h j hj
    by_cases hn : i = n
    · subst hn; simp [hp, hq]; omega
    · have := ih (by omega)
      have h2 : [n].countP q ≤ [n].countP p := List.countP_mono_left fun j _ hj => h j hj
      omega

theorem wpAny_of_know {Q : Exit → Act → World → Prop} (h : chk ops B = true) {Vs : Nat → SV} {s0 : List SV} {d0 : List Deferred}
    (hob : ∀ i o, ops[i]? = some o → Ob P ops w0 o (fun t => (knowTo ops Vs s0 (fun _ => true) i)[t]?) (Vs i))
    (hQ : ∀ a w, Ext w0 w → a.defers = d0 → Holds (knowTo ops Vs s0 (fun _ => true) ops.size) a w → Q .normal a w) :
    ∀ (fuel : Nat) (listed : Array Bool) (a : Act) (w : World), listed.size = ops.size → unl ops.size listed ≤ fuel → Closed ops (Lof listed) → Ext w0 w → a.defers = d0 →
      Holds (knowTo ops Vs s0 (Lof listed) ops.size) a w → wpAny P .any ops Q fuel listed a w := by
  have hdone : ∀ (listed : Array Bool) (a : Act) (w : World), listed.size = ops.size → Region.ready .any ops listed = [] → Ext w0 w → a.defers = d0 →
      Holds (knowTo ops Vs s0 (Lof listed) ops.size) a w → Q .normal a w := by
    intro listed a w hsz hr he hd hh
    have hall : ∀ i, i < ops.size → Lof listed i = true := by
      intro i
      induction i using Nat.strongRecOn with
      | _ i ih =>
        intro hi
        have ho : ops[i]? = some ops[i] := Array.getElem?_eq_getElem hi
        cases hl : Lof listed i with
        | true => rfl
        | false =>
          exfalso
          have : i ∈ Region.ready .any ops listed := mem_ready.2 ⟨by
            have : i < listed.size := by omega
            simp [Lof, this] at hl ⊢; exact hl, _, ho, fun e he hb => ih e.on ((chk_at h ho).1 e he hb) (by have := (chk_at h ho).1 e he hb; omega)⟩
          rw [hr] at this; cases this
    refine hQ a w he hd ?_
    have : ∀ n, n ≤ ops.size → knowTo ops Vs s0 (Lof listed) n = knowTo ops Vs s0 (fun _ => true) n := by
      intro n
      induction n with
      | zero => intro _; rfl
      | succ n ih => intro hn; simp only [knowTo, if_true]; rw [if_pos (hall n (by omega)), ih (by omega)]
    rw [← this ops.size (Nat.le_refl _)]; exact hh
  intro fuel
  induction fuel with
  | zero =>
    intro listed a w hsz hu hcl he hd hh
    have hr : Region.ready .any ops listed = [] := by
      cases hr : Region.ready .any ops listed with
      | nil => rfl
      | cons x xs =>
        exfalso
        have hx : x ∈ Region.ready .any ops listed := by rw [hr]; simp
        obtain ⟨hun, o, ho, _⟩ := mem_ready.1 hx
        have hxs : x < ops.size := (Array.getElem?_eq_some_iff.1 ho).1
        have : 0 < unl ops.size listed := by
          unfold unl
          exact List.countP_pos_iff.2 ⟨x, List.mem_range.2 hxs, by rw [hun]; rfl⟩
        omega
    exact ⟨hr, hdone listed a w hsz hr he hd hh⟩
  | succ fuel ih =>
    intro listed a w hsz hu hcl he hd hh
    refine ⟨fun hr => hdone listed a w hsz hr he hd hh, fun i hi => ?_⟩
    obtain ⟨hun, o, ho, hedge⟩ := mem_ready.1 hi
    have his : i < ops.size := (Array.getElem?_eq_some_iff.1 ho).1
    have hil : i < listed.size := by omega
    have hunL : Lof listed i = false := by simp [Lof, hil] at hun ⊢; exact hun
    have hread := fun t ht => know_read (t := t) h hcl Vs s0 ho hunL hedge ht ops.size (Nat.le_refl _)
    rw [show min ops.size i = i by omega] at hread
    have hlooks : ∀ t ∈ o.looksAt ops, ∀ V', (knowTo ops Vs s0 (fun _ => true) i)[t]? = some V' → t < a.tmps.size ∧ V'.holds (a.tmps.getD t undef) w := fun t ht V' hV' => by
      have hk : (knowTo ops Vs s0 (Lof listed) ops.size)[t]? = some V' := by rw [hread t (Or.inl ht)]; exact hV'
      exact ⟨by rw [hh.1]; exact (List.getElem?_eq_some_iff.1 hk).1, hh.2 t V' hk⟩
    have hO := hob i o ho a w he hlooks
    -- the next state
    have hLne : ∀ j, j ≠ i → Lof (listed.setIfInBounds i true) j = Lof listed j := fun j hj => by simp only [Lof]; rw [getD_set _ _ _ _ hil, if_neg hj]
    have hLi : Lof (listed.setIfInBounds i true) i = true := by simp only [Lof]; rw [getD_set _ _ _ _ hil, if_pos rfl]
    have hcl' : Closed ops (Lof (listed.setIfInBounds i true)) := by
      intro j oj hj hlj e hej hbj
      by_cases hji : j = i
      · subst hji
        rw [ho] at hj; cases hj
        have := hedge e hej hbj
        by_cases hei : e.on = j
        · rw [hei]; exact hLi
        · rw [hLne _ hei]; exact this
      · rw [hLne j hji] at hlj
        have := hcl j oj hj hlj e hej hbj
        by_cases hei : e.on = i
        · rw [hei]; exact hLi
        · rw [hLne _ hei]; exact this
    have hu' : unl ops.size (listed.setIfInBounds i true) ≤ fuel := by
      have : unl ops.size (listed.setIfInBounds i true) < unl ops.size listed := countP_lt his (by rw [hun]; rfl) (by rw [getD_set _ _ _ _ hil, if_pos rfl]; rfl) (fun j hj => by
        rw [getD_set _ _ _ _ hil] at hj
        by_cases hji : j = i
        · rw [if_pos hji] at hj; cases hj
        · rw [if_neg hji] at hj; exact hj)
      omega
    have next : ∀ v w', Ext w w' → (Vs i).holds v w' → wpAny P .any ops Q fuel (listed.setIfInBounds i true) (a.put o.dst v) w' := by
      intro v w' hww hv
      refine ih _ _ _ (by simp [hsz]) hu' hcl' (he.tr hww) (by cases o.dst <;> exact hd) ?_
      have hh' := hh.ext hww
      refine ⟨?_, fun t V ht => ?_⟩
      · rw [length_knowTo]
        have := hh.1
        rw [length_knowTo] at this
        cases o.dst <;> simp [Act.put, this]
      · by_cases hdt : o.dst = some t
        · by_cases hlen : t < s0.length
          · rw [know_same h hcl Vs s0 ho hunL hLne hLi hdt hlen ops.size his (Nat.le_refl _)] at ht
            cases ht
            have hsz' : t < a.tmps.size := by rw [hh.1, length_knowTo]; exact hlen
            have hg : (a.put o.dst v).tmps.getD t undef = v := by simp [Act.put, hdt, hsz']
            rw [hg]; exact hv
          · have : (knowTo ops Vs s0 (Lof (listed.setIfInBounds i true)) ops.size)[t]? = none := by
              rw [List.getElem?_eq_none_iff, length_knowTo]; omega
            rw [this] at ht; cases ht
        · have hne' : (ops[i]?).bind (·.dst) ≠ some t := by rw [ho]; exact hdt
          rw [know_other Vs s0 hLne hunL hLi hne' ops.size] at ht
          have hg : (a.put o.dst v).tmps.getD t undef = a.tmps.getD t undef := by
            cases hdo : o.dst with
            | none => simp [Act.put]
            | some u =>
              have : u ≠ t := fun e => hdt (by rw [hdo, e])
              simp [Act.put, this]
          rw [hg]; exact hh'.2 t V ht
    unfold wpOp
    simp only [ho]
    split
    · rename_i hw
      rw [if_pos hw] at hO
      refine .inl ?_
      unfold Oper.wp
      generalize (execOp a.eval o).run P w = r at *
      cases r with
      | ok n w' =>
        cases n <;> simp only [Upon] at hO <;> simp only [Oper.upon]
        case value v => exact next v w' hO.1 hO.2
        case skip => exact next undef w' hO.1 hO.2
        case enter f args =>
          exact hO.2.mono fun e w'' ⟨v, hev, hx, hv⟩ => by subst hev; exact next v w'' hx hv
      | halt x w' => simp only [Upon] at hO
    · rename_i hw
      rw [if_neg hw] at hO
      exact next undef w (Ext.rfl w) hO

theorem rg_know {K : List SV → Prop} : ∀ (l : List Oper) (k : Nat) (Vs : Nat → SV) (s0 : List SV), (∀ j, l[j]? = ops[k + j]?) → k + l.length = ops.size →
    rg P ops w0 K l (knowTo ops Vs s0 (fun _ => true) k) →
    ∃ Vs', (∀ i, i < k → Vs' i = Vs i) ∧ (∀ i o, k ≤ i → ops[i]? = some o → Ob P ops w0 o (fun t => (knowTo ops Vs' s0 (fun _ => true) i)[t]?) (Vs' i)) ∧ K (knowTo ops Vs' s0 (fun _ => true) ops.size)
  | [], k, Vs, s0, hl, hk, h => ⟨Vs, fun _ _ => rfl, fun i o hi ho => by
      have := (Array.getElem?_eq_some_iff.1 ho).1
      simp at hk; omega, by simp at hk; rw [← hk]; exact h⟩
  | o :: l, k, Vs, s0, hl, hk, h => by
    obtain ⟨V, hO, hr⟩ := h
    have ho : ops[k]? = some o := by simpa using (hl 0).symm
    have hcong : ∀ (U U' : Nat → SV) n, (∀ i, i < n → U i = U' i) → knowTo ops U s0 (fun _ => true) n = knowTo ops U' s0 (fun _ => true) n := by
      intro U U' n
      induction n with
      | zero => intro _; rfl
      | succ n ih => intro hU; simp only [knowTo, if_true]; rw [ih (fun i hi => hU i (by omega)), hU n (by omega)]
    let Vn : Nat → SV := fun i => if i = k then V else Vs i
    have e1 : knowTo ops Vn s0 (fun _ => true) k = knowTo ops Vs s0 (fun _ => true) k := hcong _ _ _ fun i hi => by simp only [Vn]; rw [if_neg (by omega)]
    have e2 : knowTo ops Vn s0 (fun _ => true) (k + 1) = setD (knowTo ops Vs s0 (fun _ => true) k) o.dst V := by
      simp only [knowTo, if_true, e1, ho, Option.bind_some, Vn]
    obtain ⟨Vs', h1, h2, h3⟩ := rg_know l (k + 1) Vn s0 (fun j => by have := hl (j + 1); simpa [Nat.add_assoc, Nat.add_comm 1 j] using this) (by simp at hk; omega) (by rw [e2]; exact hr)
    refine ⟨Vs', fun i hi => by rw [h1 i (by omega)]; simp only [Vn]; rw [if_neg (by omega)], fun i o' hi ho' => ?_, h3⟩
    by_cases hik : i = k
    · subst hik
      rw [ho] at ho'; cases ho'
      have e3 : Vs' i = V := by rw [h1 i (by omega)]; simp [Vn]
      have e4 : knowTo ops Vs' s0 (fun _ => true) i = knowTo ops Vs s0 (fun _ => true) i := hcong _ _ _ fun j hj => by
        rw [h1 j (by omega)]; simp only [Vn]; rw [if_neg (by omega)]
      rw [e3, e4]; exact hO
    · exact h2 i o' (by omega) ho'

/-- a frame written out, the slots that are told by a predicate as variables -/
def opens (w : World) : List SV → (List Value → Prop) → Prop
  | [], K => K []
  | .ex v :: s, K => opens w s (fun l => K (v :: l))
  | .rel V _ :: s, K => ∀ v, V v w → opens w s (fun l => K (v :: l))

theorem opens_holds {w : World} : ∀ (s : List SV) (K : List Value → Prop) (l : List Value), l.length = s.length → (∀ t (V : SV), s[t]? = some V → V.holds (l.getD t undef) w) → opens w s K → K l
  | [], K, l, hl, _, h => by
    have : l = [] := List.eq_nil_of_length_eq_zero (by simpa using hl)
    subst this; exact h
  | V :: s, K, [], hl, _, _ => by simp at hl
  | V :: s, K, v :: l, hl, hh, h => by
    have hv : V.holds v w := by have := hh 0 V rfl; simpa using this
    have hr : ∀ t (V : SV), s[t]? = some V → V.holds (l.getD t undef) w := fun t V' ht => by
      have := hh (t + 1) V' (by simpa using ht)
      simpa using this
    cases V with
    | ex u =>
      have : v = u := hv
      subst this
      exact opens_holds s (fun l => K (v :: l)) l (by simpa using hl) hr h
    | rel V _ => exact opens_holds s (fun l => K (v :: l)) l (by simpa using hl) hr (h v hv)

/-! ### what is known, as a list of what was laid last -/
def asg (ts : List SV) : List (Nat × SV) → List SV
  | [] => ts
  | (t, V) :: r => (asg ts r).set t V
def look (ts : List SV) : List (Nat × SV) → Nat → Option SV
  | [], t => ts[t]?
  | (i, V) :: r, t => bif Nat.beq i t then some V else look ts r t
theorem length_asg (ts : List SV) : ∀ r, (asg ts r).length = ts.length
  | [] => rfl
  | (t, V) :: r => by simp [asg, length_asg ts r]
theorem look_asg (ts : List SV) : ∀ r, (∀ x ∈ r, x.1 < ts.length) → ∀ t, (asg ts r)[t]? = look ts r t
  | [], _, _ => rfl
  | (i, V) :: r, h, t => by
    simp only [asg, look]
    rw [List.getElem?_set, length_asg]
    have hi : i < ts.length := h (i, V) (List.mem_cons_self ..)
    have ih := look_asg ts r (fun x hx => h x (List.mem_cons_of_mem _ hx)) t
    by_cases he : i = t
    · subst he
      rw [if_pos rfl, if_pos hi]
      simp
    · rw [if_neg he, ih]
      have : Nat.beq i t = false := by
        cases hb : Nat.beq i t with
        | false => rfl
        | true => exact absurd (Nat.eq_of_beq_eq_true hb) he
      rw [this]; rfl

def rgA (P : Program) (ops : Array Oper) (w0 : World) (K : List SV → Prop) (ts : List SV) : List Oper → List (Nat × SV) → Prop
  | [], r => K (asg ts r)
  | o :: rest, r => ∃ V, Ob P ops w0 o (look ts r) V ∧ match o.dst with
    | some t => t < ts.length ∧ rgA P ops w0 K ts rest ((t, V) :: r)
    | none => rgA P ops w0 K ts rest r

theorem rg_of_rgA {K : List SV → Prop} (ts : List SV) : ∀ (l : List Oper) (r : List (Nat × SV)), (∀ x ∈ r, x.1 < ts.length) → rgA P ops w0 K ts l r → rg P ops w0 K l (asg ts r)
  | [], _, _, h => h
  | o :: rest, r, hr, h => by
    obtain ⟨V, hO, hn⟩ := h
    refine ⟨V, ?_, ?_⟩
    · have : (fun t => (asg ts r)[t]?) = look ts r := funext fun t => look_asg ts r hr t
      rw [this]; exact hO
    · cases hd : o.dst with
      | none => rw [hd] at hn; exact rg_of_rgA ts rest r hr hn
      | some t =>
        rw [hd] at hn
        exact rg_of_rgA ts rest ((t, V) :: r) (fun x hx => by
          rcases List.mem_cons.1 hx with rfl | hx
          · exact hn.1
          · exact hr x hx) hn.2

theorem wp_draw {id : Nat} {Q : Exit → Act → World → Prop} {l : List Oper} {ts : List Value} {d0 : List Deferred} {w : World} (hm : P.follows .mixedOrders = true)
    (hc : chk l.toArray (masks l.toArray) = true)
    (hA : rgA P l.toArray w (fun s => ∀ w', Ext w w' → opens w' s (fun ts' => Q .normal ⟨ts'.toArray, d0⟩ w')) (ts.map SV.ex) l []) :
    (Code.region id l.toArray true).wp P Q ⟨ts.toArray, d0⟩ w := by
  have h := rg_of_rgA (ts.map SV.ex) l [] (fun x hx => by cases hx) hA
  refine wp_region_any hm ?_
  obtain ⟨Vs, _, hob, hK⟩ := rg_know (ops := l.toArray) l 0 (fun _ => .ex undef) (ts.map SV.ex) (by simp) (by simp) h
  refine wpAny_of_know hc (d0 := d0) (fun i o ho => hob i o (Nat.zero_le _) ho) ?_ _ _ _ _ (by simp) ?_ ?_ (Ext.rfl w).dr rfl ?_
  · intro a w' he hd hh
    have := hK w' he
    refine opens_holds _ _ a.tmps.toList (by simpa using hh.1) (fun t V ht => by simpa using hh.2 t V ht) this |> fun h => ?_
    have e : a = ⟨a.tmps.toList.toArray, d0⟩ := by cases a; simp at hd; simp [hd]
    rw [e]; exact h
  · unfold unl
    exact Nat.le_trans List.countP_le_length (by simp)
  · intro i o ho hl
    have hi := (Array.getElem?_eq_some_iff.1 ho).1
    simp [Lof] at hl
    have : i < l.length := by simpa using hi
    simp [this] at hl
  · have e : ∀ n, n ≤ l.toArray.size → knowTo l.toArray Vs (ts.map SV.ex) (Lof (Array.replicate l.toArray.size false)) n = ts.map SV.ex := by
      intro n
      induction n with
      | zero => intro _; rfl
      | succ n ih =>
        intro hn
        have : n < l.length := by have h9 := hn; simp at h9; omega
        simp only [knowTo]
        rw [if_neg (by simp [Lof, this]), ih (by omega)]
    rw [e _ (Nat.le_refl _)]
    refine ⟨by simp, fun t V ht => ?_⟩
    rw [List.getElem?_map] at ht
    cases hts : ts[t]? with
    | none => rw [hts] at ht; cases ht
    | some v =>
      rw [hts] at ht
      simp at ht
      subst ht
      show ts.toArray.getD t undef = v
      simp [hts]
end
end Go.Rg
