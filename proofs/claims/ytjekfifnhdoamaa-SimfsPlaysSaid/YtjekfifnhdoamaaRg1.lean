/- A region with one call that turns what was there, all else reading: one look at each operation, in the text's order, serves every order. -/
import Derived.Test.YtjekfifnhdoamaaRgOps
set_option linter.unusedSimpArgs false
set_option linter.unusedVariables false
set_option linter.unnecessarySimpa false
namespace Go.Rg
open Go.RowKit

/-- the one call, its result known -/
def ObC (P : Program) (ops : Array Oper) (I : Bool → World → Prop) (o : Oper) (f : Nat → Option SV) (v : Value) : Prop :=
  ∀ (a : Act) (w : World), I false w →
    (∀ t ∈ o.looksAt ops, ∀ V', f t = some V' → t < a.tmps.size ∧ V'.holds (a.tmps.getD t undef) w) →
    Region.wanted o (yielded ops a.tmps) = true ∧ ∃ g args, (execOp a.eval o).run P w = .ok (.enter g args) w ∧ Calls P g args w (fun e w'' => e = .returned v ∧ I true w'')
def O1 (P : Program) (ops : Array Oper) (I : Bool → World → Prop) (c i : Nat) (o : Oper) (f : Nat → Option SV) (V : SV) : Prop :=
  if i = c then ∃ v, V = .ex v ∧ ObC P ops I o f v else (∃ v, V = .ex v) ∧ ∀ b w, I b w → Ob P ops w o f V

def rgG (O : Nat → Oper → (Nat → Option SV) → SV → Prop) (K : List SV → Prop) : Nat → List Oper → List SV → Prop
  | _, [], s => K s
  | i, o :: rest, s => ∃ V, O i o (fun t => s[t]?) V ∧ rgG O K (i + 1) rest (setD s o.dst V)
def rgGA (O : Nat → Oper → (Nat → Option SV) → SV → Prop) (K : List SV → Prop) (ts : List SV) : Nat → List Oper → List (Nat × SV) → Prop
  | _, [], r => K (asg ts r)
  | i, o :: rest, r => ∃ V, O i o (look ts r) V ∧ match o.dst with
    | some t => t < ts.length ∧ rgGA O K ts (i + 1) rest ((t, V) :: r)
    | none => rgGA O K ts (i + 1) rest r

section
variable {P : Program} {ops : Array Oper} {B : Array Nat} {O : Nat → Oper → (Nat → Option SV) → SV → Prop}

theorem lits_set {s : List SV} (h : ∀ V ∈ s, ∃ v, V = SV.ex v) (d : Option Tmp) {V : SV} (hV : ∃ v, V = SV.ex v) : ∀ U ∈ setD s d V, ∃ v, U = SV.ex v := by
  intro U hU
  cases d with
  | none => exact h U hU
  | some t =>
    rcases List.mem_or_eq_of_mem_set hU with h1 | h1
    · exact h U h1
    · rw [h1]; exact hV
theorem lits_know {Vs : Nat → SV} {s0 : List SV} (h0 : ∀ V ∈ s0, ∃ v, V = SV.ex v) (L : Nat → Bool) : ∀ n, (∀ i, i < n → ∃ v, Vs i = SV.ex v) → ∀ V ∈ knowTo ops Vs s0 L n, ∃ v, V = SV.ex v
  | 0, _ => h0
  | n + 1, hV => by
    intro V hm
    simp only [knowTo] at hm
    split at hm
    · exact lits_set (lits_know h0 L n fun i hi => hV i (by omega)) _ (hV n (by omega)) V hm
    · exact lits_know h0 L n (fun i hi => hV i (by omega)) V hm
theorem Holds.lits {s : List SV} {a : Act} {w w' : World} (h : Holds s a w) (hl : ∀ V, V ∈ s → ∃ v, V = SV.ex v) : Holds s a w' :=
  ⟨h.1, fun t V ht => by
    obtain ⟨v, rfl⟩ := hl V (List.mem_of_getElem? ht)
    exact h.2 t _ ht⟩

theorem wpAny_of_know1 {Q : Exit → Act → World → Prop} (h : chk ops B = true) {Vs : Nat → SV} {s0 : List SV} {d0 : List Deferred}
    {I : Bool → World → Prop} {c : Nat} (hI : ∀ b w w', I b w → Ext w w' → I b w') (hlit0 : ∀ V ∈ s0, ∃ v, V = .ex v) (hlit : ∀ i, i < ops.size → ∃ v, Vs i = .ex v)
    (hob : ∀ i o, ops[i]? = some o → O1 P ops I c i o (fun t => (knowTo ops Vs s0 (fun _ => true) i)[t]?) (Vs i))
    (hcs : c < ops.size) (hQ : ∀ a w, I true w → a.defers = d0 → Holds (knowTo ops Vs s0 (fun _ => true) ops.size) a w → Q .normal a w) :
    ∀ (fuel : Nat) (listed : Array Bool) (a : Act) (w : World), listed.size = ops.size → unl ops.size listed ≤ fuel → Closed ops (Lof listed) → I (Lof listed c) w → a.defers = d0 →
      Holds (knowTo ops Vs s0 (Lof listed) ops.size) a w → wpAny P .any ops Q fuel listed a w := by
  have hdone : ∀ (listed : Array Bool) (a : Act) (w : World), listed.size = ops.size → Region.ready .any ops listed = [] → I (Lof listed c) w → a.defers = d0 →
      Holds (knowTo ops Vs s0 (Lof listed) ops.size) a w → Q .normal a w := by
    intro listed a w hsz hr he hd hh
    have hall : ∀ i, i < ops.size → Lof listed i = true := by
      intro i
      induction i using Nat.strongRecOn with
      | _ i ih =>
        intro hi
        have ho : ops[i]? = some ops[i] := Array.getElem?_eq_getElem hi
        cases hl : Lof listed i with
        | true => rfl
        | false =>
          exfalso
          have : i ∈ Region.ready .any ops listed := mem_ready.2 ⟨by
            have : i < listed.size := by omega
            simp [Lof, this] at hl ⊢; exact hl, _, ho, fun e he hb => ih e.on ((chk_at h ho).1 e he hb) (by have := (chk_at h ho).1 e he hb; omega)⟩
          rw [hr] at this; cases this
    refine hQ a w (by rw [hall c hcs] at he; exact he) hd ?_
    have : ∀ n, n ≤ ops.size → knowTo ops Vs s0 (Lof listed) n = knowTo ops Vs s0 (fun _ => true) n := by
      intro n
      induction n with
      | zero => intro _; rfl
      | succ n ih => intro hn; simp only [knowTo, if_true]; rw [if_pos (hall n (by omega)), ih (by omega)]
    rw [← this ops.size (Nat.le_refl _)]; exact hh
  intro fuel
  induction fuel with
  | zero =>
    intro listed a w hsz hu hcl he hd hh
    have hr : Region.ready .any ops listed = [] := by
      cases hr : Region.ready .any ops listed with
      | nil => rfl
      | cons x xs =>
        exfalso
        have hx : x ∈ Region.ready .any ops listed := by rw [hr]; simp
        obtain ⟨hun, o, ho, _⟩ := mem_ready.1 hx
        have hxs : x < ops.size := (Array.getElem?_eq_some_iff.1 ho).1
        have : 0 < unl ops.size listed := by
          unfold unl
          exact List.countP_pos_iff.2 ⟨x, List.mem_range.2 hxs, by rw [hun]; rfl⟩
        omega
    exact ⟨hr, hdone listed a w hsz hr he hd hh⟩
  | succ fuel ih =>
    intro listed a w hsz hu hcl he hd hh
    refine ⟨fun hr => hdone listed a w hsz hr he hd hh, fun i hi => ?_⟩
    obtain ⟨hun, o, ho, hedge⟩ := mem_ready.1 hi
    have his : i < ops.size := (Array.getElem?_eq_some_iff.1 ho).1
    have hil : i < listed.size := by omega
    have hunL : Lof listed i = false := by simp [Lof, hil] at hun ⊢; exact hun
    have hread := fun t ht => know_read (t := t) h hcl Vs s0 ho hunL hedge ht ops.size (Nat.le_refl _)
    rw [show min ops.size i = i by omega] at hread
    have hlooks : ∀ t ∈ o.looksAt ops, ∀ V', (knowTo ops Vs s0 (fun _ => true) i)[t]? = some V' → t < a.tmps.size ∧ V'.holds (a.tmps.getD t undef) w := fun t ht V' hV' => by
      have hk : (knowTo ops Vs s0 (Lof listed) ops.size)[t]? = some V' := by rw [hread t (Or.inl ht)]; exact hV'
      exact ⟨by rw [hh.1]; exact (List.getElem?_eq_some_iff.1 hk).1, hh.2 t V' hk⟩
    have hO0 := hob i o ho
    -- the next state
    have hLne : ∀ j, j ≠ i → Lof (listed.setIfInBounds i true) j = Lof listed j := fun j hj => by simp only [Lof]; rw [getD_set _ _ _ _ hil, if_neg hj]
    have hLi : Lof (listed.setIfInBounds i true) i = true := by simp only [Lof]; rw [getD_set _ _ _ _ hil, if_pos rfl]
    have hcl' : Closed ops (Lof (listed.setIfInBounds i true)) := by
      intro j oj hj hlj e hej hbj
      by_cases hji : j = i
      · subst hji
        rw [ho] at hj; cases hj
        have := hedge e hej hbj
        by_cases hei : e.on = j
        · rw [hei]; exact hLi
        · rw [hLne _ hei]; exact this
      · rw [hLne j hji] at hlj
        have := hcl j oj hj hlj e hej hbj
        by_cases hei : e.on = i
        · rw [hei]; exact hLi
        · rw [hLne _ hei]; exact this
    have hu' : unl ops.size (listed.setIfInBounds i true) ≤ fuel := by
      have : unl ops.size (listed.setIfInBounds i true) < unl ops.size listed := countP_lt his (by rw [hun]; rfl) (by rw [getD_set _ _ _ _ hil, if_pos rfl]; rfl) (fun j hj => by
        rw [getD_set _ _ _ _ hil] at hj
        by_cases hji : j = i
        · rw [if_pos hji] at hj; cases hj
        · rw [if_neg hji] at hj; exact hj)
      omega
    have hlits : ∀ V, V ∈ knowTo ops Vs s0 (Lof listed) ops.size → ∃ v, V = .ex v := lits_know hlit0 _ _ hlit
    have next : ∀ v w', I (Lof (listed.setIfInBounds i true) c) w' → (Vs i).holds v w' → wpAny P .any ops Q fuel (listed.setIfInBounds i true) (a.put o.dst v) w' := by
      intro v w' hww hv
      refine ih _ _ _ (by simp [hsz]) hu' hcl' hww (by cases o.dst <;> exact hd) ?_
      have hh' := hh.lits (w' := w') hlits
      refine ⟨?_, fun t V ht => ?_⟩
      · rw [length_knowTo]
        have := hh.1
        rw [length_knowTo] at this
        cases o.dst <;> simp [Act.put, this]
      · by_cases hdt : o.dst = some t
        · by_cases hlen : t < s0.length
          · rw [know_same h hcl Vs s0 ho hunL hLne hLi hdt hlen ops.size his (Nat.le_refl _)] at ht
            cases ht
            have hsz' : t < a.tmps.size := by rw [hh.1, length_knowTo]; exact hlen
            have hg : (a.put o.dst v).tmps.getD t undef = v := by simp [Act.put, hdt, hsz']
            rw [hg]; exact hv
          · have : (knowTo ops Vs s0 (Lof (listed.setIfInBounds i true)) ops.size)[t]? = none := by
              rw [List.getElem?_eq_none_iff, length_knowTo]; omega
            rw [this] at ht; cases ht
        · have hne' : (ops[i]?).bind (·.dst) ≠ some t := by rw [ho]; exact hdt
          rw [know_other Vs s0 hLne hunL hLi hne' ops.size] at ht
          have hg : (a.put o.dst v).tmps.getD t undef = a.tmps.getD t undef := by
            cases hdo : o.dst with
            | none => simp [Act.put]
            | some u =>
              have : u ≠ t := fun e => hdt (by rw [hdo, e])
              simp [Act.put, this]
          rw [hg]; exact hh'.2 t V ht
    unfold wpOp
    simp only [ho]
    unfold O1 at hO0
    by_cases hic : i = c
    · rw [if_pos hic] at hO0
      have he' : I false w := by rw [← hunL, hic]; exact he
      obtain ⟨v, hV, hO⟩ := hO0
      obtain ⟨hw, f, args, hrun, hcall⟩ := hO a w he' hlooks
      rw [if_pos hw]
      refine .inl ?_
      unfold Oper.wp
      rw [hrun]
      simp only [Oper.upon]
      refine hcall.mono fun e w'' ⟨hev, hx⟩ => ?_
      subst hev
      exact next v w'' (by rw [← hic, hLi]; exact hx) (by rw [hV]; exact rfl)
    · rw [if_neg hic] at hO0
      have hO := hO0.2 _ w he a w (Ext.rfl w) hlooks
      have hLc : Lof (listed.setIfInBounds i true) c = Lof listed c := hLne c (fun e => hic e.symm)
      split
      · rename_i hw
        rw [if_pos hw] at hO
        refine .inl ?_
        unfold Oper.wp
        generalize (execOp a.eval o).run P w = r at *
        cases r with
        | ok n w' =>
          cases n <;> simp only [Upon] at hO <;> simp only [Oper.upon]
          case value v => exact next v w' (by rw [hLc]; exact hI _ _ _ he hO.1) hO.2
          case skip => exact next undef w' (by rw [hLc]; exact hI _ _ _ he hO.1) hO.2
          case enter f args =>
            exact hO.2.mono fun e w'' ⟨v, hev, hx, hv⟩ => by subst hev; exact next v w'' (by rw [hLc]; exact hI _ _ _ he hx) hv
        | halt x w' => simp only [Upon] at hO
      · rename_i hw
        rw [if_neg hw] at hO
        exact next undef w (by rw [hLc]; exact he) hO

theorem rgG_know {K : List SV → Prop} : ∀ (l : List Oper) (k : Nat) (Vs : Nat → SV) (s0 : List SV), (∀ j, l[j]? = ops[k + j]?) → k + l.length = ops.size →
    rgG O K k l (knowTo ops Vs s0 (fun _ => true) k) →
    ∃ Vs', (∀ i, i < k → Vs' i = Vs i) ∧ (∀ i o, k ≤ i → ops[i]? = some o → O i o (fun t => (knowTo ops Vs' s0 (fun _ => true) i)[t]?) (Vs' i)) ∧ K (knowTo ops Vs' s0 (fun _ => true) ops.size)
  | [], k, Vs, s0, hl, hk, h => ⟨Vs, fun _ _ => rfl, fun i o hi ho => by
      have := (Array.getElem?_eq_some_iff.1 ho).1
      simp at hk; omega, by simp at hk; rw [← hk]; exact h⟩
  | o :: l, k, Vs, s0, hl, hk, h => by
    obtain ⟨V, hO, hr⟩ := h
    have ho : ops[k]? = some o := by simpa using (hl 0).symm
    have hcong : ∀ (U U' : Nat → SV) n, (∀ i, i < n → U i = U' i) → knowTo ops U s0 (fun _ => true) n = knowTo ops U' s0 (fun _ => true) n := by
      intro U U' n
      induction n with
      | zero => intro _; rfl
      | succ n ih => intro hU; simp only [knowTo, if_true]; rw [ih (fun i hi => hU i (by omega)), hU n (by omega)]
    let Vn : Nat → SV := fun i => if i = k then V else Vs i
    have e1 : knowTo ops Vn s0 (fun _ => true) k = knowTo ops Vs s0 (fun _ => true) k := hcong _ _ _ fun i hi => by simp only [Vn]; rw [if_neg (by omega)]
    have e2 : knowTo ops Vn s0 (fun _ => true) (k + 1) = setD (knowTo ops Vs s0 (fun _ => true) k) o.dst V := by
      simp only [knowTo, if_true, e1, ho, Option.bind_some, Vn]
    obtain ⟨Vs', h1, h2, h3⟩ := rgG_know l (k + 1) Vn s0 (fun j => by have := hl (j + 1); simpa [Nat.add_assoc, Nat.add_comm 1 j] using this) (by simp at hk; omega) (by rw [e2]; exact hr)
    refine ⟨Vs', fun i hi => by rw [h1 i (by omega)]; simp only [Vn]; rw [if_neg (by omega)], fun i o' hi ho' => ?_, h3⟩
    by_cases hik : i = k
    · subst hik
      rw [ho] at ho'; cases ho'
      have e3 : Vs' i = V := by rw [h1 i (by omega)]; simp [Vn]
      have e4 : knowTo ops Vs' s0 (fun _ => true) i = knowTo ops Vs s0 (fun _ => true) i := hcong _ _ _ fun j hj => by
        rw [h1 j (by omega)]; simp only [Vn]; rw [if_neg (by omega)]
      rw [e3, e4]; exact hO
    · exact h2 i o' (by omega) ho'

theorem rgG_of_rgGA {K : List SV → Prop} (ts : List SV) : ∀ (i : Nat) (l : List Oper) (r : List (Nat × SV)), (∀ x ∈ r, x.1 < ts.length) → rgGA O K ts i l r → rgG O K i l (asg ts r)
  | _, [], _, _, h => h
  | i, o :: rest, r, hr, h => by
    obtain ⟨V, hO, hn⟩ := h
    refine ⟨V, ?_, ?_⟩
    · have : (fun t => (asg ts r)[t]?) = look ts r := funext fun t => look_asg ts r hr t
      rw [this]; exact hO
    · cases hd : o.dst with
      | none => rw [hd] at hn; exact rgG_of_rgGA ts (i + 1) rest r hr hn
      | some t =>
        rw [hd] at hn
        exact rgG_of_rgGA ts (i + 1) rest ((t, V) :: r) (fun x hx => by
          rcases List.mem_cons.1 hx with rfl | hx
          · exact hn.1
          · exact hr x hx) hn.2


theorem wp_draw1 {id : Nat} {Q : Exit → Act → World → Prop} {l : List Oper} {ts : List Value} {d0 : List Deferred} {w : World} (I : Bool → World → Prop) (c : Nat) (hm : P.follows .mixedOrders = true)
    (hc : chk l.toArray (masks l.toArray) = true) (hI : ∀ b w w', I b w → Ext w w' → I b w') (h0 : I false w) (hcs : Nat.blt c l.length = true)
    (hA : rgGA (O1 P l.toArray I c) (fun s => ∀ w', I true w' → opens w' s (fun ts' => Q .normal ⟨ts'.toArray, d0⟩ w')) (ts.map SV.ex) 0 l []) :
    (Code.region id l.toArray true).wp P Q ⟨ts.toArray, d0⟩ w := by
  have h := rgG_of_rgGA (ts.map SV.ex) 0 l [] (fun x hx => by cases hx) hA
  refine wp_region_any hm ?_
  obtain ⟨Vs, _, hob, hK⟩ := rgG_know (ops := l.toArray) l 0 (fun _ => .ex undef) (ts.map SV.ex) (by simp) (by simp) h
  have hcs' : c < l.toArray.size := by
    have h9 : c < l.length := by simpa [Nat.blt_eq] using hcs
    simpa using h9
  refine wpAny_of_know1 (I := I) (c := c) hc (d0 := d0) hI (fun V hV => ?_) (fun i hi => ?_) (fun i o ho => hob i o (Nat.zero_le _) ho) hcs' ?_ _ _ _ _ (by simp) ?_ ?_ ?_ rfl ?_
  · obtain ⟨v, _, rfl⟩ := List.mem_map.1 hV
    exact ⟨v, rfl⟩
  · have := hob i _ (Nat.zero_le _) (Array.getElem?_eq_getElem hi)
    unfold O1 at this
    split at this
    · obtain ⟨v, h1, _⟩ := this
      exact ⟨v, h1⟩
    · exact this.1
  · intro a w' he hd hh
    have := hK w' he
    refine opens_holds _ _ a.tmps.toList (by simpa using hh.1) (fun t V ht => by simpa using hh.2 t V ht) this |> fun h => ?_
    have e : a = ⟨a.tmps.toList.toArray, d0⟩ := by cases a; simp at hd; simp [hd]
    rw [e]; exact h
  · unfold unl
    exact Nat.le_trans List.countP_le_length (by simp)
  · intro i o ho hl
    have hi := (Array.getElem?_eq_some_iff.1 ho).1
    simp [Lof] at hl
    have : i < l.length := by simpa using hi
    simp [this] at hl
  · have : Lof (Array.replicate l.toArray.size false) c = false := by
      have h9 : c < l.length := by simpa using hcs'
      simp [Lof, h9]
    rw [this]
    exact hI _ _ _ h0 (Ext.rfl w).dr
  · have e : ∀ n, n ≤ l.toArray.size → knowTo l.toArray Vs (ts.map SV.ex) (Lof (Array.replicate l.toArray.size false)) n = ts.map SV.ex := by
      intro n
      induction n with
      | zero => intro _; rfl
      | succ n ih =>
        intro hn
        have : n < l.length := by have h9 := hn; simp at h9; omega
        simp only [knowTo]
        rw [if_neg (by simp [Lof, this]), ih (by omega)]
    rw [e _ (Nat.le_refl _)]
    refine ⟨by simp, fun t V ht => ?_⟩
    rw [List.getElem?_map] at ht
    cases hts : ts[t]? with
    | none => rw [hts] at ht; cases ht
    | some v =>
      rw [hts] at ht
      simp at ht
      subst ht
      show ts.toArray.getD t undef = v
      simp [hts]

theorem rg1_step {I : Bool → World → Prop} {c i : Nat} {K : List SV → Prop} {ts : List SV} {r : List (Nat × SV)} {o : Oper} {rest : List Oper} (t : Tmp) {v : Value} (hic : Nat.beq i c = false) (h : ∀ b w, I b w → Ob P ops w o (look ts r) (.ex v)) (hd : o.dst = some t) (hlt : Nat.blt t ts.length = true)
    (k : rgGA (O1 P ops I c) K ts (i + 1) rest ((t, .ex v) :: r)) : rgGA (O1 P ops I c) K ts i (o :: rest) r :=
  ⟨.ex v, by unfold O1; rw [if_neg (fun e => by subst e; simp at hic)]; exact ⟨⟨v, rfl⟩, h⟩, by rw [hd]; exact ⟨by simpa [Nat.blt_eq] using hlt, k⟩⟩
theorem rg1_call {I : Bool → World → Prop} {i : Nat} {K : List SV → Prop} {ts : List SV} {r : List (Nat × SV)} {rest : List Oper} (t : Tmp) {v : Value} {f : FuncId} {xs : Array Operand} {tys : Array TypeId} {ty : TypeId} {pos : String} {aft : Array Edge} (vs : List Value)
    (hf : ∀ (args : Array Value) (w : World), (callFunc f args).run P w = .ok (.enter f args) w)
    (hargs : xs.toList.map (lk (look ts r)) = vs.map (fun v => some (SV.ex v))) (hlt : Nat.blt t ts.length = true)
    (h : ∀ w, I false w → Calls P f vs.toArray w (fun e w'' => e = .returned v ∧ I true w''))
    (k : rgGA (O1 P ops I i) K ts (i + 1) rest ((t, .ex v) :: r)) : rgGA (O1 P ops I i) K ts i (⟨some t, .call ⟨.value (.func f), xs, tys⟩, ty, pos, aft, none⟩ :: rest) r := by
  refine ⟨.ex v, ?_, ⟨by simpa [Nat.blt_eq] using hlt, k⟩⟩
  unfold O1
  rw [if_pos rfl]
  refine ⟨v, rfl, fun a w hi hl => ⟨rfl, f, xs.map a.eval, ?_, ?_⟩⟩
  · have hρ : a.eval (.func f) = .func (.func f) #[] #[] := rfl
    simp [execOp, resolve, hρ, Deferred.ofValue, invoke, Sem.run_bind, hf]
  · have e : xs.map a.eval = vs.toArray := by
      apply Array.toList_inj.1
      rw [Array.toList_map]
      have hh : ∀ x ∈ xs.toList, ∀ V', lk (look ts r) x = some V' → V'.holds (a.eval x) w := fun x hx V' hV' =>
        lk_holds (o := ⟨some t, .call ⟨.value (.func f), xs, tys⟩, ty, pos, aft, none⟩) (by simp only [Op.operands, Call.operands]; exact Array.mem_toList_iff.2 (Array.mem_append.2 (.inr (Array.mem_toList_iff.1 hx)))) hV' hl
      clear hlt h k
      generalize xs.toList = l at *
      revert hargs
      induction l generalizing vs with
      | nil => intro hargs; cases vs with
        | nil => rfl
        | cons u us => simp at hargs
      | cons x l ih =>
        intro hargs
        cases vs with
        | nil => simp at hargs
        | cons u us =>
          simp only [List.map_cons, List.cons.injEq] at hargs
          have h1 := hh x (List.mem_cons_self ..) _ hargs.1
          have h2 := ih us (fun y hy => hh y (List.mem_cons_of_mem _ hy)) hargs.2
          simp only [List.map_cons]
          rw [h2]
          show a.eval x :: us = u :: us
          rw [show a.eval x = u from h1]
    rw [e]
    exact h w hi
theorem rg1_end {I : Bool → World → Prop} {c i : Nat} {K : List SV → Prop} {ts : List SV} {r : List (Nat × SV)} (k : K (asg ts r)) : rgGA (O1 P ops I c) K ts i [] r := k

section
variable {w0 : World} {s : Nat → Option SV} {d : Option Tmp} {ty : TypeId} {pos : String} {aft : Array Edge} {g : Option (Nat × Bool)}
theorem ob_field {x : Operand} {t : TypeId} {i b o n : Nat} {fs : Array Field} (o' off : Nat) (ft : TypeId) (hg : gw ops s ⟨d, .fieldAddr t x i, ty, pos, aft, g⟩ = some true) (hx : lk s x = some (.ex (.pointer (some ⟨b, o, none⟩))))
    (ht : P.underlying t = some (.struct fs)) (hf : (fs[i]?).map (fun f => (f.type, f.offset)) = some (ft, off)) (hz : (P.info? ft).map (·.size) = some (n + 1)) (ho : o + off = o') :
    Ob P ops w0 ⟨d, .fieldAddr t x i, ty, pos, aft, g⟩ s (.ex (.pointer (some ⟨b, o', none⟩))) :=
  ob_ex1 hg (x := x) rfl hx fun ρ w _ h1 => by
    cases hq : fs[i]? with
    | none => rw [hq] at hf; cases hf
    | some f =>
      rw [hq] at hf
      simp only [Option.map_some, Option.some.injEq, Prod.mk.injEq] at hf
      obtain ⟨rfl, rfl⟩ := hf
      cases hi : P.info? f.type with
      | none => rw [hi] at hz; cases hz
      | some j =>
        rw [hi] at hz
        simp only [Option.map_some, Option.some.injEq] at hz
        subst ho
        simp [execOp, Instr.fieldAt, h1, run_underlying ht, hq, Instr.sureAddr, fieldPlace, sizeOf, typeInfo, hi, hz, Addr.add]
theorem ob_extract {x : Operand} {i : Nat} {vs : Array Value} {v : Value} (hg : gw ops s ⟨d, .extract x i, ty, pos, aft, g⟩ = some true) (hx : lk s x = some (.ex (.tuple vs))) (hv : vs[i]? = some v) :
    Ob P ops w0 ⟨d, .extract x i, ty, pos, aft, g⟩ s (.ex v) :=
  ob_ex1 hg (x := x) rfl hx fun ρ w _ h1 => by simp [execOp, Instr.extract, h1, hv]
end
end
end Go.Rg
