/- A region with several operations that turn what was there, some of whose values are told by a claim on slots and world that goes by what has been done: one look at each operation, in the text's order, serves every order. -/
import Derived.Test.YtjekfifnhdoamaaRgN
set_option linter.unusedSimpArgs false
set_option linter.unusedVariables false
set_option linter.unnecessarySimpa false
namespace Go.Rg
open Go.RowKit

abbrev slot (a : Act) : Tmp → Value := fun t => a.tmps.getD t undef
/-- told without the world -/
def Free (V : SV) : Prop := ∀ v w w', V.holds v w → V.holds v w'
theorem free_ex (v : Value) : Free (.ex v) := fun _ _ _ h => h
def anyV : SV := .rel (fun _ _ => True) (fun _ _ _ _ _ => trivial)
theorem free_any : Free anyV := fun _ _ _ _ => trivial
def UponV (P : Program) (V : SV) (J : Value → World → Prop) : Result Next → Prop
  | .ok (.value u) w' => V.holds u w' ∧ J u w'
  | .ok .skip w' => V.holds undef w' ∧ J undef w'
  | .ok (.enter g args) w' => Calls P g args w' (fun e w'' => ∃ v, e = .returned v ∧ V.holds v w'' ∧ J v w'')
  | _ => False
def OV (P : Program) (ops : Array Oper) (N : Nat) (I : (Nat → Bool) → (Tmp → Value) → World → Prop) (i : Nat) (o : Oper) (f : Nat → Option SV) (V : SV) : Prop :=
  Free V ∧ ∀ (L : Nat → Bool) (a : Act) (w : World), I L (slot a) w → a.tmps.size = N → Closed ops L → L i = false → (∀ e ∈ o.after, Region.binds .any e = true → L e.on = true) →
    (∀ t ∈ o.looksAt ops, ∀ V', f t = some V' → t < a.tmps.size ∧ V'.holds (a.tmps.getD t undef) w) →
    if Region.wanted o (yielded ops a.tmps) then UponV P V (fun v w' => I (setL L i) (slot (a.put o.dst v)) w') ((execOp a.eval o).run P w) else V.holds undef w ∧ I (setL L i) (slot (a.put o.dst undef)) w

section
variable {P : Program} {ops : Array Oper} {B : Array Nat} {O : Nat → Oper → (Nat → Option SV) → SV → Prop}

theorem free_set {s : List SV} (h : ∀ V ∈ s, Free V) (d : Option Tmp) {V : SV} (hV : Free V) : ∀ U ∈ setD s d V, Free U := by
  intro U hU
  cases d with
  | none => exact h U hU
  | some t =>
    rcases List.mem_or_eq_of_mem_set hU with h1 | h1
    · exact h U h1
    · rw [h1]; exact hV
theorem free_know {Vs : Nat → SV} {s0 : List SV} (h0 : ∀ V ∈ s0, Free V) (L : Nat → Bool) : ∀ n, (∀ i, i < n → Free (Vs i)) → ∀ V ∈ knowTo ops Vs s0 L n, Free V
  | 0, _ => h0
  | n + 1, hV => by
    intro V hm
    simp only [knowTo] at hm
    split at hm
    · exact free_set (free_know h0 L n fun i hi => hV i (by omega)) _ (hV n (by omega)) V hm
    · exact free_know h0 L n (fun i hi => hV i (by omega)) V hm
theorem Holds.free {s : List SV} {a : Act} {w w' : World} (h : Holds s a w) (hl : ∀ V, V ∈ s → Free V) : Holds s a w' :=
  ⟨h.1, fun t V ht => hl V (List.mem_of_getElem? ht) _ _ _ (h.2 t V ht)⟩

theorem wpAny_of_knowV {Q : Exit → Act → World → Prop} (h : chk ops B = true) {Vs : Nat → SV} {s0 : List SV} {d0 : List Deferred}
    {I : (Nat → Bool) → (Tmp → Value) → World → Prop} (hlit0 : ∀ V ∈ s0, Free V) (hlit : ∀ i, i < ops.size → Free (Vs i))
    (hob : ∀ i o, ops[i]? = some o → OV P ops s0.length I i o (fun t => (knowTo ops Vs s0 (fun _ => true) i)[t]?) (Vs i))
    (hQ : ∀ a w, (∀ L, (∀ i, i < ops.size → L i = true) → I L (slot a) w → a.defers = d0 → Holds (knowTo ops Vs s0 (fun _ => true) ops.size) a w → Q .normal a w)) :
    ∀ (fuel : Nat) (listed : Array Bool) (a : Act) (w : World), listed.size = ops.size → unl ops.size listed ≤ fuel → Closed ops (Lof listed) → I (Lof listed) (slot a) w → a.defers = d0 →
      Holds (knowTo ops Vs s0 (Lof listed) ops.size) a w → wpAny P .any ops Q fuel listed a w := by
  have hdone : ∀ (listed : Array Bool) (a : Act) (w : World), listed.size = ops.size → Region.ready .any ops listed = [] → I (Lof listed) (slot a) w → a.defers = d0 →
      Holds (knowTo ops Vs s0 (Lof listed) ops.size) a w → Q .normal a w := by
    intro listed a w hsz hr he hd hh
    have hall : ∀ i, i < ops.size → Lof listed i = true := by
      intro i
      induction i using Nat.strongRecOn with
      | _ i ih =>
        intro hi
        have ho : ops[i]? = some ops[i] := Array.getElem?_eq_getElem hi
        cases hl : Lof listed i with
        | true => rfl
        | false =>
          exfalso
          have : i ∈ Region.ready .any ops listed := mem_ready.2 ⟨by
            have : i < listed.size := by omega
            simp [Lof, this] at hl ⊢; exact hl, _, ho, fun e he hb => ih e.on ((chk_at h ho).1 e he hb) (by have := (chk_at h ho).1 e he hb; omega)⟩
          rw [hr] at this; cases this
    refine hQ a w _ hall he hd ?_
    have : ∀ n, n ≤ ops.size → knowTo ops Vs s0 (Lof listed) n = knowTo ops Vs s0 (fun _ => true) n := by
      intro n
      induction n with
      | zero => intro _; rfl
      | succ n ih => intro hn; simp only [knowTo, if_true]; rw [if_pos (hall n (by omega)), ih (by omega)]
    rw [← this ops.size (Nat.le_refl _)]; exact hh
  intro fuel
  induction fuel with
  | zero =>
    intro listed a w hsz hu hcl he hd hh
    have hr : Region.ready .any ops listed = [] := by
      cases hr : Region.ready .any ops listed with
      | nil => rfl
      | cons x xs =>
        exfalso
        have hx : x ∈ Region.ready .any ops listed := by rw [hr]; simp
        obtain ⟨hun, o, ho, _⟩ := mem_ready.1 hx
        have hxs : x < ops.size := (Array.getElem?_eq_some_iff.1 ho).1
        have : 0 < unl ops.size listed := by
          unfold unl
          exact List.countP_pos_iff.2 ⟨x, List.mem_range.2 hxs, by rw [hun]; rfl⟩
        omega
    exact ⟨hr, hdone listed a w hsz hr he hd hh⟩
  | succ fuel ih =>
    intro listed a w hsz hu hcl he hd hh
    refine ⟨fun hr => hdone listed a w hsz hr he hd hh, fun i hi => ?_⟩
    obtain ⟨hun, o, ho, hedge⟩ := mem_ready.1 hi
    have his : i < ops.size := (Array.getElem?_eq_some_iff.1 ho).1
    have hil : i < listed.size := by omega
    have hunL : Lof listed i = false := by simp [Lof, hil] at hun ⊢; exact hun
    have hread := fun t ht => know_read (t := t) h hcl Vs s0 ho hunL hedge ht ops.size (Nat.le_refl _)
    rw [show min ops.size i = i by omega] at hread
    have hlooks : ∀ t ∈ o.looksAt ops, ∀ V', (knowTo ops Vs s0 (fun _ => true) i)[t]? = some V' → t < a.tmps.size ∧ V'.holds (a.tmps.getD t undef) w := fun t ht V' hV' => by
      have hk : (knowTo ops Vs s0 (Lof listed) ops.size)[t]? = some V' := by rw [hread t (Or.inl ht)]; exact hV'
      exact ⟨by rw [hh.1]; exact (List.getElem?_eq_some_iff.1 hk).1, hh.2 t V' hk⟩
    have hO0 := hob i o ho
    -- the next state
    have hLne : ∀ j, j ≠ i → Lof (listed.setIfInBounds i true) j = Lof listed j := fun j hj => by simp only [Lof]; rw [getD_set _ _ _ _ hil, if_neg hj]
    have hLi : Lof (listed.setIfInBounds i true) i = true := by simp only [Lof]; rw [getD_set _ _ _ _ hil, if_pos rfl]
    have hcl' : Closed ops (Lof (listed.setIfInBounds i true)) := by
      intro j oj hj hlj e hej hbj
      by_cases hji : j = i
      · subst hji
        rw [ho] at hj; cases hj
        have := hedge e hej hbj
        by_cases hei : e.on = j
        · rw [hei]; exact hLi
        · rw [hLne _ hei]; exact this
      · rw [hLne j hji] at hlj
        have := hcl j oj hj hlj e hej hbj
        by_cases hei : e.on = i
        · rw [hei]; exact hLi
        · rw [hLne _ hei]; exact this
    have hu' : unl ops.size (listed.setIfInBounds i true) ≤ fuel := by
      have : unl ops.size (listed.setIfInBounds i true) < unl ops.size listed := countP_lt his (by rw [hun]; rfl) (by rw [getD_set _ _ _ _ hil, if_pos rfl]; rfl) (fun j hj => by
        rw [getD_set _ _ _ _ hil] at hj
        by_cases hji : j = i
        · rw [if_pos hji] at hj; cases hj
        · rw [if_neg hji] at hj; exact hj)
      omega
    have hlits : ∀ V, V ∈ knowTo ops Vs s0 (Lof listed) ops.size → Free V := free_know hlit0 _ _ hlit
    have next : ∀ v w', I (Lof (listed.setIfInBounds i true)) (slot (a.put o.dst v)) w' → (Vs i).holds v w' → wpAny P .any ops Q fuel (listed.setIfInBounds i true) (a.put o.dst v) w' := by
      intro v w' hww hv
      refine ih _ _ _ (by simp [hsz]) hu' hcl' hww (by cases o.dst <;> exact hd) ?_
      have hh' := hh.free (w' := w') hlits
      refine ⟨?_, fun t V ht => ?_⟩
      · rw [length_knowTo]
        have := hh.1
        rw [length_knowTo] at this
        cases o.dst <;> simp [Act.put, this]
      · by_cases hdt : o.dst = some t
        · by_cases hlen : t < s0.length
          · rw [know_same h hcl Vs s0 ho hunL hLne hLi hdt hlen ops.size his (Nat.le_refl _)] at ht
            cases ht
            have hsz' : t < a.tmps.size := by rw [hh.1, length_knowTo]; exact hlen
            have hg : (a.put o.dst v).tmps.getD t undef = v := by simp [Act.put, hdt, hsz']
            rw [hg]; exact hv
          · have : (knowTo ops Vs s0 (Lof (listed.setIfInBounds i true)) ops.size)[t]? = none := by
              rw [List.getElem?_eq_none_iff, length_knowTo]; omega
            rw [this] at ht; cases ht
        · have hne' : (ops[i]?).bind (·.dst) ≠ some t := by rw [ho]; exact hdt
          rw [know_other Vs s0 hLne hunL hLi hne' ops.size] at ht
          have hg : (a.put o.dst v).tmps.getD t undef = a.tmps.getD t undef := by
            cases hdo : o.dst with
            | none => simp [Act.put]
            | some u =>
              have : u ≠ t := fun e => hdt (by rw [hdo, e])
              simp [Act.put, this]
          rw [hg]; exact hh'.2 t V ht
    unfold wpOp
    simp only [ho]
    have hO := hO0.2 _ a w he (by rw [hh.1, length_knowTo]) hcl hunL hedge hlooks
    have hLs : setL (Lof listed) i = Lof (listed.setIfInBounds i true) := by
      funext j
      unfold setL
      by_cases hj : j = i
      · rw [if_pos hj, hj, hLi]
      · rw [if_neg hj, hLne j hj]
    rw [hLs] at hO
    split
    · rename_i hw
      rw [if_pos hw] at hO
      refine .inl ?_
      unfold Oper.wp
      generalize (execOp a.eval o).run P w = r at *
      cases r with
      | ok n w' =>
        cases n <;> simp only [UponV] at hO <;> simp only [Oper.upon]
        case value v => exact next v w' hO.2 hO.1
        case skip => exact next undef w' hO.2 hO.1
        case enter f args =>
          exact hO.mono fun e w'' ⟨v, hev, hv, hx⟩ => by subst hev; exact next v w'' hx hv
      | halt x w' => simp only [UponV] at hO
    · rename_i hw
      rw [if_neg hw] at hO
      exact next undef w hO.2 hO.1

theorem wp_drawV {id : Nat} {Q : Exit → Act → World → Prop} {l : List Oper} {ts : List Value} {d0 : List Deferred} {w : World} (I : (Nat → Bool) → (Tmp → Value) → World → Prop) (hm : P.follows .mixedOrders = true)
    (hc : chk l.toArray (masks l.toArray) = true) (h0 : ∀ w', Ext w w' → I (fun _ => false) (fun t => ts.getD t undef) w')
    (hA : rgGA (OV P l.toArray (ts.map SV.ex).length I) (fun s => ∀ L w', (∀ i, i < l.length → L i = true) → opens w' s (fun ts' => I L (fun t => ts'.getD t undef) w' → Q .normal ⟨ts'.toArray, d0⟩ w')) (ts.map SV.ex) 0 l []) :
    (Code.region id l.toArray true).wp P Q ⟨ts.toArray, d0⟩ w := by
  have h := rgG_of_rgGA (ts.map SV.ex) 0 l [] (fun x hx => by cases hx) hA
  refine wp_region_any hm ?_
  obtain ⟨Vs, _, hob, hK⟩ := rgG_know (ops := l.toArray) l 0 (fun _ => .ex undef) (ts.map SV.ex) (by simp) (by simp) h
  refine wpAny_of_knowV (I := I) hc (d0 := d0) (Vs := Vs) (s0 := ts.map SV.ex) (fun V hV => ?_) (fun i hi => ?_) (fun i o ho => hob i o (Nat.zero_le _) ho) ?_ _ _ _ _ (by simp) ?_ ?_ ?_ rfl ?_
  · obtain ⟨v, _, rfl⟩ := List.mem_map.1 hV
    exact free_ex v
  · exact (hob i _ (Nat.zero_le _) (Array.getElem?_eq_getElem hi)).1
  · intro a w' L hL he hd hh
    have := hK L w' (fun i hi => hL i (by simpa using hi))
    refine opens_holds _ _ a.tmps.toList (by simpa using hh.1) (fun t V ht => by simpa using hh.2 t V ht) this |> fun h => ?_
    have e : a = ⟨a.tmps.toList.toArray, d0⟩ := by cases a; simp at hd; simp [hd]
    have hs : (fun t => a.tmps.toList.getD t undef) = slot a := by funext t; simp [slot, Array.getD_eq_getD_getElem?]
    rw [e]; exact h (by rw [hs]; exact he)
  · unfold unl
    exact Nat.le_trans List.countP_le_length (by simp)
  · intro i o ho hl
    have hi := (Array.getElem?_eq_some_iff.1 ho).1
    simp [Lof] at hl
    have : i < l.length := by simpa using hi
    simp [this] at hl
  · have : Lof (Array.replicate l.toArray.size false) = fun _ => false := by
      funext c
      simp only [Lof]
      by_cases h9 : c < l.length
      · simp [h9]
      · simp [h9]
    rw [this]
    have hs : slot ⟨ts.toArray, d0⟩ = fun t => ts.getD t undef := by funext t; simp [slot]
    rw [hs]
    exact h0 _ (Ext.rfl w).dr
  · have e : ∀ n, n ≤ l.toArray.size → knowTo l.toArray Vs (ts.map SV.ex) (Lof (Array.replicate l.toArray.size false)) n = ts.map SV.ex := by
      intro n
      induction n with
      | zero => intro _; rfl
      | succ n ih =>
        intro hn
        have : n < l.length := by have h9 := hn; simp at h9; omega
        simp only [knowTo]
        rw [if_neg (by simp [Lof, this]), ih (by omega)]
    rw [e _ (Nat.le_refl _)]
    refine ⟨by simp, fun t V ht => ?_⟩
    rw [List.getElem?_map] at ht
    cases hts : ts[t]? with
    | none => rw [hts] at ht; cases ht
    | some v =>
      rw [hts] at ht
      simp at ht
      subst ht
      show ts.toArray.getD t undef = v
      simp [hts]



theorem closed_last {l : List Oper} (hc : chk l.toArray (masks l.toArray) = true) (hlb : ((List.range (l.length - 1)).all fun k => ((masks l.toArray).getD (l.length - 1) 0).testBit k) = true) {L : Nat → Bool} (hC : Closed l.toArray L) (hL : L (l.length - 1) = true) :
    ∀ k, k < l.length - 1 → L k = true := fun k hk =>
  before_listed hc hC (l.length - 1) (fun o ho e he hb => hC _ o ho hL e he hb) k (by simp; omega) (by simp; omega) (List.all_eq_true.1 hlb k (List.mem_range.2 hk))
/-- an operation that only reads, or makes memory; its slot is none that the claim looks at -/
theorem rgv_read {I : (Nat → Bool) → (Tmp → Value) → World → Prop} {i : Nat} {K : List SV → Prop} {ts : List SV} {r : List (Nat × SV)} {o : Oper} {rest : List Oper} (t : Tmp) {v : Value} (T : List Tmp)
    (hI : ∀ L f g w w', (∀ t ∈ T, f t = g t) → I L f w → Ext w w' → I (setL L i) g w') (htT : T.contains t = false) (h : ∀ L f w, I L f w → Closed ops L → L i = false → Ob P ops w o (look ts r) (.ex v)) (hd : o.dst = some t) (hlt : Nat.blt t ts.length = true)
    (k : rgGA (OV P ops ts.length I) K ts (i + 1) rest ((t, .ex v) :: r)) : rgGA (OV P ops ts.length I) K ts i (o :: rest) r := by
  have hput : ∀ (a : Act) (u : Value), ∀ t' ∈ T, slot a t' = slot (a.put o.dst u) t' := fun a u t' ht' => by
    have hne : t ≠ t' := fun e => by
      subst e
      have := List.contains_iff_mem.2 ht'
      rw [this] at htT; cases htT
    simp [slot, Act.put, hd, hne]
  refine ⟨.ex v, ⟨free_ex v, fun L a w hi hN hC hL he hl => ?_⟩, by rw [hd]; exact ⟨by simpa [Nat.blt_eq] using hlt, k⟩⟩
  have hO := h L _ w hi hC hL a w (Ext.rfl w) hl
  split
  · rename_i hw
    rw [if_pos hw] at hO
    generalize (execOp a.eval o).run P w = q at *
    cases q with
    | ok n w' =>
      cases n <;> simp only [Upon] at hO <;> simp only [UponV]
      case value u => exact ⟨hO.2, hI _ _ _ _ _ (hput a u) hi hO.1⟩
      case skip => exact ⟨hO.2, hI _ _ _ _ _ (hput a _) hi hO.1⟩
      case enter f args => exact hO.2.mono fun e w'' ⟨u, hev, hx, hv⟩ => ⟨u, hev, hv, hI _ _ _ _ _ (hput a u) hi hx⟩
    | halt x w' => simp only [Upon] at hO
  · rename_i hw
    rw [if_neg hw] at hO
    exact ⟨hO, hI _ _ _ _ _ (hput a _) hi (Ext.rfl w)⟩

/-- an operation that turns what was there, or yields what the claim tells -/
theorem rgv_eff {I : (Nat → Bool) → (Tmp → Value) → World → Prop} {i : Nat} {K : List SV → Prop} {ts : List SV} {r : List (Nat × SV)} {o : Oper} {rest : List Oper} (V : SV) (hV : Free V) (hg : o.guard = none)
    (h : ∀ (a : Act) (L : Nat → Bool) (w : World), (∀ x ∈ o.op.operands.toList, ∀ u, lk (look ts r) x = some (.ex u) → a.eval x = u) → I L (slot a) w → a.tmps.size = ts.length → Closed ops L → L i = false → (∀ e ∈ o.after, Region.binds .any e = true → L e.on = true) →
      UponV P V (fun v w' => I (setL L i) (slot (a.put o.dst v)) w') ((execOp a.eval o).run P w))
    (k : match o.dst with | some t => Nat.blt t ts.length = true ∧ rgGA (OV P ops ts.length I) K ts (i + 1) rest ((t, V) :: r) | none => rgGA (OV P ops ts.length I) K ts (i + 1) rest r) : rgGA (OV P ops ts.length I) K ts i (o :: rest) r := by
  refine ⟨V, ⟨hV, fun L a w hi hN hC hL he hl => ?_⟩, ?_⟩
  · have hw : Region.wanted o (yielded ops a.tmps) = true := by unfold Region.wanted; rw [hg]
    rw [if_pos hw]
    exact h a L w (fun x hx u hu => lk_holds (o := o) hx hu hl) hi hN hC hL he
  · cases hd : o.dst with
    | none => rw [hd] at k; exact k
    | some t => rw [hd] at k; exact ⟨by simpa [Nat.blt_eq] using k.1, k.2⟩
theorem rgv_end {I : (Nat → Bool) → (Tmp → Value) → World → Prop} {i : Nat} {K : List SV → Prop} {ts : List SV} {r : List (Nat × SV)} (k : K (asg ts r)) : rgGA (OV P ops ts.length I) K ts i [] r := k
end
end Go.Rg
