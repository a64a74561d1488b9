/- A region whose last operation stands behind all others, and turns what was there; the others make memory or only read. -/
import Derived.Test.YtoonhcmeklmnlaaRgOps
set_option linter.unusedSimpArgs false
set_option linter.unusedVariables false
set_option linter.unnecessarySimpa false
namespace Go.Rg
open Go.RowKit
section
variable {P : Program} {ops : Array Oper} {B : Array Nat} {w0 : World}

theorem wpAny_listed {Q : Exit → Act → World → Prop} {fuel : Nat} {listed : Array Bool} {a : Act} {w : World} (h : Region.ready .any ops listed = []) (hQ : Q .normal a w) : wpAny P .any ops Q fuel listed a w := by
  cases fuel with
  | zero => exact ⟨h, hQ⟩
  | succ fuel => exact ⟨fun _ => hQ, by rw [h]; intro i hi; cases hi⟩
theorem ready_none {listed : Array Bool} (hsz : listed.size = ops.size) (hall : ∀ i, i < ops.size → Lof listed i = true) : Region.ready .any ops listed = [] := by
  cases hr : Region.ready .any ops listed with
  | nil => rfl
  | cons x xs =>
    exfalso
    have hx : x ∈ Region.ready .any ops listed := by rw [hr]; simp
    obtain ⟨hun, o, ho, _⟩ := mem_ready.1 hx
    have hxs : x < ops.size := (Array.getElem?_eq_some_iff.1 ho).1
    have := hall x hxs
    have hl : x < listed.size := by omega
    simp [Lof, hl] at this hun
    rw [this] at hun; cases hun

theorem wpAny_of_knowL {Q : Exit → Act → World → Prop} (h : chk ops B = true) {Vs : Nat → SV} {s0 : List SV} {d0 : List Deferred} {n : Nat} (hn : ops.size = n + 1) (hlast : ∀ k, k < n → (B.getD n 0).testBit k = true)
    (hob : ∀ i o, i < n → ops[i]? = some o → Ob P ops w0 o (fun t => (knowTo ops Vs s0 (fun _ => true) i)[t]?) (Vs i))
    (hL : ∀ a w, Ext w0 w → a.defers = d0 → Holds (knowTo ops Vs s0 (fun _ => true) n) a w → wpOp P ops Q n (Q .normal) a w) :
    ∀ (fuel : Nat) (listed : Array Bool) (a : Act) (w : World), listed.size = ops.size → unl ops.size listed ≤ fuel → Closed ops (Lof listed) → Lof listed n = false → Ext w0 w → a.defers = d0 →
      Holds (knowTo ops Vs s0 (Lof listed) ops.size) a w → wpAny P .any ops Q fuel listed a w := by
  have hdone : ∀ (listed : Array Bool), listed.size = ops.size → Region.ready .any ops listed = [] → Lof listed n = false → False := by
    intro listed hsz hr hnl
    have hall : ∀ i, i < ops.size → Lof listed i = true := by
      intro i
      induction i using Nat.strongRecOn with
      | _ i ih =>
        intro hi
        have ho : ops[i]? = some ops[i] := Array.getElem?_eq_getElem hi
        cases hl : Lof listed i with
        | true => rfl
        | false =>
          exfalso
          have : i ∈ Region.ready .any ops listed := mem_ready.2 ⟨by
            have : i < listed.size := by omega
            simp [Lof, this] at hl ⊢; exact hl, _, ho, fun e he hb => ih e.on ((chk_at h ho).1 e he hb) (by have := (chk_at h ho).1 e he hb; omega)⟩
          rw [hr] at this; cases this
    rw [hall n (by omega)] at hnl
    cases hnl
  intro fuel
  induction fuel with
  | zero =>
    intro listed a w hsz hu hcl hnl he hd hh
    exfalso
    have : 0 < unl ops.size listed := by
      unfold unl
      refine List.countP_pos_iff.2 ⟨n, List.mem_range.2 (by omega), ?_⟩
      have hl : n < listed.size := by omega
      simp [Lof, hl] at hnl ⊢
      exact hnl
    omega
  | succ fuel ih =>
    intro listed a w hsz hu hcl hnl he hd hh
    refine ⟨fun hr => (hdone listed hsz hr hnl).elim, fun i hi => ?_⟩
    obtain ⟨hun, o, ho, hedge⟩ := mem_ready.1 hi
    have his : i < ops.size := (Array.getElem?_eq_some_iff.1 ho).1
    have hil : i < listed.size := by omega
    have hunL : Lof listed i = false := by simp [Lof, hil] at hun ⊢; exact hun
    by_cases hin : i = n
    · subst hin
      have hall : ∀ k, k < i → Lof listed k = true := fun k hk => before_listed h hcl i (fun o' ho' => by rw [ho] at ho'; cases ho'; exact hedge) k (by omega) his (hlast k hk)
      have hk : ∀ m, m ≤ i → knowTo ops Vs s0 (Lof listed) m = knowTo ops Vs s0 (fun _ => true) m := by
        intro m
        induction m with
        | zero => intro _; rfl
        | succ m ih => intro hm; simp only [knowTo, if_true]; rw [if_pos (hall m (by omega)), ih (by omega)]
      have hk2 : knowTo ops Vs s0 (Lof listed) ops.size = knowTo ops Vs s0 (fun _ => true) i := by
        rw [hn]
        simp only [knowTo, hunL]
        exact hk i (Nat.le_refl _)
      rw [hk2] at hh
      refine wpOp_mono (fun a' w' hq => wpAny_listed (ready_none (by simp [hsz]) fun j hj => ?_) hq) (hL a w he hd hh)
      simp only [Lof]
      rw [getD_set _ _ _ _ hil]
      by_cases hji : j = i
      · rw [if_pos hji]
      · rw [if_neg hji]; exact hall j (by omega)
    have hlt : i < n := by omega
    have hread := fun t ht => know_read (t := t) h hcl Vs s0 ho hunL hedge ht ops.size (Nat.le_refl _)
    rw [show min ops.size i = i by omega] at hread
    have hlooks : ∀ t ∈ o.looksAt ops, ∀ V', (knowTo ops Vs s0 (fun _ => true) i)[t]? = some V' → t < a.tmps.size ∧ V'.holds (a.tmps.getD t undef) w := fun t ht V' hV' => by
      have hk : (knowTo ops Vs s0 (Lof listed) ops.size)[t]? = some V' := by rw [hread t (Or.inl ht)]; exact hV'
      exact ⟨by rw [hh.1]; exact (List.getElem?_eq_some_iff.1 hk).1, hh.2 t V' hk⟩
    have hO := hob i o hlt ho a w he hlooks
    -- the next state
    have hLne : ∀ j, j ≠ i → Lof (listed.setIfInBounds i true) j = Lof listed j := fun j hj => by simp only [Lof]; rw [getD_set _ _ _ _ hil, if_neg hj]
    have hLi : Lof (listed.setIfInBounds i true) i = true := by simp only [Lof]; rw [getD_set _ _ _ _ hil, if_pos rfl]
    have hcl' : Closed ops (Lof (listed.setIfInBounds i true)) := by
      intro j oj hj hlj e hej hbj
      by_cases hji : j = i
      · subst hji
        rw [ho] at hj; cases hj
        have := hedge e hej hbj
        by_cases hei : e.on = j
        · rw [hei]; exact hLi
        · rw [hLne _ hei]; exact this
      · rw [hLne j hji] at hlj
        have := hcl j oj hj hlj e hej hbj
        by_cases hei : e.on = i
        · rw [hei]; exact hLi
        · rw [hLne _ hei]; exact this
    have hu' : unl ops.size (listed.setIfInBounds i true) ≤ fuel := by
      have : unl ops.size (listed.setIfInBounds i true) < unl ops.size listed := countP_lt his (by rw [hun]; rfl) (by rw [getD_set _ _ _ _ hil, if_pos rfl]; rfl) (fun j hj => by
        rw [getD_set _ _ _ _ hil] at hj
        by_cases hji : j = i
        · rw [if_pos hji] at hj; cases hj
        · rw [if_neg hji] at hj; exact hj)
      omega
    have next : ∀ v w', Ext w w' → (Vs i).holds v w' → wpAny P .any ops Q fuel (listed.setIfInBounds i true) (a.put o.dst v) w' := by
      intro v w' hww hv
      refine ih _ _ _ (by simp [hsz]) hu' hcl' (by rw [hLne n (Ne.symm hin)]; exact hnl) (he.tr hww) (by cases o.dst <;> exact hd) ?_
      have hh' := hh.ext hww
      refine ⟨?_, fun t V ht => ?_⟩
      · rw [length_knowTo]
        have := hh.1
        rw [length_knowTo] at this
        cases o.dst <;> simp [Act.put, this]
      · by_cases hdt : o.dst = some t
        · by_cases hlen : t < s0.length
          · rw [know_same h hcl Vs s0 ho hunL hLne hLi hdt hlen ops.size his (Nat.le_refl _)] at ht
            cases ht
            have hsz' : t < a.tmps.size := by rw [hh.1, length_knowTo]; exact hlen
            have hg : (a.put o.dst v).tmps.getD t undef = v := by simp [Act.put, hdt, hsz']
            rw [hg]; exact hv
          · have : (knowTo ops Vs s0 (Lof (listed.setIfInBounds i true)) ops.size)[t]? = none := by
              rw [List.getElem?_eq_none_iff, length_knowTo]; omega
            rw [this] at ht; cases ht
        · have hne' : (ops[i]?).bind (·.dst) ≠ some t := by rw [ho]; exact hdt
          rw [know_other Vs s0 hLne hunL hLi hne' ops.size] at ht
          have hg : (a.put o.dst v).tmps.getD t undef = a.tmps.getD t undef := by
            cases hdo : o.dst with
            | none => simp [Act.put]
            | some u =>
              have : u ≠ t := fun e => hdt (by rw [hdo, e])
              simp [Act.put, this]
          rw [hg]; exact hh'.2 t V ht
    unfold wpOp
    simp only [ho]
    split
    · rename_i hw
      rw [if_pos hw] at hO
      refine .inl ?_
      unfold Oper.wp
      generalize (execOp a.eval o).run P w = r at *
      cases r with
      | ok n w' =>
        cases n <;> simp only [Upon] at hO <;> simp only [Oper.upon]
        case value v => exact next v w' hO.1 hO.2
        case skip => exact next undef w' hO.1 hO.2
        case enter f args =>
          exact hO.2.mono fun e w'' ⟨v, hev, hx, hv⟩ => by subst hev; exact next v w'' hx hv
      | halt x w' => simp only [Upon] at hO
    · rename_i hw
      rw [if_neg hw] at hO
      exact next undef w (Ext.rfl w) hO


theorem rg_knowL {K : List SV → Prop} (n : Nat) (hn : n ≤ ops.size) : ∀ (l : List Oper) (k : Nat) (Vs : Nat → SV) (s0 : List SV), (∀ j, j < l.length → l[j]? = ops[k + j]?) → k + l.length = n →
    rg P ops w0 K l (knowTo ops Vs s0 (fun _ => true) k) →
    ∃ Vs', (∀ i, i < k → Vs' i = Vs i) ∧ (∀ i o, k ≤ i → i < n → ops[i]? = some o → Ob P ops w0 o (fun t => (knowTo ops Vs' s0 (fun _ => true) i)[t]?) (Vs' i)) ∧ K (knowTo ops Vs' s0 (fun _ => true) n)
  | [], k, Vs, s0, hl, hk, h => ⟨Vs, fun _ _ => rfl, fun i o hi h2 ho => by
      simp at hk; omega, by simp at hk; rw [← hk]; exact h⟩
  | o :: l, k, Vs, s0, hl, hk, h => by
    obtain ⟨V, hO, hr⟩ := h
    have ho : ops[k]? = some o := by simpa using (hl 0 (by simp)).symm
    have hcong : ∀ (U U' : Nat → SV) n, (∀ i, i < n → U i = U' i) → knowTo ops U s0 (fun _ => true) n = knowTo ops U' s0 (fun _ => true) n := by
      intro U U' n
      induction n with
      | zero => intro _; rfl
      | succ n ih => intro hU; simp only [knowTo, if_true]; rw [ih (fun i hi => hU i (by omega)), hU n (by omega)]
    let Vn : Nat → SV := fun i => if i = k then V else Vs i
    have e1 : knowTo ops Vn s0 (fun _ => true) k = knowTo ops Vs s0 (fun _ => true) k := hcong _ _ _ fun i hi => by simp only [Vn]; rw [if_neg (by omega)]
    have e2 : knowTo ops Vn s0 (fun _ => true) (k + 1) = setD (knowTo ops Vs s0 (fun _ => true) k) o.dst V := by
      simp only [knowTo, if_true, e1, ho, Option.bind_some, Vn]
    obtain ⟨Vs', h1, h2, h3⟩ := rg_knowL n hn l (k + 1) Vn s0 (fun j hj => by have := hl (j + 1) (by simpa using hj); simpa [Nat.add_assoc, Nat.add_comm 1 j] using this) (by simp at hk; omega) (by rw [e2]; exact hr)
    refine ⟨Vs', fun i hi => by rw [h1 i (by omega)]; simp only [Vn]; rw [if_neg (by omega)], fun i o' hi hin ho' => ?_, h3⟩
    by_cases hik : i = k
    · subst hik
      rw [ho] at ho'; cases ho'
      have e3 : Vs' i = V := by rw [h1 i (by omega)]; simp [Vn]
      have e4 : knowTo ops Vs' s0 (fun _ => true) i = knowTo ops Vs s0 (fun _ => true) i := hcong _ _ _ fun j hj => by
        rw [h1 j (by omega)]; simp only [Vn]; rw [if_neg (by omega)]
      rw [e3, e4]; exact hO
    · exact h2 i o' (by omega) hin ho'

def lastBehind (l : List Oper) : Bool := (List.range (l.length - 1)).all fun k => ((masks l.toArray).getD (l.length - 1) 0).testBit k
/-- the operations ahead of the last one, told one by one; then the last one, as the walk takes it -/
theorem wp_drawL {id : Nat} {Q : Exit → Act → World → Prop} {l : List Oper} {ts : List Value} {d0 : List Deferred} {w : World} (hm : P.follows .mixedOrders = true)
    (hc : chk l.toArray (masks l.toArray) = true) (hlb : lastBehind l = true) (o : Oper) (hlo : l[l.length - 1]? = some o) (hg : o.guard = none)
    (hA : rgA P l.toArray w (fun s => ∀ w', Ext w w' → opens w' s (fun ts' => wpList P l.toArray Q [o] ⟨ts'.toArray, d0⟩ w')) (ts.map SV.ex) (l.take (l.length - 1)) []) :
    (Code.region id l.toArray true).wp P Q ⟨ts.toArray, d0⟩ w := by
  have h := rg_of_rgA (ts.map SV.ex) (l.take (l.length - 1)) [] (fun x hx => by cases hx) hA
  have hpos : 0 < l.length := by
    cases l with
    | nil => simp at hlo
    | cons x l => simp
  refine wp_region_any hm ?_
  obtain ⟨Vs, _, hob, hK⟩ := rg_knowL (ops := l.toArray) (l.length - 1) (by simp) (l.take (l.length - 1)) 0 (fun _ => .ex undef) (ts.map SV.ex) (fun j hj => by
    rw [List.getElem?_take, if_pos (by simp at hj; omega)]; simp) (by simp) h
  have hsz : l.toArray.size = l.length - 1 + 1 := by simp; omega
  refine wpAny_of_knowL hc (d0 := d0) (n := l.length - 1) (Vs := Vs) (s0 := ts.map SV.ex) (w0 := w) hsz (fun k hk => by
    unfold lastBehind at hlb
    rw [List.all_eq_true] at hlb
    exact hlb k (List.mem_range.2 hk)) (fun i o hi ho => hob i o (Nat.zero_le _) hi ho) ?_ _ _ _ _ (by simp) ?_ ?_ ?_ (Ext.rfl w).dr rfl ?_
  · intro a w' he hd hh
    have := hK w' he
    have hw : wpList P l.toArray Q [o] ⟨a.tmps.toList.toArray, d0⟩ w' := opens_holds _ _ a.tmps.toList (by simpa using hh.1) (fun t V ht => by simpa using hh.2 t V ht) this
    have e : a = ⟨a.tmps.toList.toArray, d0⟩ := by cases a; simp at hd; simp [hd]
    rw [← e] at hw
    unfold wpOp
    have ho2 : l.toArray[l.length - 1]? = some o := by simpa using hlo
    simp only [ho2]
    have hwant : Region.wanted o (yielded l.toArray a.tmps) = true := by simp [Region.wanted, hg]
    rw [if_pos hwant]
    unfold wpList at hw
    rw [if_pos hwant] at hw
    exact hw
  · unfold unl
    exact Nat.le_trans List.countP_le_length (by simp)
  · intro i o ho hl
    have hi := (Array.getElem?_eq_some_iff.1 ho).1
    simp [Lof] at hl
    have : i < l.length := by simpa using hi
    simp [this] at hl
  · simp [Lof]
    have : l.length - 1 < l.length := by omega
    simp [this]
  · have e : ∀ n, n ≤ l.toArray.size → knowTo l.toArray Vs (ts.map SV.ex) (Lof (Array.replicate l.toArray.size false)) n = ts.map SV.ex := by
      intro n
      induction n with
      | zero => intro _; rfl
      | succ n ih =>
        intro hn
        have : n < l.length := by have h9 := hn; simp at h9; omega
        simp only [knowTo]
        rw [if_neg (by simp [Lof, this]), ih (by omega)]
    rw [e _ (Nat.le_refl _)]
    refine ⟨by simp, fun t V ht => ?_⟩
    rw [List.getElem?_map] at ht
    cases hts : ts[t]? with
    | none => rw [hts] at ht; cases ht
    | some v =>
      rw [hts] at ht
      simp at ht
      subst ht
      show ts.toArray.getD t undef = v
      simp [hts]
end
end Go.Rg
