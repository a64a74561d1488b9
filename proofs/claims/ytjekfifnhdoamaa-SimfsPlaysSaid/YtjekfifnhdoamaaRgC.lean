/- A region whose operations that turn what was there stand in one chain, each behind the one before; all others only read: one look at each operation serves every order. -/
import Derived.Test.YtjekfifnhdoamaaRgV
set_option linter.unusedSimpArgs false
set_option linter.unusedVariables false
set_option linter.unnecessarySimpa false
namespace Go.Rg
open Go.RowKit

/-- so many of the chain e 1, .., e m are done: what the last one has yielded, in slot d k, and the world, are as S k says -/
structure ChainC (S : Nat → Value → World → Prop) (e : Nat → Nat) (d : Nat → Tmp) (m : Nat) (L : Nat → Bool) (f : Tmp → Value) (w : World) : Prop where
  s : ∃ k, k ≤ m ∧ (∀ j, 1 ≤ j → j ≤ m → (L (e j) = true ↔ j ≤ k)) ∧ S k (f (d k)) w
/-- the chain's end stands behind all; what is told ahead of it stays where memory is made -/
structure LastC (S : Nat → Value → World → Prop) (l : List Oper) (e : Nat → Nat) (m : Nat) : Prop where
  chk : chk l.toArray (masks l.toArray) = true
  beh : ((List.range (l.length - 1)).all fun k => ((masks l.toArray).getD (l.length - 1) 0).testBit k) = true
  last : e m = l.length - 1
  pos : 0 < m
  s : ∀ k v w w', k < m → Ext w w' → S k v w → S k v w'
theorem UponV.mono {P : Program} {V : SV} {J J' : Value → World → Prop} {r : Result Next} (h : UponV P V J r) (hj : ∀ v w, J v w → J' v w) : UponV P V J' r := by
  cases r with
  | ok n w' =>
    cases n <;> simp only [UponV] at h ⊢
    · exact ⟨h.1, hj _ _ h.2⟩
    · exact ⟨h.1, hj _ _ h.2⟩
    · exact h.mono fun e w'' ⟨v, h1, h2, h3⟩ => ⟨v, h1, h2, hj _ _ h3⟩
  | halt x w' => simp only [UponV] at h
section
variable {P : Program} {S : Nat → Value → World → Prop} {e : Nat → Nat} {d : Nat → Tmp} {m : Nat}
theorem chain_start {f : Tmp → Value} {w : World} (h0 : S 0 (f (d 0)) w) : ChainC S e d m (fun _ => false) f w :=
  ⟨0, Nat.zero_le _, fun j h1 h2 => ⟨(by intro h; cases h), fun h => by omega⟩, h0⟩
theorem chain_end {L : Nat → Bool} {f : Tmp → Value} {w : World} (h : ChainC S e d m L f w) (hL : ∀ j, 1 ≤ j → j ≤ m → L (e j) = true) : S m (f (d m)) w := by
  obtain ⟨k, h1, h2, h3⟩ := h.s
  have hk : k = m := by
    rcases Nat.eq_zero_or_pos m with hm | hm
    · omega
    · have := (h2 m hm (Nat.le_refl _)).1 (hL m hm (Nat.le_refl _))
      omega
  subst hk
  exact h3
theorem rgc_read {l : List Oper} {i : Nat} {K : List SV → Prop} {ts : List SV} {r : List (Nat × SV)} {o : Oper} {rest : List Oper} (t : Tmp) {v : Value} (HL : LastC S l e m) (hi : ((List.range m).all fun j => e (j + 1) != i) = true) (hil : Nat.blt i (l.length - 1) = true) (ht : ((List.range (m + 1)).map d).contains t = false)
    (h : ∀ k u w, k < m → S k u w → Ob P l.toArray w o (look ts r) (.ex v)) (hd : o.dst = some t) (hlt : Nat.blt t ts.length = true) (k : rgGA (OV P l.toArray ts.length (ChainC S e d m)) K ts (i + 1) rest ((t, .ex v) :: r)) : rgGA (OV P l.toArray ts.length (ChainC S e d m)) K ts i (o :: rest) r := by
  have hil' : i < l.length - 1 := by simpa [Nat.blt_eq] using hil
  have key : ∀ {L : Nat → Bool} {f : Tmp → Value} {w : World}, ChainC S e d m L f w → Closed l.toArray L → L i = false → ∃ q, q < m ∧ (∀ j, 1 ≤ j → j ≤ m → (L (e j) = true ↔ j ≤ q)) ∧ S q (f (d q)) w := fun {L f w} hI hC hL => by
    obtain ⟨q, h1, h2, h3⟩ := hI.s
    have hq : ¬ q = m := fun hq => by
      subst hq
      have h4 := (h2 q HL.pos (Nat.le_refl _)).2 (Nat.le_refl _)
      rw [HL.last] at h4
      have := closed_last HL.chk HL.beh hC h4 i hil'
      rw [hL] at this
      cases this
    exact ⟨q, by omega, h2, h3⟩
  have hne : ∀ j, 1 ≤ j → j ≤ m → e j ≠ i := fun j hj1 hj2 => by
    have := List.all_eq_true.1 hi (j - 1) (List.mem_range.2 (by omega))
    rw [show j - 1 + 1 = j by omega] at this
    simpa using this
  have hput : ∀ (a : Act) (u : Value) (q : Nat), q ≤ m → slot a (d q) = slot (a.put o.dst u) (d q) := fun a u q hq => by
    have hne2 : t ≠ d q := fun e => by
      have : d q ∈ (List.range (m + 1)).map d := List.mem_map.2 ⟨q, List.mem_range.2 (by omega), rfl⟩
      rw [← e] at this
      have := List.contains_iff_mem.2 this
      rw [this] at ht
      cases ht
    simp [slot, Act.put, hd, hne2]
  have keep : ∀ {L : Nat → Bool} (a : Act) (u : Value) {w w' : World} (q : Nat), q < m → (∀ j, 1 ≤ j → j ≤ m → (L (e j) = true ↔ j ≤ q)) → S q (slot a (d q)) w → Ext w w' → ChainC S e d m (setL L i) (slot (a.put o.dst u)) w' := fun {L} a u {w w'} q h1 h2 h3 he => by
    refine ⟨q, Nat.le_of_lt h1, fun j hj1 hj2 => ?_, ?_⟩
    · simp only [setL, hne j hj1 hj2, if_false]
      exact h2 j hj1 hj2
    · rw [← hput a u q (Nat.le_of_lt h1)]
      exact HL.s _ _ _ _ h1 he h3
  refine ⟨.ex v, ⟨free_ex v, fun L a w hI hN hC hL he hl => ?_⟩, by rw [hd]; exact ⟨by simpa [Nat.blt_eq] using hlt, k⟩⟩
  obtain ⟨q, h1, h2, h3⟩ := key hI hC hL
  have hO := h q _ w h1 h3 a w (Ext.rfl w) hl
  split
  · rename_i hw
    rw [if_pos hw] at hO
    generalize (execOp a.eval o).run P w = x at *
    cases x with
    | ok n w' =>
      cases n <;> simp only [Upon] at hO <;> simp only [UponV]
      case value u => exact ⟨hO.2, keep a u q h1 h2 h3 hO.1⟩
      case skip => exact ⟨hO.2, keep a _ q h1 h2 h3 hO.1⟩
      case enter f args => exact hO.2.mono fun e w'' ⟨u, hev, hx, hv⟩ => ⟨u, hev, hv, keep a u q h1 h2 h3 hx⟩
    | halt x w' => simp only [Upon] at hO
  · rename_i hw
    rw [if_neg hw] at hO
    exact ⟨hO, keep a _ q h1 h2 h3 (Ext.rfl w)⟩
theorem rgc_eff {ops : Array Oper} {i : Nat} {K : List SV → Prop} {ts : List SV} {r : List (Nat × SV)} {o : Oper} {rest : List Oper} (n : Nat) (t : Tmp) (hn : Nat.blt n m = true) (hi : e (n + 1) = i) (hdn : d (n + 1) = t) (hinj : ((List.range m).all fun j => (e (j + 1) != i) || (j == n)) = true)
    (hpre : (n == 0 || o.after.any fun ed => Region.binds .any ed && (ed.on == e n)) = true) (hg : o.guard = none) (hd : o.dst = some t) (hlt : Nat.blt t ts.length = true)
    (h : ∀ (a : Act) (w : World), (∀ x ∈ o.op.operands.toList, ∀ u, lk (look ts r) x = some (.ex u) → a.eval x = u) → S n (a.tmps.getD (d n) undef) w → UponV P anyV (fun v w' => S (n + 1) v w') ((execOp a.eval o).run P w))
    (k : rgGA (OV P ops ts.length (ChainC S e d m)) K ts (i + 1) rest ((t, anyV) :: r)) : rgGA (OV P ops ts.length (ChainC S e d m)) K ts i (o :: rest) r := by
  refine rgv_eff anyV free_any hg (fun a L w hx hI hN hC hL he => ?_) (by rw [hd]; exact ⟨hlt, k⟩)
  have hnm : n < m := by simpa [Nat.blt_eq] using hn
  obtain ⟨q, h1, h2, h3⟩ := hI.s
  have hq1 : ¬ n + 1 ≤ q := fun hq => by
    have := (h2 (n + 1) (by omega) (by omega)).2 hq
    rw [hi, hL] at this
    cases this
  have hq2 : n ≤ q := by
    rcases Nat.eq_zero_or_pos n with h0 | h0
    · omega
    · have hp := hpre
      rw [show (n == 0) = false by simp; omega, Bool.false_or, Array.any_eq_true'] at hp
      obtain ⟨ed, hed, hb⟩ := hp
      simp only [Bool.and_eq_true, beq_iff_eq] at hb
      have := he ed hed hb.1
      rw [hb.2] at this
      exact (h2 n h0 (by omega)).1 this
  obtain rfl : q = n := by omega
  refine (h a w hx h3).mono fun v w' hv => ?_
  refine ⟨q + 1, by omega, fun j hj1 hj2 => ?_, ?_⟩
  · by_cases hj : j = q + 1
    · subst hj
      rw [hi]
      simp [setL]
    · have hne : e j ≠ i := fun hej => by
        have := List.all_eq_true.1 hinj (j - 1) (List.mem_range.2 (by omega))
        rw [show j - 1 + 1 = j by omega] at this
        simp [hej] at this
        omega
      simp only [setL, hne, if_false]
      rw [h2 j hj1 hj2]
      omega
  · have : slot (a.put o.dst v) (d (q + 1)) = v := by
      have hl : t < a.tmps.size := by rw [hN]; simpa [Nat.blt_eq] using hlt
      simp [slot, Act.put, hd, hdn, hl]
    rw [this]
    exact hv
/-- the chain's last one, a store -/
theorem rgc_store {ops : Array Oper} {i : Nat} {K : List SV → Prop} {ts : List SV} {r : List (Nat × SV)} {o : Oper} {rest : List Oper} (n : Nat) (hn : n + 1 = m) (hi : e (n + 1) = i) (hinj : ((List.range m).all fun j => (e (j + 1) != i) || (j == n)) = true)
    (hpre : (n == 0 || o.after.any fun ed => Region.binds .any ed && (ed.on == e n)) = true) (hg : o.guard = none) (hd : o.dst = none)
    (h : ∀ (a : Act) (w : World), (∀ x ∈ o.op.operands.toList, ∀ u, lk (look ts r) x = some (.ex u) → a.eval x = u) → S n (a.tmps.getD (d n) undef) w → UponV P anyV (fun _ w' => ∀ v, S (n + 1) v w') ((execOp a.eval o).run P w))
    (k : rgGA (OV P ops ts.length (ChainC S e d m)) K ts (i + 1) rest r) : rgGA (OV P ops ts.length (ChainC S e d m)) K ts i (o :: rest) r := by
  refine rgv_eff anyV free_any hg (fun a L w hx hI hN hC hL he => ?_) (by rw [hd]; exact k)
  obtain ⟨q, h1, h2, h3⟩ := hI.s
  have hq1 : ¬ n + 1 ≤ q := fun hq => by
    have := (h2 (n + 1) (by omega) (by omega)).2 hq
    rw [hi, hL] at this
    cases this
  have hq2 : n ≤ q := by
    rcases Nat.eq_zero_or_pos n with h0 | h0
    · omega
    · have hp := hpre
      rw [show (n == 0) = false by simp; omega, Bool.false_or, Array.any_eq_true'] at hp
      obtain ⟨ed, hed, hb⟩ := hp
      simp only [Bool.and_eq_true, beq_iff_eq] at hb
      have := he ed hed hb.1
      rw [hb.2] at this
      exact (h2 n h0 (by omega)).1 this
  obtain rfl : q = n := by omega
  refine (h a w hx h3).mono fun v w' hv => ?_
  refine ⟨q + 1, by omega, fun j hj1 hj2 => ?_, hv _⟩
  by_cases hj : j = q + 1
  · subst hj
    rw [hi]
    simp [setL]
  · have hne : e j ≠ i := fun hej => by
      have := List.all_eq_true.1 hinj (j - 1) (List.mem_range.2 (by omega))
      rw [show j - 1 + 1 = j by omega] at this
      simp [hej] at this
      omega
    simp only [setL, hne, if_false]
    rw [h2 j hj1 hj2]
    omega
theorem rgc_end {ops : Array Oper} {i : Nat} {K : List SV → Prop} {ts : List SV} {r : List (Nat × SV)} (k : K (asg ts r)) : rgGA (OV P ops ts.length (ChainC S e d m)) K ts i [] r := k
theorem rgGA_mono {O : Nat → Oper → (Nat → Option SV) → SV → Prop} {K K' : List SV → Prop} {ts : List SV} (h : ∀ s, K s → K' s) : ∀ (l : List Oper) (i : Nat) (r : List (Nat × SV)), rgGA O K ts i l r → rgGA O K' ts i l r
  | [], _, _, k => h _ k
  | o :: l, i, r, k => by
    obtain ⟨V, h1, h2⟩ := k
    refine ⟨V, h1, ?_⟩
    cases hd : o.dst with
    | none => rw [hd] at h2; exact rgGA_mono h l _ _ h2
    | some t => rw [hd] at h2; exact ⟨h2.1, rgGA_mono h l _ _ h2.2⟩
theorem opens_imp {w : World} {A B : List Value → Prop} (h : ∀ l, A l → B l) : ∀ s : List SV, opens w s A → opens w s B
  | [], k => h _ k
  | .ex v :: s, k => opens_imp (fun l => h (v :: l)) s k
  | .rel V hV :: s, k => fun v hv => opens_imp (fun l => h (v :: l)) s (k v hv)
/-- a region with such a chain -/
theorem wp_drawC {id : Nat} {Q : Exit → Act → World → Prop} {l : List Oper} {ts : List Value} {d0 : List Deferred} {w : World} (S : Nat → Value → World → Prop) (es : List Nat) (ds : List Tmp) (hm : P.follows .mixedOrders = true)
    (HL : LastC S l (fun j => es.getD (j - 1) 0) es.length) (hS0 : ∀ v, S 0 v w) (hes : (es.all fun i => Nat.blt i l.length) = true)
    (hA : LastC S l (fun j => es.getD (j - 1) 0) es.length → rgGA (OV P l.toArray (ts.map SV.ex).length (ChainC S (fun j => es.getD (j - 1) 0) (fun j => ds.getD j 0) es.length)) (fun s => ∀ w', opens w' s (fun ts' => S es.length (ts'.getD (ds.getD es.length 0) undef) w' → Q .normal ⟨ts'.toArray, d0⟩ w')) (ts.map SV.ex) 0 l []) :
    (Code.region id l.toArray true).wp P Q ⟨ts.toArray, d0⟩ w := by
  refine wp_drawV (ChainC S (fun j => es.getD (j - 1) 0) (fun j => ds.getD j 0) es.length) hm HL.chk (fun w' he => chain_start (HL.s _ _ _ _ HL.pos he (hS0 _))) ?_
  refine rgGA_mono (fun s hs L w' hL => ?_) _ _ _ (hA HL)
  have hall : ∀ j, 1 ≤ j → j ≤ es.length → L (es.getD (j - 1) 0) = true := fun j h1 h2 => by
    have hmem : es.getD (j - 1) 0 ∈ es := by
      rw [List.getD_eq_getElem?_getD, List.getElem?_eq_getElem (by omega)]
      exact List.getElem_mem _
    have := List.all_eq_true.1 hes _ hmem
    exact hL _ (by simpa [Nat.blt_eq] using this)
  exact opens_imp (fun ts' hI hC => hI (chain_end hC hall)) s (hs w')
end
end Go.Rg
