/- A list of package skip in memory; a step of an operation. -/
import Derived.Test.YtoonhcmeklmnlaaSk
set_option linter.unusedSimpArgs false
set_option linter.unusedVariables false
set_option linter.unnecessarySimpa false
namespace Go.Proofs.Ytoonhcmeklmnlaa
open Go.RowKit Go.Rg Go.St

/-- where the list's parts lie -/
structure Loc where
  lb : Nat
  mb : Nat
  ops : Value
  ob : Nat → Nat
  nb : Nat → Nat

def adr (L : Loc) : Option Nat → Option Addr
  | none => none
  | some j => some ⟨L.nb j, 0, none⟩
def refB (L : Loc) : Option Nat → Nat
  | none => L.lb
  | some j => L.nb j
def lnk (L : Loc) (f : Nat → Option Nat) (l : Nat) : Value := .pointer (adr L (f l))
def nodeC (L : Loc) (k : ByteArray) (f : Nat → Option Nat) : Array Value := #[.string k, lnk L f 0, lnk L f 1, lnk L f 2, lnk L f 3, lnk L f 4, lnk L f 5, lnk L f 6, lnk L f 7]
def headC (L : Loc) (f : Nat → Option Nat) (room : Int) : Array Value :=
  #[.string ⟨#[]⟩, lnk L f 0, lnk L f 1, lnk L f 2, lnk L f 3, lnk L f 4, lnk L f 5, lnk L f 6, lnk L f 7, .int .i64 room, L.ops, .map (some L.mb)]
def doV (ob : Nat) (ph : Nat) : Value := if ph = 0 then mth 89 ob else if ph = 1 then mth 108 ob else mth 127 ob
def opK (L : Loc) (K : SK) (i : Nat) : Array Value :=
  opC (.pointer (some ⟨L.lb, 0, none⟩)) (L.nb i) (K.ht i) (K.lv i) (refB L (K.at_ i)) (K.dn i) (adr L (K.nx i)) (doV (L.ob i) (K.ph i))

theorem node_at (L : Loc) (k : ByteArray) (f : Nat → Option Nat) {l : Nat} (hl : l < 8) : (nodeC L k f)[1 + l]? = some (lnk L f l) := by
  obtain rfl | rfl | rfl | rfl | rfl | rfl | rfl | rfl : l = 0 ∨ l = 1 ∨ l = 2 ∨ l = 3 ∨ l = 4 ∨ l = 5 ∨ l = 6 ∨ l = 7 := by omega
  all_goals rfl
theorem head_at (L : Loc) (f : Nat → Option Nat) (room : Int) {l : Nat} (hl : l < 8) : (headC L f room)[1 + l]? = some (lnk L f l) := by
  obtain rfl | rfl | rfl | rfl | rfl | rfl | rfl | rfl : l = 0 ∨ l = 1 ∨ l = 2 ∨ l = 3 ∨ l = 4 ∨ l = 5 ∨ l = 6 ∨ l = 7 := by omega
  all_goals rfl
theorem node_set (L : Loc) (k : ByteArray) (f : Nat → Option Nat) {l : Nat} (hl : l < 8) (r : Option Nat) : (nodeC L k f).setIfInBounds (1 + l) (.pointer (adr L r)) = nodeC L k (upd f l r) := by
  obtain rfl | rfl | rfl | rfl | rfl | rfl | rfl | rfl : l = 0 ∨ l = 1 ∨ l = 2 ∨ l = 3 ∨ l = 4 ∨ l = 5 ∨ l = 6 ∨ l = 7 := by omega
  all_goals rfl
theorem head_set (L : Loc) (f : Nat → Option Nat) (room : Int) {l : Nat} (hl : l < 8) (r : Option Nat) : (headC L f room).setIfInBounds (1 + l) (.pointer (adr L r)) = headC L (upd f l r) room := by
  obtain rfl | rfl | rfl | rfl | rfl | rfl | rfl | rfl : l = 0 ∨ l = 1 ∨ l = 2 ∨ l = 3 ∨ l = 4 ∨ l = 5 ∨ l = 6 ∨ l = 7 := by omega
  all_goals rfl

structure Rep (w : World) (L : Loc) (K : SK) : Prop where
  hd : w.heap[L.lb]? = some (.cells (headC L (K.nxt none) K.room) 109 (0, 0))
  nd : ∀ i, i < K.n → w.heap[L.nb i]? = some (.cells (nodeC L (K.key i) (K.nxt (some i))) 105 (0, 0))
  op : ∀ i, i < K.n → w.heap[L.ob i]? = some (.cells (opK L K i) 112 (0, 0))
  ops : w.ownsRow 0 110 1 L.ops K.n ((List.range K.n).map fun i => .pointer (some ⟨L.ob i, 0, none⟩))
  mp : ∃ es clock, w.heap[L.mb]? = some (.map es clock) ∧ es.toList.map (fun e => (e.key, e.val)) = (List.range K.n).map (fun i => (Value.string (K.key i), Value.bool true))
  io : ∀ i j, i < K.n → j < K.n → L.ob i = L.ob j → i = j
  im : ∀ i j, i < K.n → j < K.n → L.nb i = L.nb j → i = j

/-- the list's own blocks -/
def Foot (L : Loc) (n : Nat) (k : Nat) : Prop := k = L.lb ∨ k = L.mb ∨ L.ops.ownBlock = some k ∨ ∃ i, i < n ∧ (k = L.ob i ∨ k = L.nb i)

theorem cells_ne {w : World} {a b : Nat} {ca cb : Array Value} {ta tb : TypeId} {fa fb : Nat × Nat} (ha : w.heap[a]? = some (.cells ca ta fa)) (hb : w.heap[b]? = some (.cells cb tb fb)) (h : ta ≠ tb) : a ≠ b := by
  intro e
  subst e
  rw [ha] at hb
  simp only [Option.some.injEq, Obj.cells.injEq] at hb
  exact h hb.2.1
theorem cells_map_ne {w : World} {a b : Nat} {ca : Array Value} {ta : TypeId} {fa : Nat × Nat} {es : Array MapEntry} {c : Nat} (ha : w.heap[a]? = some (.cells ca ta fa)) (hb : w.heap[b]? = some (.map es c)) : a ≠ b := by
  intro e
  subst e
  rw [ha] at hb
  cases hb

/-- the cells of a place's links -/
theorem Rep.ref {w : World} {L : Loc} {K : SK} (h : Rep w L K) {r : Option Nat} (hr : ∀ j, r = some j → j < K.n) :
    ∃ cs T, w.heap[refB L r]? = some (.cells cs T (0, 0)) ∧ (T = 105 ∨ T = 109) ∧ (∀ l, l < 8 → cs[1 + l]? = some (.pointer (adr L (K.nxt r l)))) := by
  cases r with
  | none => exact ⟨_, _, h.hd, .inr rfl, fun l hl => head_at L _ _ hl⟩
  | some j => exact ⟨_, _, h.nd j (hr j rfl), .inl rfl, fun l hl => node_at L _ _ hl⟩

theorem Rep.ref_ob {w : World} {L : Loc} {K : SK} (h : Rep w L K) {r : Option Nat} (hr : ∀ j, r = some j → j < K.n) {i : Nat} (hi : i < K.n) : refB L r ≠ L.ob i := by
  obtain ⟨cs, T, h1, h2, _⟩ := h.ref hr
  exact cells_ne h1 (h.op i hi) (by rcases h2 with rfl | rfl <;> decide)

theorem Rep.own_ne {w : World} {L : Loc} {K : SK} (h : Rep w L K) {b : Nat} {cs : Array Value} {T : TypeId} {fr : Nat × Nat} (hb : w.heap[b]? = some (.cells cs T fr)) (hT : T ≠ 110) : L.ops.ownBlock ≠ some b := by
  intro e
  rcases h.ops.2 with ⟨h1, _⟩ | ⟨g, cap, cur, h1, _, hg, _⟩
  · rw [h1] at e; cases e
  · rw [h1] at e
    simp [Value.ownBlock] at e
    subst e
    exact cells_ne hg hb (Ne.symm hT) rfl
theorem Rep.own_map {w : World} {L : Loc} {K : SK} (h : Rep w L K) : L.ops.ownBlock ≠ some L.mb := by
  intro e
  obtain ⟨es, c, hm, _⟩ := h.mp
  rcases h.ops.2 with ⟨h1, _⟩ | ⟨g, cap, cur, h1, _, hg, _⟩
  · rw [h1] at e; cases e
  · rw [h1] at e
    simp [Value.ownBlock] at e
    subst e
    exact cells_map_ne hg hm rfl

theorem owns_ch {w w' : World} {base : Nat} {e : TypeId} {sz : Nat} {v : Value} {n : Nat} {xs : List Value} (hown : w.ownsRow base e sz v n xs) (h : ∀ g, v.ownBlock = some g → w'.heap[g]? = w.heap[g]?) : w'.ownsRow base e sz v n xs := by
  refine ⟨hown.1, ?_⟩
  rcases hown.2 with h0 | ⟨g, cap, cur, rfl, hb, hg, rest⟩
  · exact .inl h0
  · exact .inr ⟨g, cap, cur, rfl, hb, by rw [h g rfl]; exact hg, rest⟩

theorem blk_lt {w : World} {b : Nat} {o : Obj} (h : w.heap[b]? = some o) : b < w.heap.size := (Array.getElem?_eq_some_iff.1 h).1

/-- nothing of the list's has turned -/
theorem Rep.go {w w' : World} {L : Loc} {K : SK} (h : Rep w L K) {F : Nat → Prop} (hc : Ch F w w') (hf : ∀ k, Foot L K.n k → ¬ F k) : Rep w' L K := by
  have keep : ∀ {b : Nat} {o : Obj}, w.heap[b]? = some o → Foot L K.n b → w'.heap[b]? = some o := fun hb hF => (hc.block _ (blk_lt hb) (hf _ hF)).trans hb
  refine ⟨keep h.hd (.inl rfl), fun i hi => keep (h.nd i hi) (.inr (.inr (.inr ⟨i, hi, .inr rfl⟩))), fun i hi => keep (h.op i hi) (.inr (.inr (.inr ⟨i, hi, .inl rfl⟩))), ?_, ?_, h.io, h.im⟩
  · refine owns_ch h.ops fun g hg => hc.block g (h.ops.lt g hg).2 (hf g (.inr (.inr (.inl hg))))
  · obtain ⟨es, c, hm, he⟩ := h.mp
    exact ⟨es, c, keep hm (.inr (.inl rfl)), he⟩
theorem Rep.ext {w w' : World} {L : Loc} {K : SK} (h : Rep w L K) (he : Ext w w') : Rep w' L K := h.go (F := fun _ => False) (Ch.of_ext he) (fun _ _ hf => hf)

/-- one operation's block alone has turned -/
theorem Rep.one {w w' : World} {L : Loc} {K K' : SK} (h : Rep w L K) {i : Nat} (hi : i < K.n) (hc : Ch (· = L.ob i) w w') (hn : K'.n = K.n ∧ K'.key = K.key ∧ K'.nxt = K.nxt ∧ K'.room = K.room)
    (ho : w'.heap[L.ob i]? = some (.cells (opK L K' i) 112 (0, 0))) (hs : ∀ j, j < K.n → j ≠ i → opK L K' j = opK L K j) : Rep w' L K' := by
  obtain ⟨n1, n2, n3, n4⟩ := hn
  have keep : ∀ {b : Nat} {o : Obj}, w.heap[b]? = some o → b ≠ L.ob i → w'.heap[b]? = some o := fun hb hF => (hc.block _ (blk_lt hb) hF).trans hb
  refine ⟨?_, ?_, ?_, ?_, ?_, ?_, ?_⟩
  · rw [n3, n4]; exact keep h.hd (cells_ne h.hd (h.op i hi) (by decide))
  · intro j hj
    rw [n1] at hj
    rw [n2, n3]
    exact keep (h.nd j hj) (cells_ne (h.nd j hj) (h.op i hi) (by decide))
  · intro j hj
    rw [n1] at hj
    by_cases hji : j = i
    · subst hji; exact ho
    · rw [hs j hj hji]
      exact keep (h.op j hj) (fun e => hji (h.io j i hj hi e))
  · rw [n1]
    exact owns_ch h.ops fun g hg => hc.block g (h.ops.lt g hg).2 (fun e => h.own_ne (h.op i hi) (by decide) (by rw [hg, e]))
  · obtain ⟨es, c, hm, he⟩ := h.mp
    rw [n1, n2]
    exact ⟨es, c, keep hm (fun e => cells_map_ne (h.op i hi) (by rw [e] at hm; exact hm) rfl), he⟩
  · rw [n1]; exact h.io
  · rw [n1]; exact h.im

def DoPost (w : World) (L : Loc) (K : SK) (i : Nat) (e : Ending) (w' : World) : Prop := e = .returned (.tuple #[]) ∧ Rep w' L (stepK K i) ∧ Ch (Foot L K.n) w w'

theorem Rep.key_at {w : World} {L : Loc} {K : SK} (h : Rep w L K) {i : Nat} (hi : i < K.n) : w.cell? ⟨L.nb i, 0, none⟩ = some (.string (K.key i)) := cell_of_row _ _ _ _ _ _ (h.nd i hi)

theorem Rep.sees {w : World} {L : Loc} {K : SK} (h : Rep w L K) (hI : Inv K) {i : Nat} (hi : i < K.n) (hlt : K.lv i < K.ht i) :
    Sees w (L.ob i) (L.nb i) (refB L (K.at_ i)) (K.dn i) (K.key i) (adr L (K.nxt (K.at_ i) (K.dn i))) (match K.nxt (K.at_ i) (K.dn i) with | some j => K.key j | none => ByteArray.empty) := by
  have hdn := hI.dn i hi hlt
  have hat : ∀ j, K.at_ i = some j → j < K.n := fun j hj => (hI.at_ i hi j hj).1
  obtain ⟨cs, T, h1, h2, h3⟩ := h.ref hat
  have hx : ∀ j, K.nxt (K.at_ i) (K.dn i) = some j → j < K.n := fun j hj => (hI.link (by omega) (hI.place hi) hj).1
  refine ⟨?_, h.key_at hi, ?_, ?_, h.ref_ob hat hi, ?_⟩
  · rw [Int.toNat_natCast, cell_of_row _ _ _ _ _ _ h1]; exact h3 _ (by omega)
  · intro p hp
    cases hq : K.nxt (K.at_ i) (K.dn i) with
    | none => rw [hq] at hp; cases hp
    | some j =>
      rw [hq] at hp
      cases hp
      exact ⟨rfl, rfl, h.key_at (hx j hq)⟩
  · exact cells_ne (h.nd i hi) (h.op i hi) (by decide)
  · intro p hp
    cases hq : K.nxt (K.at_ i) (K.dn i) with
    | none => rw [hq] at hp; cases hp
    | some j =>
      rw [hq] at hp
      cases hp
      exact cells_ne (h.nd j (hx j hq)) (h.op i hi) (by decide)

theorem opK_other {L : Loc} {K K' : SK} {j : Nat} (h : K'.ht j = K.ht j ∧ K'.lv j = K.lv j ∧ K'.at_ j = K.at_ j ∧ K'.dn j = K.dn j ∧ K'.nx j = K.nx j ∧ K'.ph j = K.ph j) : opK L K' j = opK L K j := by
  obtain ⟨h1, h2, h3, h4, h5, h6⟩ := h
  unfold opK
  rw [h1, h2, h3, h4, h5, h6]

theorem do_look {w : World} {L : Loc} {K : SK} (h : Rep w L K) (hI : Inv K) {i : Nat} (hi : i < K.n) (hlt : K.lv i < K.ht i) (hp : K.ph i = 0) :
    Calls Try.prog 89 #[.pointer (some ⟨L.ob i, 0, none⟩)] w (DoPost w L K i) := by
  have hs := h.sees hI hi hlt
  have hdn := hI.dn i hi hlt
  have hF : Foot L K.n (L.ob i) := .inr (.inr (.inr ⟨i, hi, .inl rfl⟩))
  have hop := h.op i hi
  unfold opK at hop
  have hd0 : doV (L.ob i) (K.ph i) = mth 89 (L.ob i) := by rw [hp]; rfl
  rw [hd0] at hop
  have est : stepK K i = (let x := K.nxt (K.at_ i) (K.dn i)
    if K.sees i = true then { K with nx := upd K.nx i x, at_ := upd K.at_ i x }
    else if K.lv i < K.dn i then { K with nx := upd K.nx i x, dn := upd K.dn i (K.dn i - 1) }
    else { K with nx := upd K.nx i x, ph := upd K.ph i 1 }) := by
    unfold stepK
    rw [if_neg (by omega), if_pos hp]
  cases hse : K.sees i with
  | true =>
    unfold SK.sees at hse
    cases hx : K.nxt (K.at_ i) (K.dn i) with
    | none => rw [hx] at hse; cases hse
    | some j =>
      rw [hx] at hse hs
      refine (look_on _ _ _ _ _ _ _ _ _ _ _ _ (L.nb j) hop hs (by omega) (by omega) hse).mono ?_
      rintro e w' ⟨rfl, k1, k2⟩
      refine ⟨rfl, ?_, k2.mono fun k _ hk => by rw [hk]; exact hF⟩
      rw [est]
      dsimp only
      rw [if_pos (by unfold SK.sees; rw [hx]; exact hse), hx]
      refine h.one hi k2 ⟨rfl, rfl, rfl, rfl⟩ ?_ fun j' _ hne => opK_other ⟨rfl, rfl, upd_other _ _ _ hne, rfl, upd_other _ _ _ hne, rfl⟩
      rw [k1]
      unfold opK
      simp only [upd_same, adr, refB, hd0]
  | false =>
    have hno : ∀ p, adr L (K.nxt (K.at_ i) (K.dn i)) = some p → kl (match K.nxt (K.at_ i) (K.dn i) with | some j => K.key j | none => ByteArray.empty) (K.key i) = false := by
      intro p hp'
      unfold SK.sees at hse
      cases hx : K.nxt (K.at_ i) (K.dn i) with
      | none => rw [hx] at hp'; cases hp'
      | some j => rw [hx] at hse; exact hse
    by_cases hd : K.lv i < K.dn i
    · refine (look_down _ _ _ _ _ _ _ _ _ _ _ _ _ hop hs (by omega) (by omega) hno (by omega)).mono ?_
      rintro e w' ⟨rfl, k1, k2⟩
      refine ⟨rfl, ?_, k2.mono fun k _ hk => by rw [hk]; exact hF⟩
      rw [est]
      dsimp only
      rw [if_neg (by rw [hse]; exact Bool.false_ne_true), if_pos hd]
      refine h.one hi k2 ⟨rfl, rfl, rfl, rfl⟩ ?_ fun j' _ hne => opK_other ⟨rfl, rfl, rfl, upd_other _ _ _ hne, upd_other _ _ _ hne, rfl⟩
      rw [k1]
      unfold opK
      simp only [upd_same, hd0]
      rw [show ((K.dn i - 1 : Nat) : Int) = (K.dn i : Int) - 1 by omega]
    · refine (look_done _ _ _ _ _ _ _ _ _ _ _ _ _ hop hs (by omega) (by omega) hno (by omega)).mono ?_
      rintro e w' ⟨rfl, k1, k2⟩
      refine ⟨rfl, ?_, k2.mono fun k _ hk => by rw [hk]; exact hF⟩
      rw [est]
      dsimp only
      rw [if_neg (by rw [hse]; exact Bool.false_ne_true), if_neg hd]
      refine h.one hi k2 ⟨rfl, rfl, rfl, rfl⟩ ?_ fun j' _ hne => opK_other ⟨rfl, rfl, rfl, rfl, upd_other _ _ _ hne, upd_other _ _ _ hne⟩
      rw [k1]
      unfold opK
      simp only [upd_same]
      rfl

/-- a place's block -/
def RefIs (w : World) (L : Loc) (K : SK) (f : Option Nat → Nat → Option Nat) : Option Nat → Prop
  | none => w.heap[L.lb]? = some (.cells (headC L (f none) K.room) 109 (0, 0))
  | some j => w.heap[L.nb j]? = some (.cells (nodeC L (K.key j) (f (some j))) 105 (0, 0))

/-- two blocks of the list have turned: an operation's, and a place's links -/
theorem Rep.two {w w' : World} {L : Loc} {K K' : SK} (h : Rep w L K) {i : Nat} (hi : i < K.n) {r : Option Nat} (hr : ∀ j, r = some j → j < K.n) (hc : Ch (fun k => k = L.ob i ∨ k = refB L r) w w')
    (hn : K'.n = K.n ∧ K'.key = K.key ∧ K'.room = K.room) (hx : ∀ q, q ≠ r → K'.nxt q = K.nxt q)
    (ho : w'.heap[L.ob i]? = some (.cells (opK L K' i) 112 (0, 0))) (hs : ∀ j, j < K.n → j ≠ i → opK L K' j = opK L K j)
    (hrf : RefIs w' L K K'.nxt r) : Rep w' L K' := by
  obtain ⟨n1, n2, n4⟩ := hn
  have keep : ∀ {b : Nat} {o : Obj}, w.heap[b]? = some o → b ≠ L.ob i → b ≠ refB L r → w'.heap[b]? = some o := fun hb h1 h2 => (hc.block _ (blk_lt hb) (fun hF => by rcases hF with h | h; exact h1 h; exact h2 h)).trans hb
  obtain ⟨rcs, rT, hrb, hrT, _⟩ := h.ref hr
  refine ⟨?_, ?_, ?_, ?_, ?_, ?_, ?_⟩
  · rw [n4]
    cases r with
    | none => exact hrf
    | some j =>
      rw [hx none (by simp)]
      exact keep h.hd (cells_ne h.hd (h.op i hi) (by decide)) (cells_ne h.hd (h.nd j (hr j rfl)) (by decide))
  · intro j hj
    rw [n1] at hj
    rw [n2]
    by_cases hjr : some j = r
    · subst hjr; exact hrf
    · rw [hx _ hjr]
      refine keep (h.nd j hj) (cells_ne (h.nd j hj) (h.op i hi) (by decide)) (fun e => ?_)
      cases r with
      | none => exact cells_ne (h.nd j hj) h.hd (by decide) e
      | some j' => exact hjr (by rw [h.im j j' hj (hr j' rfl) e])
  · intro j hj
    rw [n1] at hj
    by_cases hji : j = i
    · subst hji; exact ho
    · rw [hs j hj hji]
      exact keep (h.op j hj) (fun e => hji (h.io j i hj hi e)) (Ne.symm (h.ref_ob hr hj))
  · rw [n1]
    refine owns_ch h.ops fun g hg => hc.block g (h.ops.lt g hg).2 (fun e => ?_)
    rcases e with e | e
    · exact h.own_ne (h.op i hi) (by decide) (by rw [hg, e])
    · exact h.own_ne hrb (by rcases hrT with rfl | rfl <;> decide) (by rw [hg, e])
  · obtain ⟨es, c, hm, he⟩ := h.mp
    rw [n1, n2]
    exact ⟨es, c, keep hm (fun e => cells_map_ne (h.op i hi) (by rw [e] at hm; exact hm) rfl) (fun e => cells_map_ne hrb (by rw [e] at hm; exact hm) rfl), he⟩
  · rw [n1]; exact h.io
  · rw [n1]; exact h.im

theorem do_link {w : World} {L : Loc} {K : SK} (h : Rep w L K) (hI : Inv K) {i : Nat} (hi : i < K.n) (hlt : K.lv i < K.ht i) (hp : K.ph i = 1) :
    Calls Try.prog 108 #[.pointer (some ⟨L.ob i, 0, none⟩)] w (DoPost w L K i) := by
  have hht := hI.ht i hi
  have hop := h.op i hi
  unfold opK at hop
  have hdv : doV (L.ob i) (K.ph i) = mth 108 (L.ob i) := by rw [hp]; rfl
  rw [hdv] at hop
  refine (link_any _ _ _ _ _ _ _ _ _ _ _ hop (h.nd i hi) rfl (by omega) (by omega) (Ne.symm (cells_ne (h.nd i hi) (h.op i hi) (by decide)))).mono ?_
  rintro e w' ⟨rfl, k1, k2, k3⟩
  refine ⟨rfl, ?_, k3.mono fun k _ hk => .inr (.inr (.inr ⟨i, hi, hk⟩))⟩
  have est : stepK K i = { K with nxt := upd K.nxt (some i) (upd (K.nxt (some i)) (K.lv i) (K.nx i)), ph := upd K.ph i 2 } := by
    unfold stepK
    rw [if_neg (by omega), if_neg (by omega), if_pos hp]
  rw [est]
  refine h.two hi (r := some i) (fun j hj => by cases hj; exact hi) k3 ⟨rfl, rfl, rfl⟩ (fun q hq => upd_other _ _ _ hq) ?_ (fun j' _ hne => opK_other ⟨rfl, rfl, rfl, rfl, rfl, upd_other _ _ _ hne⟩) ?_
  · rw [k1]
    unfold opK
    simp only [upd_same]
    rfl
  · show w'.heap[L.nb i]? = _
    simp only [upd_same]
    rw [k2, Int.toNat_natCast, node_set _ _ _ (by omega)]

theorem eql_nil_left (w : World) (b : Option Addr) : (binOp .eql 102 (.pointer none) (.pointer b)).run Try.prog w = .ok (.bool b.isNone) w := by
  have h : ∀ d : Nat, (Op.equalIn (d + 1) 102 (.pointer none) (.pointer b)).run Try.prog w = .ok b.isNone w := fun d => by
    simp [Op.equalIn, run_underlying Try.underlying102]
  simp only [binOp]
  simp [Op.equal, Op.maxDepth, h 9999]
theorem eql_nil_right (w : World) (a : Addr) : (binOp .eql 102 (.pointer (some a)) (.pointer none)).run Try.prog w = .ok (.bool false) w := by
  have h : ∀ d : Nat, (Op.equalIn (d + 1) 102 (.pointer (some a)) (.pointer none)).run Try.prog w = .ok false w := fun d => by
    simp [Op.equalIn, run_underlying Try.underlying102]
  simp only [binOp]
  simp [Op.equal, Op.maxDepth, h 9999]
theorem info_of_cells {P : Program} {t n : Nat} (h : P.cellsOf t = n + 1) : ∃ j, P.info? t = some j ∧ j.size ≠ 0 := by
  unfold Program.cellsOf at h
  cases hq : P.info? t with
  | none => rw [hq] at h; simp at h
  | some j => rw [hq] at h; simp at h; exact ⟨j, rfl, by omega⟩
theorem node_info : ∃ j, Try.prog.info? 105 = some j ∧ j.size ≠ 0 := info_of_cells (n := 8) (by kernel_rfl)

theorem link_eq {w : World} {L : Loc} {K : SK} (h : Rep w L K) {a b : Option Nat} (ha : ∀ j, a = some j → j < K.n) (hb : ∀ j, b = some j → j < K.n) : LinkEq w (adr L a) (adr L b) (decide (a = b)) := by
  intro n
  cases a with
  | none =>
    cases b with
    | none => exact eql_nil_left _ _
    | some j => exact eql_nil_left _ _
  | some i =>
    cases b with
    | none => exact eql_nil_right _ _
    | some j =>
      have hi := ha i rfl
      have hj := hb j rfl
      obtain ⟨ji, hte, hsz⟩ := node_info
      by_cases hij : i = j
      · subst hij
        simp only [decide_true]
        exact run_eql_ptr_same (P := Try.prog) (w.drewN n) _ Try.underlying102 hte
      · rw [decide_eq_false (by simpa using hij)]
        exact run_eql_ptr_other (P := Try.prog) (w.drewN n) Try.underlying102 hte hsz (fun e => hij (h.im i j hi hj (congrArg Addr.block e))) (h.nd i hi) (h.nd j hj)

theorem do_swap {w : World} {L : Loc} {K : SK} (h : Rep w L K) (hI : Inv K) {i : Nat} (hi : i < K.n) (hlt : K.lv i < K.ht i) (hp : K.ph i = 2) :
    Calls Try.prog 127 #[.pointer (some ⟨L.ob i, 0, none⟩)] w (DoPost w L K i) := by
  have hht := hI.ht i hi
  have hop := h.op i hi
  unfold opK at hop
  have hdv : doV (L.ob i) (K.ph i) = mth 127 (L.ob i) := by rw [hp]; rfl
  rw [hdv] at hop
  have hat : ∀ j, K.at_ i = some j → j < K.n := fun j hj => (hI.at_ i hi j hj).1
  obtain ⟨hdl, _⟩ := hI.st i hi hlt (by omega)
  have hplace : ∀ j, K.at_ i = some j → j < K.n ∧ K.lv i < K.lv j := fun j hj => by have := hI.place hi j hj; omega
  have hx : ∀ j, K.nxt (K.at_ i) (K.lv i) = some j → j < K.n := fun j hj => (hI.link (by omega) hplace hj).1
  have hle := link_eq h hx (fun j hj => hI.nxv i hi j hj)
  obtain ⟨cs, T, h1, h2, h3⟩ := h.ref hat
  by_cases heq : K.nxt (K.at_ i) (K.lv i) = K.nx i
  · rw [decide_eq_true heq] at hle
    have est : stepK K i = { K with nxt := upd K.nxt (K.at_ i) (upd (K.nxt (K.at_ i)) (K.lv i) (some i)), lv := upd K.lv i (K.lv i + 1), at_ := upd K.at_ i none, dn := upd K.dn i 7, ph := upd K.ph i 0 } := by
      unfold stepK
      rw [if_neg (by omega), if_neg (by omega), if_neg (by omega), if_pos heq]
    refine (swap_yes _ _ _ _ _ _ _ _ _ _ _ cs T hop h1 (by rw [Int.toNat_natCast]; exact h3 _ (by omega)) (by omega) (by omega) (h.ref_ob hat hi) hle).mono ?_
    rintro e w' ⟨rfl, k1, k2, k3⟩
    have hF : ∀ k, k < w.heap.size → (k = L.ob i ∨ k = refB L (K.at_ i)) → Foot L K.n k := fun k _ hk => by
      rcases hk with hk | hk
      · exact .inr (.inr (.inr ⟨i, hi, .inl hk⟩))
      · cases ha : K.at_ i with
        | none => rw [ha] at hk; exact .inl hk
        | some j => rw [ha] at hk; exact .inr (.inr (.inr ⟨j, hat j ha, .inr hk⟩))
    refine ⟨rfl, ?_, k3.mono hF⟩
    rw [est]
    refine h.two hi (r := K.at_ i) hat k3 ⟨rfl, rfl, rfl⟩ (fun q hq => upd_other _ _ _ hq) ?_ (fun j' _ hne => opK_other ⟨rfl, upd_other _ _ _ hne, upd_other _ _ _ hne, upd_other _ _ _ hne, rfl, upd_other _ _ _ hne⟩) ?_
    · rw [k1]
      unfold opK
      simp only [upd_same]
      rw [show ((K.lv i + 1 : Nat) : Int) = (K.lv i : Int) + 1 by omega]
      rfl
    · clear est hF h3 hop hle heq hx hplace k1 k3
      generalize K.at_ i = r at hat h1 k2 ⊢
      cases r with
      | none =>
        have hh := h.hd
        rw [show refB L none = L.lb from rfl] at h1 k2
        rw [hh] at h1
        simp only [Option.some.injEq, Obj.cells.injEq] at h1
        obtain ⟨rfl, rfl, _⟩ := h1
        show w'.heap[L.lb]? = _
        simp only [upd_same]
        rw [k2, Int.toNat_natCast]
        exact congrArg some (congrArg (fun c => Obj.cells c _ _) (head_set L _ _ (by omega) (some i)))
      | some j =>
        have hh := h.nd j (hat j rfl)
        rw [show refB L (some j) = L.nb j from rfl] at h1 k2
        rw [hh] at h1
        simp only [Option.some.injEq, Obj.cells.injEq] at h1
        obtain ⟨rfl, rfl, _⟩ := h1
        show w'.heap[L.nb j]? = _
        simp only [upd_same]
        rw [k2, Int.toNat_natCast]
        exact congrArg some (congrArg (fun c => Obj.cells c _ _) (node_set L _ _ (by omega) (some i)))
  · rw [decide_eq_false heq] at hle
    have est : stepK K i = { K with at_ := upd K.at_ i none, dn := upd K.dn i 7, ph := upd K.ph i 0 } := by
      unfold stepK
      rw [if_neg (by omega), if_neg (by omega), if_neg (by omega), if_neg heq]
    refine (swap_no _ _ _ _ _ _ _ _ _ _ _ hop (by rw [Int.toNat_natCast, cell_of_row _ _ _ _ _ _ h1]; exact h3 _ (by omega)) (by omega) (by omega) hle).mono ?_
    rintro e w' ⟨rfl, k1, k2⟩
    refine ⟨rfl, ?_, k2.mono fun k _ hk => by rw [hk]; exact .inr (.inr (.inr ⟨i, hi, .inl rfl⟩))⟩
    rw [est]
    refine h.one hi k2 ⟨rfl, rfl, rfl, rfl⟩ ?_ fun j' _ hne => opK_other ⟨rfl, rfl, upd_other _ _ _ hne, upd_other _ _ _ hne, rfl, upd_other _ _ _ hne⟩
    rw [k1]
    unfold opK
    simp only [upd_same]
    rfl

theorem Rep.opsv {w : World} {L : Loc} {K : SK} (h : Rep w L K) {i : Nat} (hi : i < K.n) : ∃ g cap, L.ops = .slice (some ⟨g, 0, none⟩) K.n cap ∧ K.n ≤ cap ∧ cap ≤ maxLen ∧ w.cell? ⟨g, i, none⟩ = some (.pointer (some ⟨L.ob i, 0, none⟩)) := by
  rcases h.ops.2 with ⟨_, h0⟩ | ⟨g, cap, cur, h1, _, hg, hn, hm, hcs, htk⟩
  · omega
  · refine ⟨g, cap, h1, hn, hm, ?_⟩
    rw [cell_of_row _ _ _ _ _ _ hg]
    have e : (cur.toList.take (K.n * 1))[i]? = cur.toList[i]? := by rw [List.getElem?_take, if_pos (by omega)]
    rw [htk] at e
    simp [hi] at e
    simp [← e]

theorem Rep.opslen {w : World} {L : Loc} {K : SK} (h : Rep w L K) : ∃ a cap, L.ops = .slice a K.n cap ∧ K.n ≤ maxLen := by
  rcases h.ops.2 with ⟨h1, h0⟩ | ⟨g, cap, cur, h1, _, hg, hn, hm, hcs, htk⟩
  · exact ⟨none, 0, by rw [h1, h0], by rw [h0]; exact Nat.zero_le _⟩
  · exact ⟨_, cap, h1, Nat.le_trans hn hm⟩
end Go.Proofs.Ytoonhcmeklmnlaa
