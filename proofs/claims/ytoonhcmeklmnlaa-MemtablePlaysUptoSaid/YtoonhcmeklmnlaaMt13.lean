/- A table's last list turns, and its maps and size: the plain part; a text's bytes as a slice. -/
import Derived.Test.YtoonhcmeklmnlaaMtC
import Derived.Lib.ConvBytes
set_option linter.unusedSimpArgs false
set_option linter.unusedVariables false
set_option linter.unnecessarySimpa false
namespace Go.Proofs.Ytoonhcmeklmnlaa
open Go.RowKit Go.Rg Go.St

def lastT (T : TLoc) (n : Nat) (L2 : Loc) : TLoc := { T with L := fun i => if i = n then L2 else T.L i }
def setK (M : MT) (n : Nat) (K : SK) : MT := { M with ls := M.ls.set n K }
theorem nthK_setK {M : MT} {K : SK} {n : Nat} (hn : n < M.ls.length) (i : Nat) : nthK (setK M n K) i = if i = n then K else nthK M i := by
  unfold nthK setK
  simp only
  by_cases e : i = n
  · subst e
    rw [if_pos rfl]
    simp [hn]
  · rw [if_neg e]
    simp [List.getElem?_set, Ne.symm e]
theorem foot_lt {w : World} {T : TLoc} {M : MT} (H : TRep w T M) {i : Nat} (hi : i < M.ls.length) {b : Nat} (hb : Foot (T.L i) (nthK M i).n b) : b < w.heap.size := by
  rcases (H.ls i hi).foot hb with ⟨es, c, hm⟩ | ⟨cs, ty, fr, hm, _⟩
  · exact blk_lt hm
  · exact blk_lt hm
/-- a list of a table turns -/
theorem set_rep {w w' : World} {T : TLoc} {M : MT} (H : TRep w T M) {n : Nat} (hn : n < M.ls.length) {L2 : Loc} {K2 : SK} (hC : Ch (Foot (T.L n) (nthK M n).n) w w') (hR : Rep w' L2 K2) (hlb : L2.lb = (T.L n).lb) (hF : ∀ b, Foot L2 K2.n b → Foot (T.L n) (nthK M n).n b ∨ w.heap.size ≤ b) :
    TRep w' (lastT T n L2) (setK M n K2) ∧ ∀ b, TFoot (lastT T n L2) (setK M n K2) b → TFoot T M b ∨ w.heap.size ≤ b := by
  have hlen : (setK M n K2).ls.length = M.ls.length := by simp [setK]
  have hL : ∀ i, i ≠ n → (lastT T n L2).L i = T.L i := fun i h => if_neg h
  have hLn : (lastT T n L2).L n = L2 := if_pos rfl
  have hK : ∀ i, i ≠ n → nthK (setK M n K2) i = nthK M i := fun i h => by rw [nthK_setK hn, if_neg h]
  have hKn : nthK (setK M n K2) n = K2 := by rw [nthK_setK hn, if_pos rfl]
  refine ⟨⟨?_, ?_, ?_, ?_, fun i hi => ?_, fun i j hi hj hij b hb hb2 => ?_, H.kv, fun i hi => ?_⟩, fun b hb => ?_⟩
  · exact (hC.block _ (blk_lt H.tb) fun hk => (H.feet hn hk).1 rfl).trans H.tb
  · have hx : (List.range (setK M n K2).ls.length).map (fun i => Value.pointer (some ⟨((lastT T n L2).L i).lb, 0, none⟩)) = (List.range M.ls.length).map fun i => .pointer (some ⟨(T.L i).lb, 0, none⟩) := by
      rw [hlen]
      refine List.map_congr_left fun i _ => ?_
      by_cases e : i = n
      · subst e; rw [hLn, hlb]
      · rw [hL i e]
    rw [hx, hlen]
    exact owns_ch H.row fun g hg => hC.block _ (H.row.lt g hg).2 fun hk => (H.feet hn hk).2 hg
  · exact H.km.go (hC.block _ H.km.lt (H.mo n hn).1)
  · exact H.vm.go (hC.block _ H.vm.lt (H.mo n hn).2)
  · rw [hlen] at hi
    by_cases e : i = n
    · subst e; rw [hLn, hKn]; exact hR
    · rw [hL i e, hK i e]
      exact (H.ls i hi).go hC fun k hk hF => H.ap i n hi hn e k hk hF
  · rw [hlen] at hi hj
    by_cases e : i = n
    · subst e
      have e2 : j ≠ i := Ne.symm hij
      rw [hLn, hKn] at hb
      rw [hL j e2, hK j e2] at hb2
      rcases hF b hb with h | h
      · exact H.ap i j hi hj hij b h hb2
      · have := foot_lt H hj hb2; omega
    · rw [hL i e, hK i e] at hb
      by_cases e2 : j = n
      · subst e2
        rw [hLn, hKn] at hb2
        rcases hF b hb2 with h | h
        · exact H.ap i j hi hj hij b hb h
        · have := foot_lt H hi hb; omega
      · rw [hL j e2, hK j e2] at hb2
        exact H.ap i j hi hj hij b hb hb2
  · rw [hlen] at hi
    by_cases e : i = n
    · subst e
      rw [hLn, hKn]
      have k1 := H.km.lt
      have k2 := H.vm.lt
      constructor
      · intro h
        rcases hF _ h with h | h
        · exact (H.mo i hi).1 h
        · have h' : w.heap.size ≤ T.kb := h
          omega
      · intro h
        rcases hF _ h with h | h
        · exact (H.mo i hi).2 h
        · have h' : w.heap.size ≤ T.vb := h
          omega
    · rw [hL i e, hK i e]; exact H.mo i hi
  · rcases hb with rfl | rfl | rfl | hb | ⟨i, hi, hb⟩
    · exact .inl (.inl rfl)
    · exact .inl (.inr (.inl rfl))
    · exact .inl (.inr (.inr (.inl rfl)))
    · exact .inl (.inr (.inr (.inr (.inl hb))))
    · rw [hlen] at hi
      by_cases e : i = n
      · subst e
        rw [hLn, hKn] at hb
        rcases hF b hb with h | h
        · exact .inl (.inr (.inr (.inr (.inr ⟨i, hi, h⟩))))
        · exact .inr h
      · rw [hL i e, hK i e] at hb
        exact .inl (.inr (.inr (.inr (.inr ⟨i, hi, hb⟩))))
def putE (M : MT) (k : IKey) (v : ByteArray) (s : Int) : MT := { M with es := M.es ++ [(k, v)], size := s }
/-- a table's maps turn, and its size -/
theorem put_rep {w w' : World} {T : TLoc} {M : MT} (H : TRep w T M) {k : IKey} {v : ByteArray} {s : Int} (hC : Ch (fun b => b = T.tb ∨ b = T.kb ∨ b = T.vb) w w')
    (htb : w'.heap[T.tb]? = some (.cells (tabC T (putE M k v s)) 121 (0, 0))) (hk : MapB w' T.kb strEnc (kmap M ++ [(keyT k, aKey k)])) (hv : MapB w' T.vb aKey (vmap M ++ [(k, .string v)])) : TRep w' T (putE M k v s) := by
  refine ⟨htb, ?_, ?_, ?_, fun i hi => ?_, H.ap, H.kv, H.mo⟩
  · refine owns_ch H.row fun g hg => hC.block _ (H.row.lt g hg).2 ?_
    rintro (e | e | e)
    · exact H.row_ne H.tb (by decide) (e ▸ hg)
    · obtain ⟨es, c, h1, _⟩ := H.km
      exact H.row_map h1 (e ▸ hg)
    · obtain ⟨es, c, h1, _⟩ := H.vm
      exact H.row_map h1 (e ▸ hg)
  · have : kmap (putE M k v s) = kmap M ++ [(keyT k, aKey k)] := by simp [kmap, putE]
    rw [this]; exact hk
  · have : vmap (putE M k v s) = vmap M ++ [(k, .string v)] := by simp [vmap, putE]
    rw [this]; exact hv
  · refine (H.ls i hi).go hC fun b hb hF => ?_
    rcases hF with rfl | rfl | rfl
    · exact (H.feet hi hb).1 rfl
    · exact (H.mo i hi).1 hb
    · exact (H.mo i hi).2 hb

/-! ### the last list gets a key, and its operation's steps are done -/
theorem grow_es (M : MT) : (grow1 M).es = M.es := by unfold grow1; split <;> rfl
structure CanBegin (M : MT) (n : Nat) (t : ByteArray) : Prop where
  lt : n < M.ls.length
  last : M.ls.length - 1 = n
  inv : Inv (nthK M n)
  new : ∀ i, i < (nthK M n).n → (nthK M n).key i ≠ t
  few : ((nthK M n).n : Int) < (nthK M n).room
  room : (nthK M n).room ≤ 1000
  dn : ∀ j, j < (nthK M n).n → (nthK M n).lv j = (nthK M n).ht j
theorem Ready.can {M : MT} (h : Ready M) {n : Nat} (hn : M.ls.length = n + 1) {k : IKey} (hk : GoodE k) (hno : ∀ e, e ∈ M.es → e.1 ≠ k) : CanBegin M n (keyT k) := by
  have hl := h.last
  rw [hn, Nat.add_sub_cancel] at hl
  have hlt : n < M.ls.length := by omega
  have hr := h.room n hlt
  exact ⟨hlt, by omega, h.inv n hlt, h.fresh hk hno hlt, by rw [hr]; omega, by omega, h.dn n hlt⟩
theorem ch_new2 {F F2 : Nat → Prop} {w0 w w' : World} (h : Ch F w0 w) (k : Ch F2 w w') (hF : ∀ b, F2 b → F b ∨ w0.heap.size ≤ b) : Ch F w0 w' :=
  ⟨k.os.trans h.os, k.tape.trans h.tape, k.output.trans h.output, Nat.le_trans h.size k.size, fun b hb hn => (k.block b (Nat.lt_of_lt_of_le hb h.size) fun h2 => (hF b h2).elim hn (Nat.not_le.2 hb)).trans (h.block b hb hn)⟩
/-- so many steps are done -/
structure Ran (w0 : World) (L : Loc) (K : SK) (t : ByteArray) (ht : Nat) (L2 : Loc) (m : Nat) (wr : World) : Prop where
  rep : Rep wr L2 (runK (beginK K t ht) K.n m)
  ch : Ch (Foot L K.n) w0 wr
theorem Ran.step {w0 wr w' : World} {L : Loc} {K : SK} {t : ByteArray} {ht : Nat} {L2 : Loc} {m : Nat} (h : Ran w0 L K t ht L2 m wr) (hn : (runK (beginK K t ht) K.n m).n = K.n + 1) (hF : ∀ b, Foot L2 (K.n + 1) b → Foot L K.n b ∨ w0.heap.size ≤ b)
    (hr : Rep w' L2 (stepK (runK (beginK K t ht) K.n m) K.n)) (hc : Ch (Foot L2 (runK (beginK K t ht) K.n m).n) wr w') : Ran w0 L K t ht L2 (m + 1) w' :=
  ⟨hr, ch_new2 h.ch hc (by rw [hn]; exact hF)⟩
/-- a measure for what is counted, but not in the walk -/
theorem measure_ex {α : Type} (N : Nat) (R : Nat → α → Prop) : ∃ μ : α → Nat, (∀ m x, m ≤ N → R m x → μ x ≤ N - m) ∧ ∀ x, (∃ m, m ≤ N ∧ R m x) → ∃ m, m ≤ N ∧ R m x ∧ μ x = N - m := by
  have least : ∀ (p : Nat → Prop) (n : Nat), p n → ∃ k, p k ∧ ∀ j, p j → k ≤ j := by
    intro p n
    induction n using Nat.strongRecOn with
    | _ n ih =>
      intro hn
      by_cases h : ∃ j, j < n ∧ p j
      · obtain ⟨j, hj, hp⟩ := h
        exact ih j hj hp
      · exact ⟨n, hn, fun j hp => Nat.not_lt.1 fun hj => h ⟨j, hj, hp⟩⟩
  have h : ∀ x, ∃ n, (∀ m, m ≤ N → R m x → n ≤ N - m) ∧ ((∃ m, m ≤ N ∧ R m x) → ∃ m, m ≤ N ∧ R m x ∧ n = N - m) := by
    intro x
    by_cases hx : ∃ m, m ≤ N ∧ R m x
    · obtain ⟨m, hm, hr⟩ := hx
      obtain ⟨k, ⟨m', h1, h2, h3⟩, hk⟩ := least (fun n => ∃ m, m ≤ N ∧ R m x ∧ n = N - m) (N - m) ⟨m, hm, hr, rfl⟩
      exact ⟨k, fun j hj hrj => hk _ ⟨j, hj, hrj, rfl⟩, fun _ => ⟨m', h1, h2, h3⟩⟩
    · exact ⟨0, fun m hm hr => absurd ⟨m, hm, hr⟩ hx, fun h => absurd h hx⟩
  obtain ⟨f, hf⟩ := Classical.axiomOfChoice h
  exact ⟨f, fun m x => (hf x).1 m, fun x => (hf x).2⟩
/-- when the operation is done: how many steps it takes -/
structure Steps (K : SK) (t : ByteArray) (ht D : Nat) : Prop where
  hn : ∀ m, (runK (beginK K t ht) K.n m).n = K.n + 1
  hht : ∀ m, (runK (beginK K t ht) K.n m).ht K.n = ht
  inv : ∀ m, Inv (runK (beginK K t ht) K.n m)
  on : ∀ m, m < D → (runK (beginK K t ht) K.n (m + 1)).lv K.n ≠ ht
  dn : (runK (beginK K t ht) K.n (D + 1)).lv K.n = ht
theorem steps_ex {K : SK} {t : ByteArray} {ht : Nat} (hI : Inv K) (hk : ∀ i, i < K.n → K.key i ≠ t) (h1 : 1 ≤ ht) (h8 : ht ≤ 8) : ∃ D, Steps K t ht D := by
  have hB := hI.begin hk h1 h8
  have hlt : K.n < (beginK K t ht).n := Nat.lt_succ_self _
  have hht : (beginK K t ht).ht K.n = ht := upd_same _ _ _
  obtain ⟨D, _, h2, h3⟩ := first_done hB hlt
  rw [hht] at h2
  refine ⟨D, fun m => (runK_inv hB hlt m).2.1, fun m => ?_, fun m => (runK_inv hB hlt m).1, fun m hm => by have := h3 m hm; rwa [hht] at this, h2⟩
  rw [(runK_inv hB hlt m).2.2.2.1]; exact hht
/-- a step's answer -/
theorem Steps.flag {K : SK} {t : ByteArray} {ht D m : Nat} (h : Steps K t ht D) (hm : m < D + 1) : decide ((stepK (runK (beginK K t ht) K.n m) K.n).lv K.n = (runK (beginK K t ht) K.n m).ht K.n) = decide (m + 1 = D + 1) := by
  rw [h.hht m]
  by_cases e : m = D
  · subst e
    rw [decide_eq_true (show (stepK (runK (beginK K t ht) K.n m) K.n).lv K.n = ht from h.dn), decide_eq_true rfl]
  · rw [decide_eq_false (show ¬ (stepK (runK (beginK K t ht) K.n m) K.n).lv K.n = ht from h.on m (by omega)), decide_eq_false (by omega)]
theorem Steps.lt {K : SK} {t : ByteArray} {ht D : Nat} (h : Steps K t ht D) (m : Nat) : K.n < (runK (beginK K t ht) K.n m).n := by rw [h.hn m]; exact Nat.lt_succ_self _

/-! ### a text's bytes -/
theorem conv_ext (w : World) (e : TypeId) (s : ByteArray) : Ext w (Lib.bytesWorld w e s) :=
  ⟨rfl, rfl, rfl, by rw [Lib.bytesWorld_size]; omega, fun b hb => Lib.bytesWorld_at_old w e s b hb⟩
theorem conv_sl (w : World) (e : TypeId) (s : ByteArray) (hs : s.size ≤ maxLen) : SlByte (Lib.bytesWorld w e s) (.slice (some ⟨w.heap.size, 0, none⟩) s.size (grownCap w s.size 0 e)) s.data.toList := by
  refine ⟨⟨some ⟨w.heap.size, 0, none⟩, _, by simp, by simpa using grownCap_ge w s.size 0 e, grownCap_le_maxLen w s.size 0 e hs, fun _ => ⟨w.heap.size, 0, rfl, fun k hk => ?_⟩⟩⟩
  rw [Nat.zero_add, Lib.bytesWorld_cell w e s k (by simpa using hk)]
  rfl
end Go.Proofs.Ytoonhcmeklmnlaa
