/- A key more in a list that is done, and in a table: the plain part. -/
import Derived.Test.YtoonhcmeklmnlaaMt12
set_option linter.unusedSimpArgs false
set_option linter.unusedVariables false
set_option linter.unnecessarySimpa false
namespace Go.Proofs.Ytoonhcmeklmnlaa
open Go.RowKit Go.Rg Go.St

theorem runK_other (K : SK) (i : Nat) {j : Nat} (h : j ≠ i) : ∀ m, (runK K i m).lv j = K.lv j
  | 0 => rfl
  | m + 1 => by
    show (stepK (runK K i m) i).lv j = K.lv j
    rw [(stepK_lv _ i).1 j h, runK_other K i h m]
/-- a key more, and its operation done -/
structure Put1 (K K2 : SK) (k : ByteArray) : Prop where
  inv : Inv K2
  n : K2.n = K.n + 1
  room : K2.room = K.room
  old : ∀ j, j < K.n → K2.key j = K.key j
  new : K2.key K.n = k
  dn : ∀ j, j < K2.n → K2.lv j = K2.ht j
theorem put1 {K : SK} (hI : Inv K) (hd : ∀ j, j < K.n → K.lv j = K.ht j) {k : ByteArray} {h : Nat} (hk : ∀ i, i < K.n → K.key i ≠ k) (h1 : 1 ≤ h) (h8 : h ≤ 8) {m : Nat} (hm : (runK (beginK K k h) K.n m).lv K.n = h) : Put1 K (runK (beginK K k h) K.n m) k := by
  have hB := hI.begin hk h1 h8
  have hlt : K.n < (beginK K k h).n := Nat.lt_succ_self _
  obtain ⟨a1, a2, a3, a4, a5⟩ := runK_inv hB hlt m
  refine ⟨a1, a2, a5, fun j hj => ?_, ?_, fun j hj => ?_⟩
  · rw [a3]; exact upd_other _ _ _ (by omega)
  · rw [a3]; exact upd_same _ _ _
  · rw [a2] at hj
    have hj' : j < K.n + 1 := hj
    rw [a4]
    by_cases e : j = K.n
    · subst e
      rw [hm]
      exact (upd_same K.ht K.n h).symm
    · rw [runK_other _ _ e]
      show upd K.lv K.n 0 j = upd K.ht K.n h j
      rw [upd_other _ _ _ e, upd_other _ _ _ e]
      exact hd j (by omega)

/-- all that is known of a table -/
structure MFull (M : MT) : Prop extends MInv M where
  room : ∀ i, i < M.ls.length → (nthK M i).room = 1000
  cnt : ∀ i, i < M.ls.length → (nthK M i).n = min 1000 (M.es.length - 1000 * i)
  le : M.es.length ≤ 1000 * M.ls.length
  gt : 0 < M.ls.length → 1000 * (M.ls.length - 1) < M.es.length
  gv : ∀ e, e ∈ M.es → GoodV e.1 e.2
  apk : ∀ i j, i < M.ls.length → j < M.ls.length → i ≠ j → ∀ a b, a < (nthK M i).n → b < (nthK M j).n → (nthK M i).key a ≠ (nthK M j).key b
/-- with room: a list more, where all are full -/
def grow1 (M : MT) : MT := if M.es.length = 1000 * M.ls.length then { M with ls := M.ls ++ [SK.new 1000] } else M
def setLast (M : MT) (K : SK) (k : IKey) (v : ByteArray) (size : Int) : MT := { M with ls := M.ls.set (M.ls.length - 1) K, es := M.es ++ [(k, v)], size := size }
theorem nthK_grow {M : MT} (i : Nat) (hi : i < M.ls.length) : nthK { M with ls := M.ls ++ [SK.new 1000] } i = nthK M i := by
  unfold nthK
  simp [List.getElem?_append_left hi]
theorem nthK_last {M : MT} : nthK { M with ls := M.ls ++ [SK.new 1000] } M.ls.length = SK.new 1000 := by
  unfold nthK
  simp
theorem nthK_set {M : MT} {K : SK} {k : IKey} {v : ByteArray} {s : Int} (i : Nat) (hi : i < M.ls.length) : nthK (setLast M K k v s) i = if i = M.ls.length - 1 then K else nthK M i := by
  unfold nthK setLast
  simp only
  by_cases e : i = M.ls.length - 1
  · rw [if_pos e, e]
    simp [List.getElem?_set, show M.ls.length - 1 < M.ls.length by omega]
  · rw [if_neg e]
    simp [List.getElem?_set, Ne.symm e]

structure Ready (M : MT) : Prop extends MInv M where
  room : ∀ i, i < M.ls.length → (nthK M i).room = 1000
  cnt : ∀ i, i < M.ls.length → (nthK M i).n = min 1000 (M.es.length - 1000 * i)
  lt : M.es.length < 1000 * M.ls.length
  ge : 1000 * (M.ls.length - 1) ≤ M.es.length
  gv : ∀ e, e ∈ M.es → GoodV e.1 e.2
  apk : ∀ i j, i < M.ls.length → j < M.ls.length → i ≠ j → ∀ a b, a < (nthK M i).n → b < (nthK M j).n → (nthK M i).key a ≠ (nthK M j).key b
theorem Ready.pos {M : MT} (h : Ready M) : 0 < M.ls.length := by have := h.lt; omega
theorem grow_ready {M : MT} (h : MFull M) : Ready (grow1 M) := by
  unfold grow1
  by_cases e : M.es.length = 1000 * M.ls.length
  · rw [if_pos e]
    have hlen : (M.ls ++ [SK.new 1000]).length = M.ls.length + 1 := by simp
    have hcase : ∀ i, i < M.ls.length + 1 → (i < M.ls.length ∧ nthK { M with ls := M.ls ++ [SK.new 1000] } i = nthK M i) ∨ (i = M.ls.length ∧ nthK { M with ls := M.ls ++ [SK.new 1000] } i = SK.new 1000) := fun i hi => by
      by_cases h1 : i < M.ls.length
      · exact .inl ⟨h1, nthK_grow i h1⟩
      · have : i = M.ls.length := by omega
        subst this
        exact .inr ⟨rfl, nthK_last⟩
    refine { inv := fun i hi => ?_, dn := fun i hi j hj => ?_, keys := fun k => ?_, good := h.good, uniq := h.uniq, room := fun i hi => ?_, cnt := fun i hi => ?_, lt := ?_, ge := ?_, gv := h.gv, apk := fun i j hi hj hij a b ha hb => ?_ }
    · rcases hcase i (by simpa using hi) with ⟨h1, h2⟩ | ⟨_, h2⟩
      · rw [h2]; exact h.inv i h1
      · rw [h2]; exact Inv.new 1000
    · rcases hcase i (by simpa using hi) with ⟨h1, h2⟩ | ⟨_, h2⟩
      · rw [h2] at hj ⊢; exact h.dn i h1 j hj
      · rw [h2] at hj; exact absurd hj (Nat.not_lt_zero _)
    · rw [← h.keys k]
      constructor
      · rintro ⟨i, hi, j, hj, hk⟩
        rcases hcase i (by simpa using hi) with ⟨h1, h2⟩ | ⟨_, h2⟩
        · rw [h2] at hj hk; exact ⟨i, h1, j, hj, hk⟩
        · rw [h2] at hj; exact absurd hj (Nat.not_lt_zero _)
      · rintro ⟨i, hi, j, hj, hk⟩
        refine ⟨i, by simp; omega, j, ?_, ?_⟩
        · rw [nthK_grow i hi]; exact hj
        · rw [nthK_grow i hi]; exact hk
    · rcases hcase i (by simpa using hi) with ⟨h1, h2⟩ | ⟨_, h2⟩
      · rw [h2]; exact h.room i h1
      · rw [h2]; rfl
    · rcases hcase i (by simpa using hi) with ⟨h1, h2⟩ | ⟨h1, h2⟩
      · rw [h2]; exact h.cnt i h1
      · rw [h2, h1]
        show 0 = min 1000 (M.es.length - 1000 * M.ls.length)
        omega
    · simp only [hlen]; omega
    · simp only [hlen]; omega
    · rcases hcase i (by simpa using hi) with ⟨h1, h2⟩ | ⟨h1, h2⟩
      · rcases hcase j (by simpa using hj) with ⟨h3, h4⟩ | ⟨h3, h4⟩
        · rw [h2] at ha ⊢
          rw [h4] at hb ⊢
          exact h.apk i j h1 h3 hij a b ha hb
        · rw [h4] at hb; exact absurd hb (Nat.not_lt_zero _)
      · rw [h2] at ha; exact absurd ha (Nat.not_lt_zero _)
  · rw [if_neg e]
    have h1 := h.le
    have h2 : 0 < M.ls.length := by omega
    have h3 := h.gt h2
    exact { inv := h.inv, dn := h.dn, keys := h.keys, good := h.good, uniq := h.uniq, room := h.room, cnt := h.cnt, lt := by omega, ge := by omega, gv := h.gv, apk := h.apk }
theorem Ready.last {M : MT} (h : Ready M) : (nthK M (M.ls.length - 1)).n < 1000 ∧ (nthK M (M.ls.length - 1)).n = M.es.length - 1000 * (M.ls.length - 1) := by
  have h1 := h.pos
  have h2 := h.cnt (M.ls.length - 1) (by omega)
  have h3 := h.lt
  have h4 := h.ge
  omega
theorem Ready.fresh {M : MT} (h : Ready M) {k : IKey} (hk : GoodE k) (hno : ∀ e, e ∈ M.es → e.1 ≠ k) {i : Nat} (hi : i < M.ls.length) : ∀ j, j < (nthK M i).n → (nthK M i).key j ≠ keyT k := by
  intro j hj e
  obtain ⟨x, hx, hxe⟩ := (h.keys _).1 ⟨i, hi, j, hj, rfl⟩
  exact hno x hx (keyT_inj (h.good x hx) hk (hxe.trans e))
theorem ready_put {M : MT} (h : Ready M) {K2 : SK} {k : IKey} {v : ByteArray} (hk : GoodE k) (hno : ∀ e, e ∈ M.es → e.1 ≠ k) (hv : GoodV k v) (hp : Put1 (nthK M (M.ls.length - 1)) K2 (keyT k)) (s : Int) : MFull (setLast M K2 k v s) := by
  have hpos := h.pos
  obtain ⟨hl1, hl2⟩ := h.last
  have hlen : (setLast M K2 k v s).ls.length = M.ls.length := by simp [setLast]
  have hes : (setLast M K2 k v s).es.length = M.es.length + 1 := by simp [setLast]
  have hmem : ∀ e, e ∈ (setLast M K2 k v s).es ↔ e ∈ M.es ∨ e = (k, v) := fun e => by simp [setLast]
  have hlt := h.lt
  have hge := h.ge
  have hcase : ∀ i, i < M.ls.length → (i < M.ls.length - 1 ∧ nthK (setLast M K2 k v s) i = nthK M i) ∨ (i = M.ls.length - 1 ∧ nthK (setLast M K2 k v s) i = K2) := fun i hi => by
    rw [nthK_set i hi]
    by_cases e : i = M.ls.length - 1
    · exact .inr ⟨e, if_pos e⟩
    · exact .inl ⟨by omega, if_neg e⟩
  refine { inv := fun i hi => ?_, dn := fun i hi j hj => ?_, keys := fun t => ?_, good := fun e he => ?_, uniq := ?_, room := fun i hi => ?_, cnt := fun i hi => ?_, le := ?_, gt := fun _ => ?_, gv := fun e he => ?_, apk := fun i j hi hj hij a b ha hb => ?_ }
  · rw [hlen] at hi
    rcases hcase i hi with ⟨h1, h2⟩ | ⟨h1, h2⟩
    · rw [h2]; exact h.inv i hi
    · rw [h2]; exact hp.inv
  · rw [hlen] at hi
    rcases hcase i hi with ⟨h1, h2⟩ | ⟨h1, h2⟩
    · rw [h2] at hj ⊢; exact h.dn i hi j hj
    · rw [h2] at hj ⊢; exact hp.dn j hj
  · rw [hlen]
    constructor
    · rintro ⟨i, hi, j, hj, hkj⟩
      rcases hcase i hi with ⟨h1, h2⟩ | ⟨h1, h2⟩
      · rw [h2] at hj hkj
        obtain ⟨e, he, hek⟩ := (h.keys t).1 ⟨i, hi, j, hj, hkj⟩
        exact ⟨e, (hmem e).2 (.inl he), hek⟩
      · rw [h2] at hj hkj
        rw [hp.n] at hj
        by_cases e : j < (nthK M (M.ls.length - 1)).n
        · rw [hp.old j e] at hkj
          obtain ⟨x, hx, hxk⟩ := (h.keys t).1 ⟨M.ls.length - 1, by omega, j, e, hkj⟩
          exact ⟨x, (hmem x).2 (.inl hx), hxk⟩
        · have : j = (nthK M (M.ls.length - 1)).n := by omega
          rw [this, hp.new] at hkj
          exact ⟨(k, v), (hmem _).2 (.inr rfl), hkj⟩
    · rintro ⟨e, he, hek⟩
      rcases (hmem e).1 he with he | rfl
      · obtain ⟨i, hi, j, hj, hkj⟩ := (h.keys t).2 ⟨e, he, hek⟩
        rcases hcase i hi with ⟨h1, h2⟩ | ⟨h1, h2⟩
        · exact ⟨i, hi, j, by rw [h2]; exact hj, by rw [h2]; exact hkj⟩
        · subst h1
          exact ⟨_, hi, j, by rw [h2, hp.n]; omega, by rw [h2, hp.old j hj]; exact hkj⟩
      · refine ⟨M.ls.length - 1, by omega, (nthK M (M.ls.length - 1)).n, ?_, ?_⟩
        · rcases hcase (M.ls.length - 1) (by omega) with ⟨h1, _⟩ | ⟨_, h2⟩
          · omega
          · rw [h2, hp.n]; omega
        · rcases hcase (M.ls.length - 1) (by omega) with ⟨h1, _⟩ | ⟨_, h2⟩
          · omega
          · rw [h2, hp.new]; exact hek
  · rcases (hmem e).1 he with he | rfl
    · exact h.good e he
    · exact hk
  · show ((M.es ++ [(k, v)]).map Prod.fst).Nodup
    rw [List.map_append, List.nodup_append]
    refine ⟨h.uniq, by simp, fun a ha b hb => ?_⟩
    obtain ⟨e, he, rfl⟩ := List.mem_map.1 ha
    simp at hb
    rw [hb]
    exact hno e he
  · rw [hlen] at hi
    rcases hcase i hi with ⟨h1, h2⟩ | ⟨h1, h2⟩
    · rw [h2]; exact h.room i hi
    · rw [h2, hp.room]; exact h.room _ (by omega)
  · rw [hlen] at hi
    rw [hes]
    rcases hcase i hi with ⟨h1, h2⟩ | ⟨h1, h2⟩
    · rw [h2, h.cnt i hi]
      have : 1000 * (i + 1) ≤ 1000 * (M.ls.length - 1) := Nat.mul_le_mul_left _ (by omega)
      omega
    · rw [h2, hp.n, hl2, h1]; omega
  · rw [hlen, hes]; omega
  · rw [hlen, hes]; omega
  · rcases (hmem e).1 he with he | rfl
    · exact h.gv e he
    · exact hv
  · rw [hlen] at hi hj
    have hfr := fun j hj => h.fresh hk hno (i := j) hj
    rcases hcase i hi with ⟨h1, h2⟩ | ⟨h1, h2⟩
    · rw [h2] at ha ⊢
      rcases hcase j hj with ⟨h3, h4⟩ | ⟨h3, h4⟩
      · rw [h4] at hb ⊢
        exact h.apk i j hi hj hij a b ha hb
      · rw [h4] at hb ⊢
        rw [hp.n] at hb
        by_cases e : b < (nthK M (M.ls.length - 1)).n
        · rw [hp.old b e]
          exact h.apk i _ hi (by omega) (by omega) a b ha e
        · have : b = (nthK M (M.ls.length - 1)).n := by omega
          rw [this, hp.new]
          exact hfr i hi a ha
    · rcases hcase j hj with ⟨h3, h4⟩ | ⟨h3, h4⟩
      · rw [h4] at hb ⊢
        rw [h2] at ha ⊢
        rw [hp.n] at ha
        by_cases e : a < (nthK M (M.ls.length - 1)).n
        · rw [hp.old a e]
          exact h.apk _ j (by omega) hj (by omega) a b e hb
        · have : a = (nthK M (M.ls.length - 1)).n := by omega
          rw [this, hp.new]
          exact fun x => hfr j hj b hb x.symm
      · omega
end Go.Proofs.Ytoonhcmeklmnlaa
