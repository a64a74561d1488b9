/- What is known of a user's key at a number: the plain part. -/
import Derived.Test.YtoonhcmeklmnlaaMt8
set_option linter.unusedSimpArgs false
set_option linter.unusedVariables false
set_option linter.unnecessarySimpa false
namespace Go.Proofs.Ytoonhcmeklmnlaa
open Go.RowKit Go.Rg Go.St

def GoodE (k : IKey) : Prop := k.user.size ≤ 64 ∧ 0 ≤ k.seq ∧ k.seq ≤ 72057594037927935 ∧ (k.kind = 0 ∨ k.kind = 1)
structure MInv (M : MT) : Prop extends MDone M where
  keys : ∀ k, tkeys M M.ls.length k ↔ ∃ e, e ∈ M.es ∧ keyT e.1 = k
  good : ∀ e, e ∈ M.es → GoodE e.1
  uniq : (M.es.map Prod.fst).Nodup
def seekT (u : ByteArray) (s : Nat) : ByteArray := ⟨(ordL u.data.toList s 255).toArray⟩
theorem kl_mk (a b : List UInt8) : kl ⟨a.toArray⟩ ⟨b.toArray⟩ = Op.bytesLess a b := by
  unfold kl
  rw [ByteArray.toList_eq, ByteArray.toList_eq]
theorem kl_data (a b : ByteArray) : Op.bytesLess a.data.toList b.data.toList = kl a b := by
  unfold kl
  rw [ByteArray.toList_eq, ByteArray.toList_eq]
theorem data_eq {a b : ByteArray} : (a.data.toList = b.data.toList) ↔ a = b := by
  constructor
  · intro h; cases a; cases b; simp at h; rw [h]
  · intro h; rw [h]
theorem goodE_nat {k : IKey} (h : GoodE k) : k.seq.toNat < 72057594037927936 ∧ k.kind.toNat < 256 ∧ (k.seq.toNat : Int) = k.seq ∧ (k.kind.toNat : Int) = k.kind := by
  obtain ⟨_, h1, h2, h3⟩ := h
  refine ⟨by omega, ?_, by omega, ?_⟩
  · rcases h3 with h3 | h3 <;> rw [h3] <;> decide
  · rcases h3 with h3 | h3 <;> rw [h3] <;> rfl
theorem keyT_less {a b : IKey} (ha : GoodE a) (hb : GoodE b) : kl (keyT a) (keyT b) = if a.user = b.user then decide (b.seq * 256 + b.kind < a.seq * 256 + a.kind) else kl a.user b.user := by
  obtain ⟨a1, a2, a3, a4⟩ := goodE_nat ha
  obtain ⟨b1, b2, b3, b4⟩ := goodE_nat hb
  unfold keyT
  rw [kl_mk, ord_less _ _ _ _ _ _ a1 a2 b1 b2, kl_data]
  by_cases e : a.user = b.user
  · rw [if_pos (data_eq.2 e), if_pos e, decide_eq_decide]; omega
  · rw [if_neg (fun h => e (data_eq.1 h)), if_neg e]
theorem keyT_inj {a b : IKey} (ha : GoodE a) (hb : GoodE b) (h : keyT a = keyT b) : a = b := by
  obtain ⟨a1, a2, a3, a4⟩ := goodE_nat ha
  obtain ⟨b1, b2, b3, b4⟩ := goodE_nat hb
  unfold keyT at h
  have h' : ordL a.user.data.toList a.seq.toNat a.kind.toNat = ordL b.user.data.toList b.seq.toNat b.kind.toNat := by
    have := congrArg (fun x : ByteArray => x.data.toList) h
    simpa using this
  obtain ⟨e1, e2, e3⟩ := ord_inj a1 a2 b1 b2 h'
  obtain ⟨u, s, n⟩ := a
  obtain ⟨u', s', n'⟩ := b
  simp only at *
  have := data_eq.1 e1
  subst this
  have : s = s' := by omega
  subst this
  have : n = n' := by omega
  subst this
  rfl
theorem keyT_seek {a : IKey} (ha : GoodE a) (u : ByteArray) {s : Nat} (hs : s < 72057594037927936) : kl (keyT a) (seekT u s) = if a.user = u then decide ((s : Int) < a.seq) else kl a.user u := by
  obtain ⟨a1, a2, a3, a4⟩ := goodE_nat ha
  unfold keyT seekT
  rw [kl_mk, ord_less _ _ _ _ _ _ a1 a2 hs (by decide), kl_data]
  by_cases e : a.user = u
  · rw [if_pos (data_eq.2 e), if_pos e, decide_eq_decide]
    have : a.kind = 0 ∨ a.kind = 1 := ha.2.2.2
    omega
  · rw [if_neg (fun h => e (data_eq.1 h)), if_neg e]

/-- the newest of a user's, of those that a number sees -/
def Newest (M : MT) (u : ByteArray) (s : Int) (e : IKey × ByteArray) : Prop := e ∈ M.es ∧ e.1.user = u ∧ e.1.seq ≤ s ∧ ∀ e', e' ∈ M.es → e'.1.user = u → e'.1.seq ≤ s → e'.1.seq * 256 + e'.1.kind ≤ e.1.seq * 256 + e.1.kind
def NoneOf (M : MT) (u : ByteArray) (s : Int) : Prop := ∀ e, e ∈ M.es → e.1.user = u → s < e.1.seq
theorem first_none {M : MT} (hM : MInv M) {u : ByteArray} {s : Nat} (hs : s < 72057594037927936) {t : ByteArray} (h : FirstOf (tkeys M M.ls.length) (seekT u s) t false) : t = ByteArray.empty ∧ NoneOf M u s := by
  rcases h with ⟨h, _⟩ | ⟨_, h1, h2⟩
  · cases h
  · refine ⟨h1, fun e he hu => ?_⟩
    have := h2 (keyT e.1) ((hM.keys _).2 ⟨e, he, rfl⟩)
    rw [keyT_seek (hM.good e he) u hs, if_pos hu] at this
    exact of_decide_eq_true this
theorem first_some {M : MT} (hM : MInv M) {u : ByteArray} {s : Nat} (hs : s < 72057594037927936) {t : ByteArray} (h : FirstOf (tkeys M M.ls.length) (seekT u s) t true) :
    ∃ e, e ∈ M.es ∧ keyT e.1 = t ∧ (e.1.user = u → Newest M u s e) ∧ (e.1.user ≠ u → NoneOf M u s) := by
  rcases h with ⟨_, h1, h2, h3⟩ | ⟨h, _⟩
  · obtain ⟨e, he, hk⟩ := (hM.keys t).1 h1
    have hge := hM.good e he
    rw [← hk, keyT_seek hge u hs] at h2
    refine ⟨e, he, hk, fun hu => ?_, fun hu e' he' hu' => ?_⟩
    · rw [if_pos hu] at h2
      refine ⟨he, hu, by have := of_decide_eq_false h2; omega, fun e' he' hu' hs' => ?_⟩
      have hg' := hM.good e' he'
      have h5 : kl (keyT e'.1) (seekT u s) = false := by rw [keyT_seek hg' u hs, if_pos hu']; exact decide_eq_false (by omega)
      have h6 := h3 (keyT e'.1) ((hM.keys _).2 ⟨e', he', rfl⟩) h5
      rw [← hk, keyT_less hg' hge, if_pos (by rw [hu', hu])] at h6
      have := of_decide_eq_false h6
      omega
    · rw [if_neg hu] at h2
      refine Int.not_le.1 fun hs' => ?_
      have hg' := hM.good e' he'
      have h5 : kl (keyT e'.1) (seekT u s) = false := by rw [keyT_seek hg' u hs, if_pos hu']; exact decide_eq_false (by omega)
      have h6 := h3 (keyT e'.1) ((hM.keys _).2 ⟨e', he', rfl⟩) h5
      rw [← hk, keyT_less hg' hge, hu', if_neg (fun x => hu x.symm)] at h6
      rcases kl_total u e.1.user with x | x | x
      · rw [x] at h6; cases h6
      · exact hu x.symm
      · rw [x] at h2; cases h2
  · cases h
end Go.Proofs.Ytoonhcmeklmnlaa
