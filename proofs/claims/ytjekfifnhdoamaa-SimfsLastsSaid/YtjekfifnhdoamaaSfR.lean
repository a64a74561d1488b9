/- Files that a crash cuts: the plain laws of SimfsRenames. -/
import Derived.Test.YtjekfifnhdoamaaSf0
set_option linter.unusedSimpArgs false
set_option linter.unusedVariables false
set_option linter.unnecessarySimpa false
namespace Go.Proofs.Ytjekfifnhdoamaa
open Go.RowKit Go.Rg Go.St

/-- a million bytes of room, no fuse, no failing -/
def qm (F : Nat → Fl) (nf : Nat) (nm ls : Nm) (sn : List Chg) (k : Nat) : FsM := ⟨F, nf, nm, ls, sn, 1048576, k, -1, -1⟩
abbrev nowN : ByteArray := ⟨#[110, 111, 119]⟩
abbrev nextN : ByteArray := ⟨#[110, 101, 120, 116]⟩
theorem ask_quiet {M : FsM} (h1 : M.fuse = -1) (h2 : M.fail = -1) : M.ask = (0, { M with ops := M.ops + 1 }) := by
  obtain ⟨F, nf, nm, ls, sn, q, k, fu, fa⟩ := M
  simp only at h1 h2
  subst h1; subst h2
  rfl
theorem append_quiet {M : FsM} {n : ByteArray} {b : List UInt8} {i : Nat} (h1 : M.fuse = -1) (h2 : M.fail = -1) (hf : fndN M.names n = some i) (hq : b.length + M.total ≤ M.quota) : M.append n b = (0, { M with ops := M.ops + 1, files := updF M.files i ⟨(M.files i).b ++ b, (M.files i).last⟩ }) := by
  unfold FsM.append
  rw [ask_quiet h1 h2]
  have h0 : ¬ ((0 : Int) ≠ 0) := by decide
  have ht : ({ M with ops := M.ops + 1 } : FsM).total = M.total := rfl
  simp only [h0, if_false, hf]
  rw [ht, if_neg (by omega)]
theorem cutF_full (picks : List Int) : ∀ (l : Nm) (i : Nat) (f : Nat → Fl), (∀ p, p ∈ l → (f p.2).last = (f p.2).b.length) → cutF picks l i f = f
  | [], _, _, _ => rfl
  | p :: l, i, f, h => by
    have hp := h p (List.mem_cons_self ..)
    unfold cutF
    have e : pickN picks (i + 1) ((f p.2).b.length - (f p.2).last) = 0 := by
      rw [hp, Nat.sub_self]
      unfold pickN
      exact Nat.mod_one _
    simp only [e, Nat.add_zero]
    have e2 : updF f p.2 ⟨(f p.2).b.take (f p.2).last, (f p.2).last⟩ = f := by
      funext j
      unfold updF
      by_cases hj : j = p.2
      · rw [if_pos hj, hj, hp, List.take_length]
        cases hx : f p.2 with
        | mk b l => rw [hx] at hp; simp only at hp; rw [hp]
      · rw [if_neg hj]
    rw [e2]
    exact cutF_full picks l (i + 1) f fun q hq => h q (List.mem_cons_of_mem _ hq)
def rnF (a : List UInt8) : Nat → Fl := updF (updF (updF (fun _ => default) 0 ⟨[], 0⟩) 0 ⟨a, 0⟩) 0 ⟨a, a.length⟩
def rnG (a b : List UInt8) : Nat → Fl := updF (updF (updF (rnF a) 1 ⟨[], 0⟩) 1 ⟨b, 0⟩) 1 ⟨b, b.length⟩
theorem rn0 : FsM.new 1048576 = qm (fun _ => default) 0 [] [] [] 0 := rfl
theorem rn1 (F : Nat → Fl) : (qm F 0 [] [] [] 0).create nowN = (0, qm (updF F 0 ⟨[], 0⟩) 1 [(nowN, 0)] [] [⟨ByteArray.empty, nowN, 0⟩] 1) := by kernel_rfl
theorem rn2 (a : List UInt8) (ha : a.length ≤ 1000) : (qm (updF (fun _ => default) 0 ⟨[], 0⟩) 1 [(nowN, 0)] [] [⟨ByteArray.empty, nowN, 0⟩] 1).append nowN a = (0, qm (updF (updF (fun _ => default) 0 ⟨[], 0⟩) 0 ⟨a, 0⟩) 1 [(nowN, 0)] [] [⟨ByteArray.empty, nowN, 0⟩] 2) := by
  refine (append_quiet (i := 0) rfl rfl (show fndN [(nowN, 0)] nowN = some 0 by decide +kernel) ?_).trans rfl
  show a.length + 0 ≤ 1048576
  omega
theorem rn3 (a : List UInt8) : (qm (updF (updF (fun _ => default) 0 ⟨[], 0⟩) 0 ⟨a, 0⟩) 1 [(nowN, 0)] [] [⟨ByteArray.empty, nowN, 0⟩] 2).sync nowN = (0, qm (rnF a) 1 [(nowN, 0)] [] [⟨ByteArray.empty, nowN, 0⟩] 3) := by kernel_rfl
theorem rn4 (F : Nat → Fl) (sn : List Chg) : (qm F 1 [(nowN, 0)] [] sn 3).syncDir = (0, qm F 1 [(nowN, 0)] [(nowN, 0)] [] 4) := by kernel_rfl
theorem rn5 (F : Nat → Fl) : (qm F 1 [(nowN, 0)] [(nowN, 0)] [] 4).create nextN = (0, qm (updF F 1 ⟨[], 0⟩) 2 [(nextN, 1), (nowN, 0)] [(nowN, 0)] [⟨ByteArray.empty, nextN, 1⟩] 5) := by kernel_rfl
theorem rn6 (a b : List UInt8) (ha : a.length ≤ 1000) (hb : b.length ≤ 1000) : (qm (updF (rnF a) 1 ⟨[], 0⟩) 2 [(nextN, 1), (nowN, 0)] [(nowN, 0)] [⟨ByteArray.empty, nextN, 1⟩] 5).append nextN b = (0, qm (updF (updF (rnF a) 1 ⟨[], 0⟩) 1 ⟨b, 0⟩) 2 [(nextN, 1), (nowN, 0)] [(nowN, 0)] [⟨ByteArray.empty, nextN, 1⟩] 6) := by
  refine (append_quiet (i := 1) rfl rfl (show fndN [(nextN, 1), (nowN, 0)] nextN = some 1 by decide +kernel) ?_).trans rfl
  show b.length + (0 + (a.length + 0)) ≤ 1048576
  omega
theorem rn7 (a b : List UInt8) : (qm (updF (updF (rnF a) 1 ⟨[], 0⟩) 1 ⟨b, 0⟩) 2 [(nextN, 1), (nowN, 0)] [(nowN, 0)] [⟨ByteArray.empty, nextN, 1⟩] 6).sync nextN = (0, qm (rnG a b) 2 [(nextN, 1), (nowN, 0)] [(nowN, 0)] [⟨ByteArray.empty, nextN, 1⟩] 7) := by kernel_rfl
theorem rn8 (F : Nat → Fl) : (qm F 2 [(nextN, 1), (nowN, 0)] [(nowN, 0)] [⟨ByteArray.empty, nextN, 1⟩] 7).rename nextN nowN = (0, qm F 2 [(nowN, 1)] [(nowN, 0)] [⟨ByteArray.empty, nextN, 1⟩, ⟨nextN, nowN, 1⟩] 8) := by kernel_rfl
theorem rn9 (a b : List UInt8) (picks : List Int) : ∃ x, ((qm (rnG a b) 2 [(nowN, 1)] [(nowN, 0)] [⟨ByteArray.empty, nextN, 1⟩, ⟨nextN, nowN, 1⟩] 8).crash picks).read nowN = (x, 0) ∧ (x = a ∨ x = b) := by
  have f0 : rnG a b 0 = ⟨a, a.length⟩ := rfl
  have f1 : rnG a b 1 = ⟨b, b.length⟩ := rfl
  have hn : pickN picks 0 2 ≤ 2 := by
    unfold pickN
    exact Nat.le_of_lt_succ (Nat.mod_lt _ (by decide))
  have hc : ∀ (l : Nm) (n i : Nat), pickN picks 0 2 = n → applyC [(nowN, 0)] (([⟨ByteArray.empty, nextN, 1⟩, ⟨nextN, nowN, 1⟩] : List Chg).take n) = l → (∀ p, p ∈ l → p.2 = 0 ∨ p.2 = 1) → fndN l nowN = some i →
      ((qm (rnG a b) 2 [(nowN, 1)] [(nowN, 0)] [⟨ByteArray.empty, nextN, 1⟩, ⟨nextN, nowN, 1⟩] 8).crash picks).read nowN = ((rnG a b i).b, 0) := fun l n i h1 h2 h3 h4 => by
    have hl : applyC [(nowN, 0)] (([⟨ByteArray.empty, nextN, 1⟩, ⟨nextN, nowN, 1⟩] : List Chg).take (pickN picks 0 2)) = l := by rw [h1]; exact h2
    have hfull : cutF picks l 0 (rnG a b) = rnG a b := cutF_full picks l 0 _ fun p hp => by
      rcases h3 p hp with e | e <;> rw [e]
      · rw [f0]
      · rw [f1]
    have hm : (qm (rnG a b) 2 [(nowN, 1)] [(nowN, 0)] [⟨ByteArray.empty, nextN, 1⟩, ⟨nextN, nowN, 1⟩] 8).crash picks = ⟨cutF picks l 0 (rnG a b), 2, l, l, [], 1048576, 8, -1, -1⟩ := by
      rw [← hl]
      rfl
    rw [hm, hfull]
    unfold FsM.read
    simp only [h4]
    rfl
  rcases (show pickN picks 0 2 = 0 ∨ pickN picks 0 2 = 1 ∨ pickN picks 0 2 = 2 by omega) with h | h | h
  · exact ⟨a, by rw [hc [(nowN, 0)] 0 0 h (by kernel_rfl) (by simp) (by decide +kernel), f0], .inl rfl⟩
  · exact ⟨a, by rw [hc [(nextN, 1), (nowN, 0)] 1 0 h (by kernel_rfl) (by simp) (by decide +kernel), f0], .inl rfl⟩
  · exact ⟨b, by rw [hc [(nowN, 1)] 2 1 h (by kernel_rfl) (by simp) (by decide +kernel), f1], .inr rfl⟩
end Go.Proofs.Ytjekfifnhdoamaa
