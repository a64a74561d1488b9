/- Files that a crash cuts: the plain laws of SimfsLasts. -/
import Derived.Test.YtjekfifnhdoamaaSfR
set_option linter.unusedSimpArgs false
set_option linter.unusedVariables false
set_option linter.unnecessarySimpa false
namespace Go.Proofs.Ytjekfifnhdoamaa
open Go.RowKit Go.Rg Go.St

abbrev laN : ByteArray := ⟨#[97]⟩
abbrev lbN : ByteArray := ⟨#[98]⟩
abbrev lcN : ByteArray := ⟨#[99]⟩
def laF (a : List UInt8) : Nat → Fl := updF (updF (updF (fun _ => default) 0 ⟨[], 0⟩) 0 ⟨a, 0⟩) 0 ⟨a, a.length⟩
def laG (a b : List UInt8) : Nat → Fl := updF (laF a) 0 ⟨a ++ b, a.length⟩
def laH (a b : List UInt8) : Nat → Fl := updF (laG a b) 1 ⟨[], 0⟩
theorem la1 (F : Nat → Fl) : (qm F 0 [] [] [] 0).create laN = (0, qm (updF F 0 ⟨[], 0⟩) 1 [(laN, 0)] [] [⟨ByteArray.empty, laN, 0⟩] 1) := by kernel_rfl
theorem la2 (a : List UInt8) (ha : a.length ≤ 1000) : (qm (updF (fun _ => default) 0 ⟨[], 0⟩) 1 [(laN, 0)] [] [⟨ByteArray.empty, laN, 0⟩] 1).append laN a = (0, qm (updF (updF (fun _ => default) 0 ⟨[], 0⟩) 0 ⟨a, 0⟩) 1 [(laN, 0)] [] [⟨ByteArray.empty, laN, 0⟩] 2) := by
  refine (append_quiet (i := 0) rfl rfl (show fndN [(laN, 0)] laN = some 0 by decide +kernel) ?_).trans rfl
  show a.length + 0 ≤ 1048576
  omega
theorem la3 (a : List UInt8) : (qm (updF (updF (fun _ => default) 0 ⟨[], 0⟩) 0 ⟨a, 0⟩) 1 [(laN, 0)] [] [⟨ByteArray.empty, laN, 0⟩] 2).sync laN = (0, qm (laF a) 1 [(laN, 0)] [] [⟨ByteArray.empty, laN, 0⟩] 3) := by kernel_rfl
theorem la4 (F : Nat → Fl) (sn : List Chg) : (qm F 1 [(laN, 0)] [] sn 3).syncDir = (0, qm F 1 [(laN, 0)] [(laN, 0)] [] 4) := by kernel_rfl
theorem la5 (a b : List UInt8) (ha : a.length ≤ 1000) (hb : b.length ≤ 1000) : (qm (laF a) 1 [(laN, 0)] [(laN, 0)] [] 4).append laN b = (0, qm (laG a b) 1 [(laN, 0)] [(laN, 0)] [] 5) := by
  refine (append_quiet (i := 0) rfl rfl (show fndN [(laN, 0)] laN = some 0 by decide +kernel) ?_).trans rfl
  show b.length + (a.length + 0) ≤ 1048576
  omega
theorem la6 (F : Nat → Fl) : (qm F 1 [(laN, 0)] [(laN, 0)] [] 5).create lbN = (0, qm (updF F 1 ⟨[], 0⟩) 2 [(laN, 0), (lbN, 1)] [(laN, 0)] [⟨ByteArray.empty, lbN, 1⟩] 6) := by kernel_rfl
theorem la7 (F : Nat → Fl) : (qm F 2 [(laN, 0), (lbN, 1)] [(laN, 0)] [⟨ByteArray.empty, lbN, 1⟩] 6).rename laN lcN = (0, qm F 2 [(lbN, 1), (lcN, 0)] [(laN, 0)] [⟨ByteArray.empty, lbN, 1⟩, ⟨laN, lcN, 0⟩] 7) := by kernel_rfl
def laM (a b : List UInt8) : FsM := qm (laH a b) 2 [(lbN, 1), (lcN, 0)] [(laN, 0)] [⟨ByteArray.empty, lbN, 1⟩, ⟨laN, lcN, 0⟩] 7
theorem cutF_cons (picks : List Int) (p : ByteArray × Nat) (l : Nm) (i : Nat) (f : Nat → Fl) : cutF picks (p :: l) i f = cutF picks l (i + 1) (updF f p.2 ⟨(f p.2).b.take ((f p.2).last + pickN picks (i + 1) ((f p.2).b.length - (f p.2).last)), (f p.2).last + pickN picks (i + 1) ((f p.2).b.length - (f p.2).last)⟩) := rfl
/-- a cut file's bytes: a beginning, all of it that lasts -/
theorem cutF_cut (picks : List Int) : ∀ (l : Nm) (i : Nat) (f : Nat → Fl), (∀ j, (f j).last ≤ (f j).b.length) → ∀ j, ∃ n, (f j).last ≤ n ∧ n ≤ (f j).b.length ∧ (cutF picks l i f j).b = (f j).b.take n ∧ (f j).last ≤ (cutF picks l i f j).last ∧ (cutF picks l i f j).last ≤ (cutF picks l i f j).b.length
  | [], _, f, h, j => ⟨(f j).b.length, h j, Nat.le_refl _, (List.take_length).symm, Nat.le_refl _, h j⟩
  | p :: l, i, f, h, j => by
    rw [cutF_cons]
    have hx := pickN_le picks (i + 1) ((f p.2).b.length - (f p.2).last)
    have h0 := h p.2
    generalize pickN picks (i + 1) ((f p.2).b.length - (f p.2).last) = d at *
    have hl : ((f p.2).b.take ((f p.2).last + d)).length = (f p.2).last + d := by rw [List.length_take]; omega
    obtain ⟨n, h1, h2, h3, h4, h5⟩ := cutF_cut picks l (i + 1) (updF f p.2 ⟨(f p.2).b.take ((f p.2).last + d), (f p.2).last + d⟩) (fun j => by
      by_cases e : j = p.2
      · subst e
        rw [updF_same]
        simp only [hl]
        omega
      · rw [updF_other _ _ e]
        exact h j) j
    by_cases e : j = p.2
    · subst e
      rw [updF_same] at h1 h2 h3 h4
      simp only [hl] at h1 h2 h3 h4
      have hn : n = (f p.2).last + d := by omega
      subst hn
      refine ⟨(f p.2).last + d, by omega, by omega, ?_, by omega, h5⟩
      rw [h3, List.take_take, Nat.min_self]
    · rw [updF_other _ _ e] at h1 h2 h3 h4
      exact ⟨n, h1, h2, h3, h4, h5⟩
/-- a file once cut lasts whole -/
theorem cutF_done (picks : List Int) : ∀ (l : Nm) (i : Nat) (f : Nat → Fl) (j : Nat), (f j).last = (f j).b.length → (cutF picks l i f j) = f j
  | [], _, f, j, h => rfl
  | p :: l, i, f, j, h => by
    rw [cutF_cons]
    have e2 : updF f p.2 ⟨(f p.2).b.take ((f p.2).last + pickN picks (i + 1) ((f p.2).b.length - (f p.2).last)), (f p.2).last + pickN picks (i + 1) ((f p.2).b.length - (f p.2).last)⟩ j = f j := by
      by_cases e : j = p.2
      · subst e
        rw [updF_same]
        have e0 : pickN picks (i + 1) ((f p.2).b.length - (f p.2).last) = 0 := by
          rw [h, Nat.sub_self]
          unfold pickN
          exact Nat.mod_one _
        rw [e0, Nat.add_zero, h, List.take_length]
        cases hx : f p.2 with
        | mk b l => rw [hx] at h; simp only at h; rw [h]
      · rw [updF_other _ _ e]
    exact (cutF_done picks l (i + 1) _ j ((congrArg Fl.last e2).trans (h.trans (congrArg (fun x => x.b.length) e2).symm))).trans e2
theorem cutF_last (picks : List Int) : ∀ (l : Nm) (i : Nat) (f : Nat → Fl), (∀ j, (f j).last ≤ (f j).b.length) → ∀ p, p ∈ l → (cutF picks l i f p.2).last = (cutF picks l i f p.2).b.length
  | [], _, f, h, p, hp => by cases hp
  | q :: l, i, f, h, p, hp => by
    rw [cutF_cons]
    have hx := pickN_le picks (i + 1) ((f q.2).b.length - (f q.2).last)
    have h0 := h q.2
    generalize pickN picks (i + 1) ((f q.2).b.length - (f q.2).last) = d at *
    have hl : ((f q.2).b.take ((f q.2).last + d)).length = (f q.2).last + d := by rw [List.length_take]; omega
    rcases List.mem_cons.1 hp with rfl | hp
    · have e := cutF_done picks l (i + 1) (updF f p.2 ⟨(f p.2).b.take ((f p.2).last + d), (f p.2).last + d⟩) p.2 (by rw [updF_same]; simp only [hl])
      simp only [e, updF_same, hl]
    · refine cutF_last picks l (i + 1) _ (fun j => ?_) p hp
      by_cases e : j = q.2
      · subst e
        rw [updF_same]
        simp only [hl]
        omega
      · rw [updF_other _ _ e]
        exact h j
/-- a second crash at once changes nothing -/
theorem crash_crash {M : FsM} (h : M.Ok) (p q : List Int) : ((M.crash p).crash q) = M.crash p := by
  have hl : ∀ j, (M.files j).last ≤ (M.files j).b.length := fun j => (h.fl j).1
  unfold FsM.crash
  simp only [List.length_nil, List.take_nil]
  have e : applyC (applyC M.lasts (M.since.take (pickN p 0 M.since.length))) [] = applyC M.lasts (M.since.take (pickN p 0 M.since.length)) := rfl
  rw [e]
  generalize applyC M.lasts (M.since.take (pickN p 0 M.since.length)) = l
  have e2 : cutF q l 0 (cutF p l 0 M.files) = cutF p l 0 M.files := cutF_full q l 0 _ fun r hr => cutF_last p l 0 _ hl r hr
  rw [e2]
theorem crash_fuse (M : FsM) (p : List Int) : (M.crash p).fuse = -1 := rfl
/-- what is read behind the crash: by the old name, or by the new one -/
theorem la8 (a b : List UInt8) (picks : List Int) : ∃ n, a.length ≤ n ∧ n ≤ (a ++ b).length ∧ (((laM a b).crash picks).read laN = ((a ++ b).take n, 0) ∨ (((laM a b).crash picks).read laN = ([], 42) ∧ ((laM a b).crash picks).read lcN = ((a ++ b).take n, 0))) := by
  have hf : ∀ j, (laH a b j).last ≤ (laH a b j).b.length := fun j => by
    by_cases h1 : j = 1
    · subst h1; exact Nat.le_refl _
    · by_cases h0 : j = 0
      · subst h0
        show a.length ≤ (a ++ b).length
        rw [List.length_append]; omega
      · have e : laH a b j = default := by
          unfold laH laG laF
          simp only [updF_other _ _ h1, updF_other _ _ h0]
        rw [e]; exact Nat.le_refl _
  have hn : pickN picks 0 2 ≤ 2 := by
    unfold pickN
    exact Nat.le_of_lt_succ (Nat.mod_lt _ (by decide))
  have key : ∀ (l : Nm) (n : Nat), pickN picks 0 2 = n → applyC [(laN, 0)] (([⟨ByteArray.empty, lbN, 1⟩, ⟨laN, lcN, 0⟩] : List Chg).take n) = l →
      (laM a b).crash picks = ⟨cutF picks l 0 (laH a b), 2, l, l, [], 1048576, 7, -1, -1⟩ := fun l n h1 h2 => by
    have hl : applyC [(laN, 0)] (([⟨ByteArray.empty, lbN, 1⟩, ⟨laN, lcN, 0⟩] : List Chg).take (pickN picks 0 2)) = l := by rw [h1]; exact h2
    rw [← hl]
    rfl
  have rd : ∀ (l : Nm) (nm : ByteArray), fndN l nm = some 0 → ∃ n, a.length ≤ n ∧ n ≤ (a ++ b).length ∧ (⟨cutF picks l 0 (laH a b), 2, l, l, [], 1048576, 7, -1, -1⟩ : FsM).read nm = ((a ++ b).take n, 0) := fun l nm h => by
    obtain ⟨n, h1, h2, h3, _⟩ := cutF_cut picks l 0 (laH a b) hf 0
    refine ⟨n, h1, h2, ?_⟩
    unfold FsM.read
    simp only [h]
    rw [h3]
    rfl
  rcases (show pickN picks 0 2 = 0 ∨ pickN picks 0 2 = 1 ∨ pickN picks 0 2 = 2 by omega) with h | h | h
  · have e := key [(laN, 0)] 0 h (by kernel_rfl)
    obtain ⟨n, h1, h2, h3⟩ := rd [(laN, 0)] laN (by decide +kernel)
    rw [e]
    exact ⟨n, h1, h2, .inl h3⟩
  · have e := key [(laN, 0), (lbN, 1)] 1 h (by kernel_rfl)
    obtain ⟨n, h1, h2, h3⟩ := rd [(laN, 0), (lbN, 1)] laN (by decide +kernel)
    rw [e]
    exact ⟨n, h1, h2, .inl h3⟩
  · have e := key [(lbN, 1), (lcN, 0)] 2 h (by kernel_rfl)
    obtain ⟨n, h1, h2, h3⟩ := rd [(lbN, 1), (lcN, 0)] lcN (by decide +kernel)
    rw [e]
    refine ⟨n, h1, h2, .inr ⟨?_, h3⟩⟩
    unfold FsM.read
    rw [show fndN [(lbN, 1), (lcN, 0)] laN = none by decide +kernel]
    rfl
end Go.Proofs.Ytjekfifnhdoamaa
