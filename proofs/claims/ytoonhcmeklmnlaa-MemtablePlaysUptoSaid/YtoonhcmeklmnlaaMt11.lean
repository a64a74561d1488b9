/- The walk of a table's Add of a key that is there. -/
import Derived.Test.YtoonhcmeklmnlaaMt10
set_option linter.unusedSimpArgs false
set_option linter.unusedVariables false
set_option linter.unnecessarySimpa false
namespace Go.Proofs.Ytoonhcmeklmnlaa
open Go.RowKit Go.Rg Go.St

theorem look_vals_ok {w : World} {T : TLoc} {M : MT} (h : MapB w T.vb aKey (vmap M)) (k : IKey) : (Instr.lookup 119 (.map (some T.vb)) (aKey k) true).run Try.prog w = .ok (.tuple #[(lk1 (vmap M) k).getD (.string ByteArray.empty), .bool (lk1 (vmap M) k).isSome]) w := by
  obtain ⟨i, hi, hz⟩ := strZ
  have := run_lookupB (w := w) vmapT keyF_ikey h k hi hz true
  simpa using this
theorem vmap_there {M : MT} {k : IKey} (h : ∃ e, e ∈ M.es ∧ e.1 = k) : (lk1 (vmap M) k).isSome = true := by
  unfold lk1
  cases hf : fnd (vmap M) k with
  | none =>
    obtain ⟨e, he, rfl⟩ := h
    exact absurd rfl (fnd_none hf (e.1, .string e.2) (List.mem_map.2 ⟨e, he, rfl⟩))
  | some p => rfl
theorem vmap_absent {M : MT} {k : IKey} (h : ∀ e, e ∈ M.es → e.1 ≠ k) : fnd (vmap M) k = none := fnd_absent fun p hp => by
  obtain ⟨e, he, rfl⟩ := List.mem_map.1 hp
  exact h e he
theorem vmap_str {M : MT} (k : IKey) : ∃ s, (lk1 (vmap M) k).getD (.string ByteArray.empty) = .string s := by
  unfold lk1
  cases hf : fnd (vmap M) k with
  | none => exact ⟨_, rfl⟩
  | some p =>
    obtain ⟨q, hq, _, e⟩ := fnd_some (i := p.1) (v := p.2) hf
    obtain ⟨x, _, rfl⟩ := List.mem_map.1 hq
    exact ⟨x.2, by simp [← e]⟩
/-- a value that may be -/
structure GoodV (k : IKey) (v : ByteArray) : Prop where
  le : v.size ≤ 1000
  del : k.kind = 0 → v.toList = []

set_option maxRecDepth 100000 in
set_option maxHeartbeats 2000000 in
theorem add_same {w : World} {T : TLoc} {M : MT} (h : TRep w T M) (hf : M.frozen = false) (k : IKey) (hu : k.user.size ≤ 9223372036854775807) (hc : kChk k = 0) (v : ByteArray) (hv : GoodV k v) (hin : ∃ e, e ∈ M.es ∧ e.1 = k) :
    Calls Try.prog 26 #[.pointer (some ⟨T.tb, 0, none⟩), aKey k, .string v] w (IntExt 81 w) := by
  have c4 : w.cell? ⟨T.tb, 4, none⟩ = some (.bool false) := by rw [cell_of_row _ _ _ _ _ _ h.tb, ← hf]; rfl
  have c2 : w.cell? ⟨T.tb, 2, none⟩ = some (.map (some T.vb)) := cell_of_row _ _ _ _ _ _ h.tb
  have hlt := cell_lt c4
  have HKK := hid (fun (w : World) => ikey_chk k hu w)
  have HC := hid hc
  have H := hid h
  have hd : decide ((1000 : Int) < (v.size : Int)) = false := by have := hv.le; simp; omega
  have HT := hid (vmap_there hin)
  clear h hf hc hin
  by_cases hk0 : k.kind = 0
  · have hk1 : (k.kind == 0) = true := by rw [hk0]; rfl
    have hv0 := hv.del hk0
    have hn2 : v.toList.isEmpty = true := by rw [hv0]; rfl
    clear hk0 hv
    go_enter Try.func26, Try.ntmps26
    go_wp2_with fail
    refine (HKK.out _).mono ?_
    rintro e w1 ⟨rfl, he1⟩
    rw [HC.out]
    have E1 := hid (((Ext.rfl w).al _).tr he1)
    have b0 := ext_new he1 0 rfl
    have b1 := ext_new he1 1 rfl
    have b2 := ext_new he1 2 rfl
    have d2 := ext_cell E1.out c2
    have hq := fun n => look_vals_ok (w := w1.drewN n) (T := T) (M := M) ((H.out.ext E1.out).vm) k
    rw [HT.out] at hq
    obtain ⟨s0, hs0⟩ := vmap_str (M := M) k
    rw [hs0] at hq
    clear he1 hs0
    go_wp2_with fail
    go_quiet (fail)
    go_wp2
    go_ret
    exact ⟨rfl, E1.out.drN _⟩
  · have hk1 : (k.kind == 0) = false := by rw [beq_eq_false_iff_ne]; exact hk0
    clear hk0 hv
    go_enter Try.func26, Try.ntmps26
    go_wp2_with fail
    refine (HKK.out _).mono ?_
    rintro e w1 ⟨rfl, he1⟩
    rw [HC.out]
    have E1 := hid (((Ext.rfl w).al _).tr he1)
    have b0 := ext_new he1 0 rfl
    have b1 := ext_new he1 1 rfl
    have b2 := ext_new he1 2 rfl
    have d2 := ext_cell E1.out c2
    have hq := fun n => look_vals_ok (w := w1.drewN n) (T := T) (M := M) ((H.out.ext E1.out).vm) k
    rw [HT.out] at hq
    obtain ⟨s0, hs0⟩ := vmap_str (M := M) k
    rw [hs0] at hq
    clear he1 hs0
    go_wp2_with fail
    go_quiet (fail)
    go_wp2
    go_ret
    exact ⟨rfl, E1.out.drN _⟩
end Go.Proofs.Ytoonhcmeklmnlaa
