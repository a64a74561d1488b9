/- The walks of a table's Add, where it refuses. -/
import Derived.Test.YtoonhcmeklmnlaaMt9
set_option linter.unusedSimpArgs false
set_option linter.unusedVariables false
set_option linter.unnecessarySimpa false
namespace Go.Proofs.Ytoonhcmeklmnlaa
open Go.RowKit Go.Rg Go.St

set_option maxRecDepth 100000 in
set_option maxHeartbeats 1000000 in
theorem add_frozen {w : World} {T : TLoc} {M : MT} (h : TRep w T M) (hf : M.frozen = true) (k : IKey) (v : ByteArray) :
    Calls Try.prog 26 #[.pointer (some ⟨T.tb, 0, none⟩), aKey k, .string v] w (IntExt 80 w) := by
  have c4 : w.cell? ⟨T.tb, 4, none⟩ = some (.bool true) := by rw [cell_of_row _ _ _ _ _ _ h.tb, ← hf]; rfl
  have hlt := cell_lt c4
  clear h hf
  go_enter Try.func26, Try.ntmps26
  go_wp2
  go_ret
  exact ⟨rfl, (Ext.rfl w).al _⟩
set_option maxRecDepth 100000 in
set_option maxHeartbeats 1000000 in
theorem add_chk {w : World} {T : TLoc} {M : MT} (h : TRep w T M) (hf : M.frozen = false) (k : IKey) (hu : k.user.size ≤ 9223372036854775807) (hc : kChk k ≠ 0) (v : ByteArray) :
    Calls Try.prog 26 #[.pointer (some ⟨T.tb, 0, none⟩), aKey k, .string v] w (IntExt (kChk k) w) := by
  have c4 : w.cell? ⟨T.tb, 4, none⟩ = some (.bool false) := by rw [cell_of_row _ _ _ _ _ _ h.tb, ← hf]; rfl
  have hlt := cell_lt c4
  have HC := hid hc
  have HK := fun (w : World) => ikey_chk k hu w
  have HKK := hid HK
  clear h hf hc HK
  go_enter Try.func26, Try.ntmps26
  go_wp2_with fail
  refine (HKK.out _).mono ?_
  rintro e w1 ⟨rfl, he1⟩
  have E1 := hid (((Ext.rfl w).al _).tr he1)
  have hq : (kChk k != 0) = true := by simpa using HC.out
  clear he1
  generalize kChk k = q at *
  go_wp2
  go_ret
  exact ⟨rfl, E1.out⟩
set_option maxRecDepth 100000 in
set_option maxHeartbeats 1000000 in
theorem add_val {w : World} {T : TLoc} {M : MT} (h : TRep w T M) (hf : M.frozen = false) (k : IKey) (hu : k.user.size ≤ 9223372036854775807) (hc : kChk k = 0) (v : ByteArray) (hv : v.size ≤ 9223372036854775807) (hbad : 1000 < v.size ∨ (¬ 1000 < v.size ∧ k.kind = 0 ∧ v.toList ≠ [])) :
    Calls Try.prog 26 #[.pointer (some ⟨T.tb, 0, none⟩), aKey k, .string v] w (IntExt 31 w) := by
  have c4 : w.cell? ⟨T.tb, 4, none⟩ = some (.bool false) := by rw [cell_of_row _ _ _ _ _ _ h.tb, ← hf]; rfl
  have hlt := cell_lt c4
  have HKK := hid (fun (w : World) => ikey_chk k hu w)
  have HC := hid hc
  clear h hf hc
  rcases hbad with hb | ⟨hb, hk0, hne⟩
  · have hd : decide ((1000 : Int) < (v.size : Int)) = true := by simp; omega
    clear hb
    go_enter Try.func26, Try.ntmps26
    go_wp2_with fail
    refine (HKK.out _).mono ?_
    rintro e w1 ⟨rfl, he1⟩
    rw [HC.out]
    have E1 := hid (((Ext.rfl w).al _).tr he1)
    clear he1
    go_wp2
    go_ret
    exact ⟨rfl, E1.out⟩
  · have hd : decide ((1000 : Int) < (v.size : Int)) = false := by simp; omega
    have hk1 : (k.kind == 0) = true := by rw [hk0]; rfl
    have hn1 : (v.toList == []) = false := by simpa using hne
    have hn2 : v.toList.isEmpty = false := by cases h : v.toList with | nil => exact absurd h hne | cons a b => rfl
    clear hb hk0
    go_enter Try.func26, Try.ntmps26
    go_wp2_with fail
    refine (HKK.out _).mono ?_
    rintro e w1 ⟨rfl, he1⟩
    rw [HC.out]
    have E1 := hid (((Ext.rfl w).al _).tr he1)
    have b2 := ext_new he1 2 rfl
    clear he1
    go_wp2
    go_ret
    exact ⟨rfl, E1.out⟩
end Go.Proofs.Ytoonhcmeklmnlaa
