/- The walk of ikey.Check, and of a table's beginning. -/
import Derived.Test.YtoonhcmeklmnlaaMt5
import Derived.Test.YtoonhcmeklmnlaaMt4
import Derived.Test.YtoonhcmeklmnlaaMtP
set_option linter.unusedSimpArgs false
set_option linter.unusedVariables false
set_option linter.unnecessarySimpa false
namespace Go.Proofs.Ytoonhcmeklmnlaa
open Go.RowKit Go.Rg Go.St

def kChk (k : IKey) : Int := if 64 < k.user.size then 21 else if 72057594037927935 < k.seq then 22 else if k.kind = 0 ∨ k.kind = 1 then 0 else 23
def IntExt (n : Int) (w : World) (e : Ending) (w' : World) : Prop := e = .returned (.int .i64 n) ∧ Ext w w'

theorem err_at0 (w : World) : (Instr.index 160 (.agg #[.int .i64 0, .int .i64 23, .int .i64 22, .int .i64 21]) (.int .i64 0)).run Try.prog w = .ok (.int .i64 0) w := by kernel_rfl
theorem err_at1 (w : World) : (Instr.index 160 (.agg #[.int .i64 0, .int .i64 23, .int .i64 22, .int .i64 21]) (.int .i64 1)).run Try.prog w = .ok (.int .i64 23) w := by kernel_rfl
theorem err_at2 (w : World) : (Instr.index 160 (.agg #[.int .i64 0, .int .i64 23, .int .i64 22, .int .i64 21]) (.int .i64 2)).run Try.prog w = .ok (.int .i64 22) w := by kernel_rfl
theorem err_at3 (w : World) : (Instr.index 160 (.agg #[.int .i64 0, .int .i64 23, .int .i64 22, .int .i64 21]) (.int .i64 3)).run Try.prog w = .ok (.int .i64 21) w := by kernel_rfl

set_option maxRecDepth 100000 in
set_option maxHeartbeats 1000000 in
theorem ikey_chk (k : IKey) (hu : k.user.size ≤ 9223372036854775807) (w : World) : Calls Try.prog 67 #[aKey k] w (IntExt (kChk k) w) := by
  obtain ⟨u, s, n⟩ := k
  unfold kChk
  simp only at hu ⊢
  have i0 := err_at0
  have i1 := err_at1
  have i2 := err_at2
  have i3 := err_at3
  have hcase : (64 < u.size) ∨ (¬ 64 < u.size ∧ 72057594037927935 < s) ∨ (¬ 64 < u.size ∧ ¬ 72057594037927935 < s ∧ n = 0) ∨ (¬ 64 < u.size ∧ ¬ 72057594037927935 < s ∧ n = 1) ∨ (¬ 64 < u.size ∧ ¬ 72057594037927935 < s ∧ n ≠ 0 ∧ n ≠ 1) := by omega
  rcases hcase with h1 | ⟨h1, h2⟩ | ⟨h1, h2, rfl⟩ | ⟨h1, h2, rfl⟩ | ⟨h1, h2, h3, h4⟩
  · rw [if_pos h1]
    have h1' : decide ((64 : Int) < (u.size : Int)) = true := by simp; omega
    clear h1
    go_enter Try.func67, Try.ntmps67
    go_wp2
    go_ret
    exact ⟨rfl, (Ext.rfl w).al _⟩
  · rw [if_neg h1, if_pos h2]
    have h1' : decide ((64 : Int) < (u.size : Int)) = false := by simp; omega
    have h2' : decide ((72057594037927935 : Int) < s) = true := by simp; omega
    clear h1 h2
    go_enter Try.func67, Try.ntmps67
    go_wp2
    go_ret
    exact ⟨rfl, (Ext.rfl w).al _⟩
  · rw [if_neg h1, if_neg h2, if_pos (show (0 : Int) = 0 ∨ (0 : Int) = 1 from .inl rfl)]
    have h1' : decide ((64 : Int) < (u.size : Int)) = false := by simp; omega
    have h2' : decide ((72057594037927935 : Int) < s) = false := by simp; omega
    clear h1 h2
    go_enter Try.func67, Try.ntmps67
    go_wp2
    go_ret
    exact ⟨rfl, (Ext.rfl w).al _⟩
  · rw [if_neg h1, if_neg h2, if_pos (show (1 : Int) = 0 ∨ (1 : Int) = 1 from .inr rfl)]
    have h1' : decide ((64 : Int) < (u.size : Int)) = false := by simp; omega
    have h2' : decide ((72057594037927935 : Int) < s) = false := by simp; omega
    clear h1 h2
    go_enter Try.func67, Try.ntmps67
    go_wp2
    go_ret
    exact ⟨rfl, (Ext.rfl w).al _⟩
  · rw [if_neg h1, if_neg h2, if_neg (by omega)]
    have h1' : decide ((64 : Int) < (u.size : Int)) = false := by simp; omega
    have h2' : decide ((72057594037927935 : Int) < s) = false := by simp; omega
    have h3' : (n != 0) = true := by simpa using h3
    have h4' : (n != 1) = true := by simpa using h4
    have h5' : ¬ n = 0 := h3
    have h6' : ¬ n = 1 := h4
    clear h1 h2 h3 h4
    go_enter Try.func67, Try.ntmps67
    go_wp2
    go_ret
    exact ⟨rfl, (Ext.rfl w).al _⟩
end Go.Proofs.Ytoonhcmeklmnlaa
