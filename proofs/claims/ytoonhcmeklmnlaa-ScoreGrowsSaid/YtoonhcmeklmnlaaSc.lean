/- The walks of package score and its reference. -/
import Derived.Test.YtoonhcmeklmnlaaVr0
import Derived.Test.YtoonhcmeklmnlaaFlt
import Derived.Test.YtoonhcmeklmnlaaRows
import Derived.WalkSpells
import Derived.WalkLawsBesides
import Derived.Deep.QuietTactic
import Derived.BigQuiet
set_option linter.unusedSimpArgs false
set_option linter.unusedVariables false
set_option linter.unnecessarySimpa false
namespace Go.Proofs.Ytoonhcmeklmnlaa
open Go.RowKit Go.Rg Go.St

/-! ### orders of floats -/
set_option maxHeartbeats 400000 in
theorem isNaN_any (a : Nat) (w : World) :
    Calls Try.prog 106 #[.float .f64 a] w fun e w' => e = .returned (.bool (fnan a)) ∧ w = w' := by
  go_enter Try.func106, Try.ntmps106
  go_wp2
  go_ret
  exact ⟨rfl, rfl⟩

def OrdPost (a b : Nat) (w : World) (e : Ending) (w' : World) : Prop := e = .returned (.int .i64 (fOrd a b)) ∧ w = w'

set_option maxHeartbeats 400000 in
theorem cmp_any (a : Nat) (b : Nat) (w : World) :
    Calls Try.prog 87 #[.float .f64 a, .float .f64 b] w (OrdPost a b w) := by
  go_enter Try.func87, Try.ntmps87
  go_wp2_with (go_at_call 106; refine (isNaN_any _ _).mono ?_; rintro e w' ⟨rfl, rfl⟩)
  all_goals (go_ret; refine ⟨?_, rfl⟩; simp_all [fOrd, ford])

set_option maxHeartbeats 400000 in
theorem order_any (a : Nat) (b : Nat) (w : World) :
    Calls Try.prog 55 #[.float .f64 a, .float .f64 b] w (OrdPost a b w) := by
  go_enter Try.func55, Try.ntmps55
  go_wp2_with (go_at_call 87; refine (cmp_any _ _ _).mono ?_; rintro e w' ⟨rfl, rfl⟩)
  all_goals (go_ret; exact ⟨rfl, rfl⟩)

/-! ### what is picked -/
def pk (l : List Nat) : Nat → Int
  | 0 => -1
  | k + 1 => if 0 ≤ fOrd (nth l k) 4607182418800017408 ∧ (pk l k < 0 ∨ 0 < fOrd (nth l k) (nth l (pk l k).toNat)) then k else pk l k

theorem pk_bd (l : List Nat) (k : Nat) : -1 ≤ pk l k ∧ pk l k < k := by
  induction k with
  | zero => simp [pk]
  | succ k ih => simp only [pk]; split <;> omega

def PickPost (l : List Nat) (w : World) (e : Ending) (w' : World) : Prop := e = .returned (.int .i64 (pk l l.length)) ∧ Ext w w'
abbrev SlFloat (w : World) (v : Value) (l : List Nat) : Prop := Sl1 w v l.length (fun i => .float .f64 (nth l i))

set_option maxHeartbeats 400000 in
theorem pick_any (l : List Nat) (v : Value) (w : World) (hv : SlFloat w v l) :
    Calls Try.prog 85 #[v] w (PickPost l w) := by
  obtain ⟨a, cap, rfl, hcap, hm, hc⟩ := hv.ex
  unfold maxLen at hm
  go_enter Try.func85, Try.ntmps85
  go_wp2
  go_loop [3, 8] (fun t i => ∃ k : Nat, k ≤ l.length ∧ i = .int .i64 k ∧ t = .int .i64 (pk l k)) (fun _ i => l.length - (intOf i).toNat)
  case atStart => exact ⟨0, Nat.zero_le _, rfl, rfl⟩
  case round =>
    obtain ⟨k, hk, rfl, rfl⟩ := hrel
    by_cases hlt : k < l.length
    · obtain ⟨b, off, rfl, hcell⟩ := hc (by omega)
      have hck := hcell k hlt
      have hpb := pk_bd l k
      have hcp : 0 ≤ pk l k → w.cell? ⟨b, off + (pk l k).toNat, none⟩ = some (.float .f64 (nth l (pk l k).toNat)) := fun h => hcell _ (by omega)
      have hpk : pk l (k + 1) = if 0 ≤ fOrd (nth l k) 4607182418800017408 ∧ (pk l k < 0 ∨ 0 < fOrd (nth l k) (nth l (pk l k).toNat)) then (k : Int) else pk l k := rfl
      have HP := hid hpk
      clear hpk hv hc hcell
      go_wp2_with (go_at_call 55; refine (order_any _ _ _).mono ?_; rintro e w' ⟨rfl, rfl⟩)
      all_goals
        refine ⟨⟨k + 1, by omega, by go_num, int_val ?_⟩, by simp [intOf]; omega⟩
        rw [HP.out]
        split <;> omega
    · have : k = l.length := by omega
      subst this
      go_wp2
      go_ret
      exact ⟨rfl, Ext.rfl _⟩

theorem order_same (a : Nat) (b : Nat) (w : World) :
    Calls Try.prog 55 #[.float .f64 a, .float .f64 b] w fun e w' => e = .returned (.int .i64 (fOrd a b)) ∧ w' = w :=
  (order_any a b w).mono fun _ _ h => ⟨h.1, h.2.symm⟩

/-! ### how full levels are -/
def OfPost (n : Int) (b : Nat) (w : World) (e : Ending) (w' : World) : Prop := ∃ r, e = .returned (.float .f64 r) ∧ FQ (floatOfInt .f64 n) b r ∧ Ext w w'

set_option maxHeartbeats 400000 in
theorem of_any (n : Int) (b : Nat) (w : World) :
    Calls Try.prog 86 #[.int .i64 n, .float .f64 b] w (OfPost n b w) := by
  go_enter Try.func86, Try.ntmps86
  go_wp2_with ((with_reducible refine wpList_fquo (m := ?_) (n := ?_) ?_ ?_ ?_); rotate_left 2; rfl; rfl; intro r w' hq he)
  go_ret
  exact ⟨_, rfl, hq, he⟩
end Go.Proofs.Ytoonhcmeklmnlaa
