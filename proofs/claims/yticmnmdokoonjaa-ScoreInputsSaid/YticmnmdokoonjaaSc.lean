/- The walks of package score and its reference. -/
import Derived.Test.YticmnmdokoonjaaTy
import Derived.Test.YticmnmdokoonjaaFlt
import Derived.Test.YticmnmdokoonjaaRows
import Derived.WalkSpells
import Derived.WalkLawsBesides
import Derived.Deep.QuietTactic
import Derived.BigQuiet
set_option linter.unusedSimpArgs false
set_option linter.unusedVariables false
set_option linter.unnecessarySimpa false
namespace Go.Proofs.Yticmnmdokoonjaa
open Go.RowKit Go.Rg Go.St

/-- the sum of files' sizes, as ints add -/
def sumTo (xs : List File) : Nat → Int
  | 0 => 0
  | k + 1 => wrap64 (sumTo xs k + (nth xs k).size)

/-- a Version: four slices of files -/
structure Ver (w : World) (v0 v1 v2 v3 : Value) (V : Nat → List File) : Prop where
  s0 : SlFile w v0 (V 0)
  s1 : SlFile w v1 (V 1)
  s2 : SlFile w v2 (V 2)
  s3 : SlFile w v3 (V 3)
def pick4 (v0 v1 v2 v3 : Value) : Nat → Value
  | 0 => v0
  | 1 => v1
  | 2 => v2
  | _ => v3
theorem Ver.at {w : World} {v0 v1 v2 v3 : Value} {V : Nat → List File} (h : Ver w v0 v1 v2 v3 V) {k : Nat} (hk : k < 4) : SlFile w (pick4 v0 v1 v2 v3 k) (V k) := by
  obtain rfl | rfl | rfl | rfl : k = 0 ∨ k = 1 ∨ k = 2 ∨ k = 3 := by omega
  · exact h.s0
  · exact h.s1
  · exact h.s2
  · exact h.s3
theorem Ver.go {w w' : World} {v0 v1 v2 v3 : Value} {V : Nat → List File} (h : Ver w v0 v1 v2 v3 V) (he : Ext w w') : Ver w' v0 v1 v2 v3 V := ⟨h.s0.file he, h.s1.file he, h.s2.file he, h.s3.file he⟩

def SizePost (n : Int) (w : World) (e : Ending) (w' : World) : Prop := e = .returned (.int .i64 n) ∧ Ext w w'

set_option maxHeartbeats 800000 in
theorem size_in (v0 v1 v2 v3 : Value) (V : Nat → List File) (k : Nat) (hk : k < 4) (w : World) (hV : Ver w v0 v1 v2 v3 V) :
    Calls Try.prog 46 #[.agg #[v0, v1, v2, v3], .int .i64 k] w (SizePost (sumTo (V k) (V k).length) w) := by
  have hs := hV.at hk
  clear hV
  generalize V k = xs at *
  obtain rfl | rfl | rfl | rfl : k = 0 ∨ k = 1 ∨ k = 2 ∨ k = 3 := by omega
  all_goals
    simp only [pick4] at hs
    obtain ⟨a, cap, rfl, hcap, hm, hc⟩ := hs.ex
    clear hs
    unfold maxLen at hm
    have hx0 : ∀ o, Ext w (w.alloc o) := fun o => (Ext.rfl w).al o
    go_enter Try.func46, Try.ntmps46
    go_wp2
    go_loopw [5, 19] (fun t i wr => ∃ k : Nat, k ≤ xs.length ∧ i = .int .i64 k ∧ t = .int .i64 (sumTo xs k) ∧ Ext w wr) (fun _ i _ => xs.length - (intOf i).toNat)
    case atStart => exact ⟨0, Nat.zero_le _, rfl, rfl, hx0 _⟩
    case round =>
      obtain ⟨k, hk, rfl, rfl, hb⟩ := hrel
      by_cases hlt : k < xs.length
      · obtain ⟨b, off, rfl, hcell⟩ := hc (by omega)
        obtain ⟨c0, c1, c2, c3, c4, c5, c6, c7, c8⟩ := SlS.at9 (w := wr) (enc := eFile) (xs := xs) (k := k) (fun j hj => ext_cellq hb (hcell k hlt j hj) hj rfl) rfl
        clear hcell hc hx0
        have HB := hid hb
        clear hb
        go_wp2
        go_roundw
        case rel => exact ⟨k + 1, by omega, by go_num, rfl, HB.out.al _⟩
        case measure => simp [intOf]; omega
      · have : k = xs.length := by omega
        subst this
        go_wp2
        go_ret
        exact ⟨rfl, hb⟩

set_option maxHeartbeats 800000 in
theorem rsize_in (v0 v1 v2 v3 : Value) (V : Nat → List File) (k : Nat) (hk : k < 4) (w : World) (hV : Ver w v0 v1 v2 v3 V) :
    Calls Try.prog 47 #[.agg #[v0, v1, v2, v3], .int .i64 k] w (SizePost (sumTo (V k) (V k).length) w) := by
  have hs := hV.at hk
  clear hV
  generalize V k = xs at *
  obtain rfl | rfl | rfl | rfl : k = 0 ∨ k = 1 ∨ k = 2 ∨ k = 3 := by omega
  all_goals
    simp only [pick4] at hs
    obtain ⟨a, cap, rfl, hcap, hm, hc⟩ := hs.ex
    clear hs
    unfold maxLen at hm
    go_enter Try.func47, Try.ntmps47
    go_wp2
    go_loopw [5, 6] (fun t i wr => ∃ k : Nat, k ≤ xs.length ∧ i = .int .i64 k ∧ t = .int .i64 (sumTo xs k) ∧ Ext (w.alloc (.cells #[_, _, _, _] 32)) wr) (fun _ i _ => xs.length - (intOf i).toNat)
    case atStart => exact ⟨0, Nat.zero_le _, rfl, rfl, Ext.rfl _⟩
    case round =>
      obtain ⟨k, hk, rfl, rfl, hb⟩ := hrel
      have q0 := ext_new hb 0 rfl
      have q1 := ext_new hb 1 rfl
      have q2 := ext_new hb 2 rfl
      have q3 := ext_new hb 3 rfl
      by_cases hlt : k < xs.length
      · obtain ⟨b, off, rfl, hcell⟩ := hc (by omega)
        obtain ⟨c0, c1, c2, c3, c4, c5, c6, c7, c8⟩ := SlS.at9 (w := wr) (enc := eFile) (xs := xs) (k := k) (fun j hj => ext_cellq (ext_of_new hb) (hcell k hlt j hj) hj rfl) rfl
        clear hcell hc
        have HB := hid hb
        clear hb
        go_wp2
        go_roundw
        case rel => exact ⟨k + 1, by omega, by go_num, rfl, HB.out⟩
        case measure => simp [intOf]; omega
      · have : k = xs.length := by omega
        subst this
        have HB := hid hb
        clear hb
        go_wp2
        go_ret
        exact ⟨rfl, ext_of_new HB.out⟩

/-! ### orders of floats -/
set_option maxHeartbeats 400000 in
theorem isNaN_any (a : Nat) (w : World) :
    Calls Try.prog 67 #[.float .f64 a] w fun e w' => e = .returned (.bool (fnan a)) ∧ w = w' := by
  go_enter Try.func67, Try.ntmps67
  go_wp2
  go_ret
  exact ⟨rfl, rfl⟩

set_option maxHeartbeats 400000 in
theorem nan_any (a : Nat) (w : World) :
    Calls Try.prog 44 #[.float .f64 a] w fun e w' => e = .returned (.bool (fnan a)) ∧ w = w' := by
  go_enter Try.func44, Try.ntmps44
  go_wp2
  go_ret
  exact ⟨rfl, rfl⟩

def OrdPost (a b : Nat) (w : World) (e : Ending) (w' : World) : Prop := e = .returned (.int .i64 (fOrd a b)) ∧ w = w'

set_option maxHeartbeats 400000 in
theorem cmp_any (a : Nat) (b : Nat) (w : World) :
    Calls Try.prog 43 #[.float .f64 a, .float .f64 b] w (OrdPost a b w) := by
  go_enter Try.func43, Try.ntmps43
  go_wp2_with (go_at_call 67; refine (isNaN_any _ _).mono ?_; rintro e w' ⟨rfl, rfl⟩)
  all_goals (go_ret; refine ⟨?_, rfl⟩; simp_all [fOrd, ford])

set_option maxHeartbeats 400000 in
theorem order_any (a : Nat) (b : Nat) (w : World) :
    Calls Try.prog 16 #[.float .f64 a, .float .f64 b] w (OrdPost a b w) := by
  go_enter Try.func16, Try.ntmps16
  go_wp2_with (go_at_call 43; refine (cmp_any _ _ _).mono ?_; rintro e w' ⟨rfl, rfl⟩)
  all_goals (go_ret; exact ⟨rfl, rfl⟩)

set_option maxHeartbeats 400000 in
theorem rorder_any (a : Nat) (b : Nat) (w : World) :
    Calls Try.prog 17 #[.float .f64 a, .float .f64 b] w (OrdPost a b w) := by
  rcases ha : fnan a with _ | _ <;> rcases hb : fnan b with _ | _
  all_goals
    go_enter Try.func17, Try.ntmps17
    go_wp2_with (go_at_call 44; refine (nan_any _ _).mono ?_; rintro e w' ⟨rfl, rfl⟩)
    all_goals (go_ret; refine ⟨?_, rfl⟩; simp_all [fOrd, ford])

/-! ### what is picked -/
def pk (l : List Nat) : Nat → Int
  | 0 => -1
  | k + 1 => if 0 ≤ fOrd (nth l k) 4607182418800017408 ∧ (pk l k < 0 ∨ 0 < fOrd (nth l k) (nth l (pk l k).toNat)) then k else pk l k

theorem pk_bd (l : List Nat) (k : Nat) : -1 ≤ pk l k ∧ pk l k < k := by
  induction k with
  | zero => simp [pk]
  | succ k ih => simp only [pk]; split <;> omega

def PickPost (l : List Nat) (w : World) (e : Ending) (w' : World) : Prop := e = .returned (.int .i64 (pk l l.length)) ∧ Ext w w'
abbrev SlFloat (w : World) (v : Value) (l : List Nat) : Prop := Sl1 w v l.length (fun i => .float .f64 (nth l i))

set_option maxHeartbeats 400000 in
theorem pick_any (l : List Nat) (v : Value) (w : World) (hv : SlFloat w v l) :
    Calls Try.prog 18 #[v] w (PickPost l w) := by
  obtain ⟨a, cap, rfl, hcap, hm, hc⟩ := hv.ex
  unfold maxLen at hm
  go_enter Try.func18, Try.ntmps18
  go_wp2
  go_loop [3, 8] (fun t i => ∃ k : Nat, k ≤ l.length ∧ i = .int .i64 k ∧ t = .int .i64 (pk l k)) (fun _ i => l.length - (intOf i).toNat)
  case atStart => exact ⟨0, Nat.zero_le _, rfl, rfl⟩
  case round =>
    obtain ⟨k, hk, rfl, rfl⟩ := hrel
    by_cases hlt : k < l.length
    · obtain ⟨b, off, rfl, hcell⟩ := hc (by omega)
      have hck := hcell k hlt
      have hpb := pk_bd l k
      have hcp : 0 ≤ pk l k → w.cell? ⟨b, off + (pk l k).toNat, none⟩ = some (.float .f64 (nth l (pk l k).toNat)) := fun h => hcell _ (by omega)
      have hpk : pk l (k + 1) = if 0 ≤ fOrd (nth l k) 4607182418800017408 ∧ (pk l k < 0 ∨ 0 < fOrd (nth l k) (nth l (pk l k).toNat)) then (k : Int) else pk l k := rfl
      have HP := hid hpk
      clear hpk hv hc hcell
      go_wp2_with (go_at_call 16; refine (order_any _ _ _).mono ?_; rintro e w' ⟨rfl, rfl⟩)
      all_goals
        refine ⟨⟨k + 1, by omega, by go_num, int_val ?_⟩, by simp [intOf]; omega⟩
        rw [HP.out]
        split <;> omega
    · have : k = l.length := by omega
      subst this
      go_wp2
      go_ret
      exact ⟨rfl, Ext.rfl _⟩

theorem rorder_same (a : Nat) (b : Nat) (w : World) :
    Calls Try.prog 17 #[.float .f64 a, .float .f64 b] w fun e w' => e = .returned (.int .i64 (fOrd a b)) ∧ w' = w :=
  (rorder_any a b w).mono fun _ _ h => ⟨h.1, h.2.symm⟩
theorem order_same (a : Nat) (b : Nat) (w : World) :
    Calls Try.prog 16 #[.float .f64 a, .float .f64 b] w fun e w' => e = .returned (.int .i64 (fOrd a b)) ∧ w' = w :=
  (order_any a b w).mono fun _ _ h => ⟨h.1, h.2.symm⟩

set_option maxHeartbeats 400000 in
theorem rpick_any (l : List Nat) (v : Value) (w : World) (hv : SlFloat w v l) :
    Calls Try.prog 19 #[v] w (PickPost l w) := by
  obtain ⟨a, cap, rfl, hcap, hm, hc⟩ := hv.ex
  unfold maxLen at hm
  go_enter Try.func19, Try.ntmps19
  go_wp2
  go_loopw [3, 4] (fun t i wr => ∃ k : Nat, k ≤ l.length ∧ i = .int .i64 k ∧ t = .int .i64 (pk l k) ∧ Ext w wr) (fun _ i _ => l.length - (intOf i).toNat)
  case atStart => exact ⟨0, Nat.zero_le _, rfl, rfl, Ext.rfl _⟩
  case round =>
    obtain ⟨k, hk, rfl, rfl, hb⟩ := hrel
    by_cases hlt : k < l.length
    · obtain ⟨b, off, rfl, hcell⟩ := hc (by omega)
      have hck := ext_cell hb (hcell k hlt)
      have hpb := pk_bd l k
      have hcp : 0 ≤ pk l k → wr.cell? ⟨b, off + (pk l k).toNat, none⟩ = some (.float .f64 (nth l (pk l k).toNat)) := fun h => ext_cell hb (hcell _ (by omega))
      have hpk : pk l (k + 1) = if 0 ≤ fOrd (nth l k) 4607182418800017408 ∧ (pk l k < 0 ∨ 0 < fOrd (nth l k) (nth l (pk l k).toNat)) then (k : Int) else pk l k := rfl
      have HP := hid hpk
      clear hpk hv hc hcell
      rcases Int.lt_or_le (pk l k) 0 with h2 | h2
      have hcp' : True := trivial
      rotate_left
      have hcp2 := hcp h2
      have hb1 : pk l k < (l.length : Int) := by omega
      have hd : decide (pk l k < 0) = false := by simp; omega
      all_goals
        clear hcp
        have HB := hid hb
        clear hb
        go_wp2_with (go_at_call 17; refine (rorder_any _ _ _).mono ?_; rintro e w' ⟨rfl, rfl⟩)
        · go_roundw
          case rel => exact ⟨k + 1, by omega, by go_num, int_val (by rw [HP.out]; split <;> omega), HB.out⟩
          case measure => simp [intOf]; omega
        go_quiet ((go_at_call 17; exact Calls.quiet_of_same (rorder_same _ _ _)))
        go_wp2
        all_goals
          go_roundw
          case rel => exact ⟨k + 1, by omega, by go_num, int_val (by rw [HP.out]; split <;> omega), HB.out.drN _⟩
          case measure => simp [intOf]; omega
    · have : k = l.length := by omega
      subst this
      go_wp2
      go_ret
      exact ⟨rfl, hb⟩

/-! ### how full levels are -/
def OfPost (n : Int) (b : Nat) (w : World) (e : Ending) (w' : World) : Prop := ∃ r, e = .returned (.float .f64 r) ∧ FQ (floatOfInt .f64 n) b r ∧ Ext w w'

set_option maxHeartbeats 400000 in
theorem of_any (n : Int) (b : Nat) (w : World) :
    Calls Try.prog 45 #[.int .i64 n, .float .f64 b] w (OfPost n b w) := by
  go_enter Try.func45, Try.ntmps45
  go_wp2_with ((with_reducible refine wpList_fquo (m := ?_) (n := ?_) ?_ ?_ ?_); rotate_left 2; rfl; rfl; intro r w' hq he)
  go_ret
  exact ⟨_, rfl, hq, he⟩
end Go.Proofs.Yticmnmdokoonjaa
