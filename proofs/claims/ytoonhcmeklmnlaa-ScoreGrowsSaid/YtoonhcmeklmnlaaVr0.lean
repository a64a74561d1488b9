/- Versions in memory, and their sizes. -/
import Derived.Test.YtoonhcmeklmnlaaTy
import Derived.Test.YtoonhcmeklmnlaaRows
import Derived.WalkSpells
import Derived.WalkLawsBesides
import Derived.Deep.QuietTactic
import Derived.BigQuiet
set_option linter.unusedSimpArgs false
set_option linter.unusedVariables false
set_option linter.unnecessarySimpa false
namespace Go.Proofs.Ytoonhcmeklmnlaa
open Go.RowKit Go.Rg Go.St

/-- the sum of files' sizes, as ints add -/
def sumTo (xs : List File) : Nat → Int
  | 0 => 0
  | k + 1 => wrap64 (sumTo xs k + (nth xs k).size)

/-- a Version: four slices of files -/
structure Ver (w : World) (v0 v1 v2 v3 : Value) (V : Nat → List File) : Prop where
  s0 : SlFile w v0 (V 0)
  s1 : SlFile w v1 (V 1)
  s2 : SlFile w v2 (V 2)
  s3 : SlFile w v3 (V 3)
def pick4 (v0 v1 v2 v3 : Value) : Nat → Value
  | 0 => v0
  | 1 => v1
  | 2 => v2
  | _ => v3
theorem Ver.at {w : World} {v0 v1 v2 v3 : Value} {V : Nat → List File} (h : Ver w v0 v1 v2 v3 V) {k : Nat} (hk : k < 4) : SlFile w (pick4 v0 v1 v2 v3 k) (V k) := by
  obtain rfl | rfl | rfl | rfl : k = 0 ∨ k = 1 ∨ k = 2 ∨ k = 3 := by omega
  · exact h.s0
  · exact h.s1
  · exact h.s2
  · exact h.s3
theorem Ver.go {w w' : World} {v0 v1 v2 v3 : Value} {V : Nat → List File} (h : Ver w v0 v1 v2 v3 V) (he : Ext w w') : Ver w' v0 v1 v2 v3 V := ⟨h.s0.file he, h.s1.file he, h.s2.file he, h.s3.file he⟩

def SizePost (n : Int) (w : World) (e : Ending) (w' : World) : Prop := e = .returned (.int .i64 n) ∧ Ext w w'

set_option maxHeartbeats 800000 in
theorem size_in (v0 v1 v2 v3 : Value) (V : Nat → List File) (k : Nat) (hk : k < 4) (w : World) (hV : Ver w v0 v1 v2 v3 V) :
    Calls Try.prog 51 #[.agg #[v0, v1, v2, v3], .int .i64 k] w (SizePost (sumTo (V k) (V k).length) w) := by
  have hs := hV.at hk
  clear hV
  generalize V k = xs at *
  obtain rfl | rfl | rfl | rfl : k = 0 ∨ k = 1 ∨ k = 2 ∨ k = 3 := by omega
  all_goals
    simp only [pick4] at hs
    obtain ⟨a, cap, rfl, hcap, hm, hc⟩ := hs.ex
    clear hs
    unfold maxLen at hm
    have hx0 : ∀ o, Ext w (w.alloc o) := fun o => (Ext.rfl w).al o
    go_enter Try.func51, Try.ntmps51
    go_wp2
    go_loopw [5, 19] (fun t i wr => ∃ k : Nat, k ≤ xs.length ∧ i = .int .i64 k ∧ t = .int .i64 (sumTo xs k) ∧ Ext w wr) (fun _ i _ => xs.length - (intOf i).toNat)
    case atStart => exact ⟨0, Nat.zero_le _, rfl, rfl, hx0 _⟩
    case round =>
      obtain ⟨k, hk, rfl, rfl, hb⟩ := hrel
      by_cases hlt : k < xs.length
      · obtain ⟨b, off, rfl, hcell⟩ := hc (by omega)
        obtain ⟨c0, c1, c2, c3, c4, c5, c6, c7, c8⟩ := SlS.at9 (w := wr) (enc := eFile) (xs := xs) (k := k) (fun j hj => ext_cellq hb (hcell k hlt j hj) hj rfl) rfl
        clear hcell hc hx0
        have HB := hid hb
        clear hb
        go_wp2
        go_roundw
        case rel => exact ⟨k + 1, by omega, by go_num, rfl, HB.out.al _⟩
        case measure => simp [intOf]; omega
      · have : k = xs.length := by omega
        subst this
        go_wp2
        go_ret
        exact ⟨rfl, hb⟩

set_option maxHeartbeats 800000 in
theorem rsize_in (v0 v1 v2 v3 : Value) (V : Nat → List File) (k : Nat) (hk : k < 4) (w : World) (hV : Ver w v0 v1 v2 v3 V) :
    Calls Try.prog 52 #[.agg #[v0, v1, v2, v3], .int .i64 k] w (SizePost (sumTo (V k) (V k).length) w) := by
  have hs := hV.at hk
  clear hV
  generalize V k = xs at *
  obtain rfl | rfl | rfl | rfl : k = 0 ∨ k = 1 ∨ k = 2 ∨ k = 3 := by omega
  all_goals
    simp only [pick4] at hs
    obtain ⟨a, cap, rfl, hcap, hm, hc⟩ := hs.ex
    clear hs
    unfold maxLen at hm
    go_enter Try.func52, Try.ntmps52
    go_wp2
    go_loopw [5, 6] (fun t i wr => ∃ k : Nat, k ≤ xs.length ∧ i = .int .i64 k ∧ t = .int .i64 (sumTo xs k) ∧ Ext (w.alloc (.cells #[_, _, _, _] 67)) wr) (fun _ i _ => xs.length - (intOf i).toNat)
    case atStart => exact ⟨0, Nat.zero_le _, rfl, rfl, Ext.rfl _⟩
    case round =>
      obtain ⟨k, hk, rfl, rfl, hb⟩ := hrel
      have q0 := ext_new hb 0 rfl
      have q1 := ext_new hb 1 rfl
      have q2 := ext_new hb 2 rfl
      have q3 := ext_new hb 3 rfl
      by_cases hlt : k < xs.length
      · obtain ⟨b, off, rfl, hcell⟩ := hc (by omega)
        obtain ⟨c0, c1, c2, c3, c4, c5, c6, c7, c8⟩ := SlS.at9 (w := wr) (enc := eFile) (xs := xs) (k := k) (fun j hj => ext_cellq (ext_of_new hb) (hcell k hlt j hj) hj rfl) rfl
        clear hcell hc
        have HB := hid hb
        clear hb
        go_wp2
        go_roundw
        case rel => exact ⟨k + 1, by omega, by go_num, rfl, HB.out⟩
        case measure => simp [intOf]; omega
      · have : k = xs.length := by omega
        subst this
        have HB := hid hb
        clear hb
        go_wp2
        go_ret
        exact ⟨rfl, ext_of_new HB.out⟩
end Go.Proofs.Ytoonhcmeklmnlaa
