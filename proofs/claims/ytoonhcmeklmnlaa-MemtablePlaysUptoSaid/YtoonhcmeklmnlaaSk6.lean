/- The walks of the law's helpers of package skip: texts that are held against one another. -/
import Derived.Test.YtoonhcmeklmnlaaSk5
set_option linter.unusedSimpArgs false
set_option linter.unusedVariables false
set_option linter.unnecessarySimpa false
namespace Go.Proofs.Ytoonhcmeklmnlaa
open Go.RowKit Go.Rg Go.St

/-- a slice of texts -/
def SlStr (w : World) (v : Value) (xs : List ByteArray) : Prop := Sl1 w v xs.length (fun i => .string (nth xs i))
theorem SlStr.go {w w' : World} {v : Value} {xs : List ByteArray} (h : SlStr w v xs) (he : Ext w w') : SlStr w' v xs := Sl1.go h he
def BoolPost (b : Bool) (w : World) (e : Ending) (w' : World) : Prop := e = .returned (.bool b) ∧ w = w'
def BoolExt (b : Bool) (w : World) (e : Ending) (w' : World) : Prop := e = .returned (.bool b) ∧ Ext w w'

theorem ret_b {a b : Bool} (h : a = b) : Ending.returned (.bool a) = Ending.returned (.bool b) := by rw [h]
theorem mem_nth {α : Type} [Inhabited α] {x : α} {l : List α} (h : x ∈ l) : ∃ j, j < l.length ∧ nth l j = x := by
  obtain ⟨j, hj, e⟩ := List.getElem_of_mem h
  exact ⟨j, hj, by rw [nth_eq l j hj]; exact e⟩

theorem str_ne {a b : ByteArray} (h : ¬ a = b) : (a.toList == b.toList) = false := by simpa using fun e => h (ba_ext e)

/-- do they rise? -/
def risesB (xs : List ByteArray) : Bool := decide (∀ j, j < xs.length - 1 → kl (nth xs j) (nth xs (j + 1)) = true)
/-- heights, as folded -/
def fold (n : Int) : Int := if n < 0 then -(n + 1) else n
theorem fold_range (n : Int) (h : -9223372036854775808 ≤ n ∧ n ≤ 9223372036854775807) : 0 ≤ fold n ∧ fold n ≤ 9223372036854775807 := by unfold fold; split <;> omega
def hgt (n : Int) : Nat := 1 + (fold n % 8).toNat
theorem hgt_range (n : Int) : 1 ≤ hgt n ∧ hgt n ≤ 8 := by unfold hgt; omega
end Go.Proofs.Ytoonhcmeklmnlaa
