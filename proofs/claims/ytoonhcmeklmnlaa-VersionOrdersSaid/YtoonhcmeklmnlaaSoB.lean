/- Sorting numbers: what the texts of the sort stand on. -/
import Derived.Test.YtoonhcmeklmnlaaLib
import Derived.Test.YtoonhcmeklmnlaaRg
import Derived.Test.YtoonhcmeklmnlaaRgOps
import Derived.Test.YtoonhcmeklmnlaaTy
import Derived.Test.YtoonhcmeklmnlaaShelf
set_option linter.unusedSimpArgs false
set_option linter.unusedVariables false
set_option linter.unnecessarySimpa false
namespace Go.St
open Go.RowKit Go.Rg
theorem lt_of_at {w : World} {b : Nat} {x : Obj} (h : w.heap[b]? = some x) : b < w.heap.size := (Array.getElem?_eq_some_iff.1 h).1

theorem owns_at {w : World} {base : Nat} {e : TypeId} {sz g n cap : Nat} {xs : List Value} (h : w.ownsRow base e sz (.slice (some ⟨g, 0, none⟩) n cap) n xs) : ∃ cur, w.heap[g]? = some (.cells cur e (0, 0)) ∧ cur.size = cap * sz ∧ cur.toList.take (n * sz) = xs ∧ base ≤ g ∧ n ≤ cap ∧ cap ≤ maxLen := by
  rcases h.2 with ⟨h1, _⟩ | ⟨g', cap', cur, h1, hb, hg, hn, hm, hcs, htk⟩
  · cases h1
  · simp only [Value.slice.injEq, Option.some.injEq, Addr.mk.injEq] at h1
    obtain ⟨⟨rfl, _, _⟩, _, rfl⟩ := h1
    exact ⟨cur, hg, hcs, htk, hb, hn, hm⟩
end Go.St
namespace Go.Proofs.Ytoonhcmeklmnlaa
open Go.RowKit Go.Rg Go.St
theorem isnan_in (x : Int) (w : World) : Calls Try.prog 139 #[.int .u64 x] w (fun e w' => e = .returned (.bool false) ∧ w = w') := by
  go_enter Try.func139, Try.ntmps139
  go_wp2
  go_ret
  exact ⟨rfl, rfl⟩
theorem less_in (x y : Int) (w : World) : Calls Try.prog 122 #[.int .u64 x, .int .u64 y] w (fun e w' => e = .returned (.bool (decide (x < y))) ∧ w = w') := by
  go_enter Try.func122, Try.ntmps122
  go_wp2_with (go_at_call 139; refine (isnan_in _ _).mono ?_; rintro e w' ⟨rfl, rfl⟩)
  go_ret
  exact ⟨rfl, rfl⟩
theorem cf_less (args : Array Value) (w : World) : (callFunc 122 args).run Try.prog w = .ok (.enter 122 args) w := by kernel_rfl
theorem u64E : ElT Try.prog 81 36 1 8 := ⟨by kernel_rfl, by kernel_rfl, by decide, by decide⟩
theorem below_drew {B : Nat} {a w : World} (h : Below B a w) : Below B a w.drew := ⟨h.os, h.tape, h.output, h.size, h.block⟩
theorem slice_of {w : World} {base : Nat} {e : TypeId} {sz : Nat} {v : Value} {n : Nat} {xs : List Value} (h : w.ownsRow base e sz v n xs) : ∃ a cap, v = .slice a n cap ∧ n ≤ maxLen := by
  rcases h.2 with ⟨rfl, rfl⟩ | ⟨g, cap, cur, rfl, _, hg, hnc, hcm, hcs, htk⟩
  · exact ⟨_, _, rfl, Nat.zero_le _⟩
  · exact ⟨_, _, rfl, Nat.le_trans hnc hcm⟩
end Go.Proofs.Ytoonhcmeklmnlaa
