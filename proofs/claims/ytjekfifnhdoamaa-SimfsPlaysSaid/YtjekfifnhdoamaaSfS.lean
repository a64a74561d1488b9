/- The document's SameNames: two rows of texts held against one another. -/
import Derived.Test.YtjekfifnhdoamaaSfD
set_option linter.unusedSimpArgs false
set_option linter.unusedVariables false
set_option linter.unnecessarySimpa false
namespace Go.Proofs.Ytjekfifnhdoamaa
open Go.RowKit Go.Rg Go.St

/-- a slice of texts -/
def SlStr (w : World) (v : Value) (xs : List ByteArray) : Prop := Sl1 w v xs.length (fun i => .string (nth xs i))
theorem SlStr.go {w w' : World} {v : Value} {xs : List ByteArray} (h : SlStr w v xs) (he : Ext w w') : SlStr w' v xs := Sl1.go h he
def BoolExt (b : Bool) (w : World) (e : Ending) (w' : World) : Prop := e = .returned (.bool b) ∧ Ext w w'
theorem ret_b {a b : Bool} (h : a = b) : Ending.returned (.bool a) = Ending.returned (.bool b) := by rw [h]
theorem str_ne {a b : ByteArray} (h : ¬ a = b) : (a.toList == b.toList) = false := by simpa using fun e => h (ba_ext e)
theorem list_str {w : World} {base : Nat} {v : Value} {n : Nat} {l : List ByteArray} (h : w.ownsRow base 9 1 v n (l.map Value.string)) (hn : n = l.length) : SlStr w v l := by
  subst hn
  exact (owns_sl1 h).cong fun i hi => by simp [nth, hi]
theorem names_in (v u : Value) (xs ys : List ByteArray) (w : World) (h : SlStr w v xs) (hu : SlStr w u ys) :
    Calls Try.prog 36 #[v, u] w (BoolExt (decide (xs = ys)) w) := by
  obtain ⟨a, cap, rfl, hcap, hm, hc⟩ := h.ex
  obtain ⟨a2, cap2, rfl, hcap2, hm2, hc2⟩ := hu.ex
  unfold maxLen at hm hm2
  clear h hu
  by_cases hll : xs.length = ys.length
  · have HLL := hid hll
    rw [← hll] at hcap2 hc2 ⊢
    clear hll
    go_enter Try.func36, Try.ntmps36
    go_wp2
    go_loopw [5] (fun i wr => ∃ k : Nat, k ≤ xs.length ∧ i = .int .i64 k ∧ Ext w wr ∧ ∀ j, j < k → nth xs j = nth ys j) (fun i _ => xs.length - (intOf i).toNat)
    case atStart => exact ⟨0, Nat.zero_le _, rfl, Ext.rfl _, fun j hj => absurd hj (Nat.not_lt_zero _)⟩
    case round =>
      obtain ⟨k, hk, rfl, he, hno⟩ := hrel
      by_cases hlt : k < xs.length
      · obtain ⟨b1, off, rfl, hcell⟩ := hc (by omega)
        obtain ⟨b2, off2, rfl, hcell2⟩ := hc2 (by omega)
        have c1 := ext_cell he (hcell k hlt)
        have c2 := ext_cell he (hcell2 k hlt)
        have HE := hid he
        have HN := hid hno
        clear hc hcell hno he hc2 hcell2
        by_cases heq : nth xs k = nth ys k
        · have HQ := hid heq
          rw [← heq] at c2
          clear heq
          go_wp2_with fail
          go_quiet (fail)
          go_wp2
          go_roundw
          case rel => exact ⟨k + 1, by omega, by go_num, HE.out.drN _, fun j hj => (if hjk : j = k then (by rw [hjk]; exact HQ.out) else HN.out j (by omega))⟩
          case measure => simp [intOf]; omega
        · have HQ := hid heq
          have heq' := str_ne heq
          clear heq
          go_wp2_with fail
          go_quiet (fail)
          go_wp2
          go_ret
          exact ⟨ret_b (decide_eq_false fun h => HQ.out (by rw [h])).symm, HE.out.drN _⟩
      · have : k = xs.length := by omega
        subst this
        go_wp2
        go_ret
        exact ⟨ret_b (decide_eq_true (ext_nth HLL.out hno)).symm, he⟩
  · go_enter Try.func36, Try.ntmps36
    go_wp2
    go_ret
    exact ⟨ret_b (decide_eq_false fun h => hll (by rw [h])).symm, Ext.rfl _⟩

end Go.Proofs.Ytjekfifnhdoamaa
