/- The walks of the law's helpers of package skip: texts that are held against one another. -/
import Derived.Test.YticmnmdokoonjaaSk5
set_option linter.unusedSimpArgs false
set_option linter.unusedVariables false
set_option linter.unnecessarySimpa false
namespace Go.Proofs.Yticmnmdokoonjaa
open Go.RowKit Go.Rg Go.St

/-- a slice of texts -/
def SlStr (w : World) (v : Value) (xs : List ByteArray) : Prop := Sl1 w v xs.length (fun i => .string (nth xs i))
theorem SlStr.go {w w' : World} {v : Value} {xs : List ByteArray} (h : SlStr w v xs) (he : Ext w w') : SlStr w' v xs := Sl1.go h he
def BoolPost (b : Bool) (w : World) (e : Ending) (w' : World) : Prop := e = .returned (.bool b) ∧ w = w'
def BoolExt (b : Bool) (w : World) (e : Ending) (w' : World) : Prop := e = .returned (.bool b) ∧ Ext w w'

theorem ret_b {a b : Bool} (h : a = b) : Ending.returned (.bool a) = Ending.returned (.bool b) := by rw [h]
theorem mem_nth {α : Type} [Inhabited α] {x : α} {l : List α} (h : x ∈ l) : ∃ j, j < l.length ∧ nth l j = x := by
  obtain ⟨j, hj, e⟩ := List.getElem_of_mem h
  exact ⟨j, hj, by rw [nth_eq l j hj]; exact e⟩

theorem str_ne {a b : ByteArray} (h : ¬ a = b) : (a.toList == b.toList) = false := by simpa using fun e => h (ba_ext e)

theorem has_in (v : Value) (xs : List ByteArray) (key : ByteArray) (w : World) (h : SlStr w v xs) :
    Calls Try.prog 36 #[v, .string key] w (BoolPost (decide (key ∈ xs)) w) := by
  obtain ⟨a, cap, rfl, hcap, hm, hc⟩ := h.ex
  unfold maxLen at hm
  clear h
  go_enter Try.func36, Try.ntmps36
  go_wp2
  go_loopw [5] (fun i wr => ∃ k : Nat, k ≤ xs.length ∧ i = .int .i64 k ∧ Hid (w = wr) ∧ ∀ j, j < k → nth xs j ≠ key) (fun i _ => xs.length - (intOf i).toNat)
  case atStart => exact ⟨0, Nat.zero_le _, rfl, hid (by trivial), fun j hj => absurd hj (Nat.not_lt_zero _)⟩
  case round =>
    obtain ⟨k, hk, rfl, hw, hno⟩ := hrel
    cases hw.out
    by_cases hlt : k < xs.length
    · obtain ⟨b1, off, rfl, hcell⟩ := hc (by omega)
      have c1 := hcell k hlt
      have HN := hid hno
      clear hc hcell hno
      by_cases heq : nth xs k = key
      · subst heq
        go_wp2
        go_ret
        exact ⟨ret_b (by simp [nth_mem xs k hlt]), rfl⟩
      · have heq' := str_ne heq
        go_wp2
        go_roundw
        case rel => exact ⟨k + 1, by omega, by go_num, hid (by trivial), fun j hj => (if hjk : j = k then (by rw [hjk]; exact heq) else HN.out j (by omega))⟩
        case measure => simp [intOf]; omega
    · have : k = xs.length := by omega
      subst this
      go_wp2
      go_ret
      refine ⟨ret_b ?_, rfl⟩
      refine (decide_eq_false fun hm => ?_).symm
      obtain ⟨j, hj, e⟩ := mem_nth hm
      exact hno j hj e

theorem within_in (v u : Value) (xs ys : List ByteArray) (w : World) (h : SlStr w v xs) (hu : SlStr w u ys) :
    Calls Try.prog 35 #[v, u] w (BoolPost (decide (∀ x, x ∈ xs → x ∈ ys)) w) := by
  obtain ⟨a, cap, rfl, hcap, hm, hc⟩ := h.ex
  unfold maxLen at hm
  clear h
  have HU := hid hu
  clear hu
  go_enter Try.func35, Try.ntmps35
  go_wp2
  go_loopw [5] (fun i wr => ∃ k : Nat, k ≤ xs.length ∧ i = .int .i64 k ∧ Hid (w = wr) ∧ ∀ j, j < k → nth xs j ∈ ys) (fun i _ => xs.length - (intOf i).toNat)
  case atStart => exact ⟨0, Nat.zero_le _, rfl, hid (by trivial), fun j hj => absurd hj (Nat.not_lt_zero _)⟩
  case round =>
    obtain ⟨k, hk, rfl, hw, hno⟩ := hrel
    cases hw.out
    by_cases hlt : k < xs.length
    · obtain ⟨b1, off, rfl, hcell⟩ := hc (by omega)
      have c1 := hcell k hlt
      have HN := hid hno
      clear hc hcell hno
      by_cases heq : nth xs k ∈ ys
      · have HQ := hid heq
        have hd : decide (nth xs k ∈ ys) = true := decide_eq_true heq
        clear heq
        go_wp2_with fail
        refine (has_in u ys _ _ HU.out).mono ?_
        rintro e w2 ⟨rfl, rfl⟩
        rw [hd]
        go_wp2
        go_roundw
        case rel => exact ⟨k + 1, by omega, by go_num, hid (by trivial), fun j hj => (if hjk : j = k then (by rw [hjk]; exact HQ.out) else HN.out j (by omega))⟩
        case measure => simp [intOf]; omega
      · have HQ := hid heq
        have hd : decide (nth xs k ∈ ys) = false := decide_eq_false heq
        clear heq
        go_wp2_with fail
        refine (has_in u ys _ _ HU.out).mono ?_
        rintro e w2 ⟨rfl, rfl⟩
        rw [hd]
        go_wp2
        go_ret
        refine ⟨ret_b (decide_eq_false fun h => ?_).symm, rfl⟩
        exact HQ.out (h _ (nth_mem xs k hlt))
    · have : k = xs.length := by omega
      subst this
      go_wp2
      go_ret
      refine ⟨ret_b (decide_eq_true fun x hx => ?_).symm, rfl⟩
      obtain ⟨j, hj, e⟩ := mem_nth hx
      rw [← e]; exact hno j hj

/-- do they rise? -/
def risesB (xs : List ByteArray) : Bool := decide (∀ j, j < xs.length - 1 → kl (nth xs j) (nth xs (j + 1)) = true)
theorem rising_in (v : Value) (xs : List ByteArray) (w : World) (h : SlStr w v xs) :
    Calls Try.prog 60 #[v] w (BoolExt (risesB xs) w) := by
  obtain ⟨a, cap, rfl, hcap, hm, hc⟩ := h.ex
  unfold maxLen at hm
  clear h
  go_enter Try.func60, Try.ntmps60
  go_wp2
  go_loopw [3] (fun i wr => ∃ k : Nat, (k = 0 ∨ k + 1 ≤ xs.length) ∧ i = .int .i64 k ∧ Ext w wr ∧ ∀ j, j < k → kl (nth xs j) (nth xs (j + 1)) = true) (fun i _ => xs.length - (intOf i).toNat)
  case atStart => exact ⟨0, .inl rfl, rfl, Ext.rfl _, fun j hj => absurd hj (Nat.not_lt_zero _)⟩
  case round =>
    obtain ⟨k, hk, rfl, he, hno⟩ := hrel
    by_cases hlt : k + 1 < xs.length
    · obtain ⟨b1, off, rfl, hcell⟩ := hc (by omega)
      have c1 := ext_cell he (hcell k (by omega))
      have c2 := ext_cell he (hcell (k + 1) hlt)
      have hlt0 : k < xs.length := by omega
      have HE := hid he
      have HN := hid hno
      clear hc hcell hno he
      cases heq : kl (nth xs k) (nth xs (k + 1)) with
      | true =>
        have HQ := hid heq
        have hd : Op.bytesLess (nth xs k).toList (nth xs (k + 1)).toList = true := heq
        clear heq
        go_wp2
        go_region
        go_wp2
        go_roundw
        case rel => exact ⟨k + 1, by omega, by go_num, HE.out.dr, fun j hj => (if hjk : j = k then (by rw [hjk]; exact HQ.out) else HN.out j (by omega))⟩
        case measure => simp [intOf]; omega
      | false =>
        have HQ := hid heq
        have hd : Op.bytesLess (nth xs k).toList (nth xs (k + 1)).toList = false := heq
        clear heq
        go_wp2
        go_region
        go_wp2
        go_ret
        refine ⟨ret_b (decide_eq_false fun h => ?_).symm, HE.out.dr⟩
        have := h k (by omega)
        rw [HQ.out] at this; cases this
    · go_wp2
      go_ret
      refine ⟨ret_b (decide_eq_true fun x hx => ?_).symm, he⟩
      exact hno x (by omega)

theorem names_in (v u : Value) (xs ys : List ByteArray) (w : World) (h : SlStr w v xs) (hu : SlStr w u ys) :
    Calls Try.prog 38 #[v, u] w (BoolExt (decide (xs = ys)) w) := by
  obtain ⟨a, cap, rfl, hcap, hm, hc⟩ := h.ex
  obtain ⟨a2, cap2, rfl, hcap2, hm2, hc2⟩ := hu.ex
  unfold maxLen at hm hm2
  clear h hu
  by_cases hll : xs.length = ys.length
  · have HLL := hid hll
    rw [← hll] at hcap2 hc2 ⊢
    clear hll
    go_enter Try.func38, Try.ntmps38
    go_wp2
    go_loopw [5] (fun i wr => ∃ k : Nat, k ≤ xs.length ∧ i = .int .i64 k ∧ Ext w wr ∧ ∀ j, j < k → nth xs j = nth ys j) (fun i _ => xs.length - (intOf i).toNat)
    case atStart => exact ⟨0, Nat.zero_le _, rfl, Ext.rfl _, fun j hj => absurd hj (Nat.not_lt_zero _)⟩
    case round =>
      obtain ⟨k, hk, rfl, he, hno⟩ := hrel
      by_cases hlt : k < xs.length
      · obtain ⟨b1, off, rfl, hcell⟩ := hc (by omega)
        obtain ⟨b2, off2, rfl, hcell2⟩ := hc2 (by omega)
        have c1 := ext_cell he (hcell k hlt)
        have c2 := ext_cell he (hcell2 k hlt)
        have HE := hid he
        have HN := hid hno
        clear hc hcell hno he hc2 hcell2
        by_cases heq : nth xs k = nth ys k
        · have HQ := hid heq
          rw [← heq] at c2
          clear heq
          go_wp2_with fail
          go_quiet (fail)
          go_wp2
          go_roundw
          case rel => exact ⟨k + 1, by omega, by go_num, HE.out.drN _, fun j hj => (if hjk : j = k then (by rw [hjk]; exact HQ.out) else HN.out j (by omega))⟩
          case measure => simp [intOf]; omega
        · have HQ := hid heq
          have heq' := str_ne heq
          clear heq
          go_wp2_with fail
          go_quiet (fail)
          go_wp2
          go_ret
          exact ⟨ret_b (decide_eq_false fun h => HQ.out (by rw [h])).symm, HE.out.drN _⟩
      · have : k = xs.length := by omega
        subst this
        go_wp2
        go_ret
        exact ⟨ret_b (decide_eq_true (ext_nth HLL.out hno)).symm, he⟩
  · go_enter Try.func38, Try.ntmps38
    go_wp2
    go_ret
    exact ⟨ret_b (decide_eq_false fun h => hll (by rw [h])).symm, Ext.rfl _⟩

/-- heights, as folded -/
def fold (n : Int) : Int := if n < 0 then -(n + 1) else n
theorem fold_range (n : Int) (h : -9223372036854775808 ≤ n ∧ n ≤ 9223372036854775807) : 0 ≤ fold n ∧ fold n ≤ 9223372036854775807 := by unfold fold; split <;> omega
def hgt (n : Int) : Nat := 1 + (fold n % 8).toNat
theorem hgt_range (n : Int) : 1 ≤ hgt n ∧ hgt n ≤ 8 := by unfold hgt; omega
theorem height_in (n : Int) (h : -9223372036854775808 ≤ n ∧ n ≤ 9223372036854775807) (w : World) : Calls Try.prog 59 #[.int .i64 n] w (fun e w' => e = .returned (.int .i64 (hgt n)) ∧ w = w') := by
  by_cases hn : n < 0
  · go_enter Try.func59, Try.ntmps59
    go_wp2
    go_ret
    refine ⟨congrArg Ending.returned (int_val (k := .i64) ?_), rfl⟩
    have e : (-(n + 1)).tmod 8 = -(n + 1) % 8 := Int.tmod_eq_emod_of_nonneg (by omega)
    unfold hgt fold
    rw [if_pos hn]
    simp only [Int.neg_tmod] at e ⊢
    rw [e]
    unfold wrap64
    omega
  · go_enter Try.func59, Try.ntmps59
    go_wp2
    go_ret
    refine ⟨congrArg Ending.returned (int_val (k := .i64) ?_), rfl⟩
    have e : n.tmod 8 = n % 8 := Int.tmod_eq_emod_of_nonneg (by omega)
    unfold hgt fold
    rw [if_neg (by omega)]
    omega
end Go.Proofs.Yticmnmdokoonjaa
