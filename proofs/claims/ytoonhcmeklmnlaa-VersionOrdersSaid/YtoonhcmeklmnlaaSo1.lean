/- Sorting numbers: rows, rearrangements; reverseRange. -/
import Derived.Test.YtoonhcmeklmnlaaSoB
set_option linter.unusedSimpArgs false
set_option linter.unusedVariables false
set_option linter.unnecessarySimpa false
namespace Go.Proofs.Ytoonhcmeklmnlaa
open Go.RowKit Go.Rg Go.St

/-- numbers at the head of a block -/
def RowU (b cap n : Nat) (f : Nat → Int) (w : World) : Prop := ∃ cur : Array Value, w.heap[b]? = some (.cells cur 36 (0, 0)) ∧ cur.size = cap ∧ n ≤ cap ∧ ∀ i, i < n → cur[i]? = some (.int .u64 (f i))
theorem RowU.cell {b cap n : Nat} {f : Nat → Int} {w : World} (h : RowU b cap n f w) {i : Nat} (hi : i < n) : w.cell? ⟨b, i, none⟩ = some (.int .u64 (f i)) := by
  obtain ⟨cur, h1, _, _, h2⟩ := h
  rw [cell_of_row _ _ _ _ _ _ h1]; exact h2 i hi
theorem RowU.frozen {b cap n : Nat} {f : Nat → Int} {w : World} (h : RowU b cap n f w) (i : Nat) : w.frozen? ⟨b, i, none⟩ = false := by
  obtain ⟨cur, h1, _⟩ := h
  exact frozen_of_row _ _ _ _ _ h1
theorem RowU.lt {b cap n : Nat} {f : Nat → Int} {w : World} (h : RowU b cap n f w) : b < w.heap.size := by obtain ⟨cur, h1, _⟩ := h; exact lt_of_at h1
theorem RowU.kept {b cap n : Nat} {f : Nat → Int} {w w' : World} (h : RowU b cap n f w) (he : w'.heap[b]? = w.heap[b]?) : RowU b cap n f w' := by
  obtain ⟨cur, h1, h2⟩ := h
  exact ⟨cur, he.trans h1, h2⟩
theorem RowU.ext {b cap n : Nat} {f : Nat → Int} {w w' : World} (h : RowU b cap n f w) (he : Ext w w') : RowU b cap n f w' := h.kept (he.block _ h.lt)
theorem RowU.set {b cap n : Nat} {f : Nat → Int} {w : World} (h : RowU b cap n f w) {i : Nat} (hi : i < n) (v : Int) : RowU b cap n (fun k => if k = i then v else f k) (w.setCell ⟨b, i, none⟩ (.int .u64 v)) := by
  obtain ⟨cur, h1, h2, h3, h4⟩ := h
  refine ⟨_, heap_setCell_same _ _ _ _ _ _ h1, by simpa using h2, h3, fun k hk => ?_⟩
  rw [Array.getElem?_setIfInBounds]
  by_cases e : i = k
  · subst e; rw [if_pos rfl, if_pos (by omega)]; simp
  · rw [if_neg e, h4 k hk]; simp only; rw [if_neg (Ne.symm e)]
def swapF (f : Nat → Int) (i j : Nat) : Nat → Int := fun k => if k = j then f i else if k = i then f j else f k
theorem RowU.swap {b cap n : Nat} {f : Nat → Int} {w : World} (h : RowU b cap n f w) {i j : Nat} (hi : i < n) (hj : j < n) :
    RowU b cap n (swapF f i j) ((w.setCell ⟨b, i, none⟩ (.int .u64 (f j))).setCell ⟨b, j, none⟩ (.int .u64 (f i))) := (h.set hi (f j)).set hj (f i)
theorem RowU.swapD {b cap n : Nat} {f : Nat → Int} {w : World} (h : RowU b cap n f w) {i j : Nat} (hi : i < n) (hj : j < n) :
    RowU b cap n (swapF f i j) (((w.setCell ⟨b, i, none⟩ (.int .u64 (f j))).setCell ⟨b, j, none⟩ (.int .u64 (f i))).drew) := (h.swap hi hj).kept rfl
theorem swap_below {b : Nat} {w0 w : World} (h : Below b w0 w) (i j : Nat) (x y : Int) : Below b w0 (((w.setCell ⟨b, i, none⟩ (.int .u64 x)).setCell ⟨b, j, none⟩ (.int .u64 y)).drew) :=
  below_drew (Below.setCell (Below.setCell h (Nat.le_refl _) _) (Nat.le_refl _) _)
/-- rearranged by swaps between a and b -/
inductive Re (a b : Nat) (f : Nat → Int) : (Nat → Int) → Prop where
  | refl : Re a b f f
  | step {g : Nat → Int} (i j : Nat) (h : Re a b f g) (hi : a ≤ i) (hi' : i < b) (hj : a ≤ j) (hj' : j < b) : Re a b f (swapF g i j)
theorem Re.trans {a b : Nat} {f g h : Nat → Int} (h1 : Re a b f g) (h2 : Re a b g h) : Re a b f h := by
  induction h2 with
  | refl => exact h1
  | step i j _ x1 x2 x3 x4 ih => exact .step i j ih x1 x2 x3 x4
theorem Re.mono {a b a' b' : Nat} {f g : Nat → Int} (h : Re a b f g) (ha : a' ≤ a) (hb : b ≤ b') : Re a' b' f g := by
  induction h with
  | refl => exact .refl
  | step i j _ x1 x2 x3 x4 ih => exact .step i j ih (by omega) (by omega) (by omega) (by omega)
theorem Re.out {a b : Nat} {f g : Nat → Int} (h : Re a b f g) {k : Nat} (hk : k < a ∨ b ≤ k) : g k = f k := by
  induction h with
  | refl => rfl
  | step i j _ x1 x2 x3 x4 ih =>
    unfold swapF
    rw [if_neg (by omega), if_neg (by omega)]
    exact ih
/-- what holds of each number between a and b holds behind it too -/
theorem Re.all {a b : Nat} {f g : Nat → Int} (h : Re a b f g) {p : Int → Prop} (hp : ∀ k, a ≤ k → k < b → p (f k)) : ∀ k, a ≤ k → k < b → p (g k) := by
  induction h with
  | refl => exact hp
  | step i j _ x1 x2 x3 x4 ih =>
    intro k h1 h2
    unfold swapF
    split
    · exact ih i x1 x2
    · split
      · exact ih j x3 x4
      · exact ih k h1 h2
theorem swapF_swap (f : Nat → Int) (i j : Nat) : swapF (swapF f i j) i j = f := by
  funext k
  unfold swapF
  by_cases h1 : k = j
  · subst h1
    by_cases h2 : i = k
    · subst h2; simp
    · simp [h2]
  · by_cases h2 : k = i
    · subst h2; simp [h1]
    · simp [h1, h2]
theorem Re.symm {a b : Nat} {f g : Nat → Int} (h : Re a b f g) : Re a b g f := by
  induction h with
  | refl => exact .refl
  | step i j h x1 x2 x3 x4 ih =>
    rename_i g0
    have h1 : Re a b (swapF g0 i j) g0 := by
      have := Re.step (f := swapF g0 i j) i j .refl x1 x2 x3 x4
      rwa [swapF_swap] at this
    exact h1.trans ih
/-- no number comes, none goes -/
theorem Re.mem {a b : Nat} {f g : Nat → Int} (h : Re a b f g) (v : Int) : (∃ k, a ≤ k ∧ k < b ∧ f k = v) ↔ ∃ k, a ≤ k ∧ k < b ∧ g k = v := by
  constructor
  · rintro ⟨k, h1, h2, h3⟩
    apply Classical.byContradiction
    intro hn
    exact h.symm.all (p := fun x => x ≠ v) (fun k h1 h2 e => hn ⟨k, h1, h2, e⟩) k h1 h2 h3
  · rintro ⟨k, h1, h2, h3⟩
    apply Classical.byContradiction
    intro hn
    exact h.all (p := fun x => x ≠ v) (fun k h1 h2 e => hn ⟨k, h1, h2, e⟩) k h1 h2 h3
/-- behind a call that sorts: a row rearranged -/
def SortP (b cap n : Nat) (lo hi : Nat) (f : Nat → Int) (w : World) (p : (Nat → Int) → Prop) (e : Ending) (w' : World) : Prop := e = .returned (.tuple #[]) ∧ ∃ g, Re lo hi f g ∧ RowU b cap n g w' ∧ Below b w w' ∧ p g

set_option maxRecDepth 100000 in
set_option maxHeartbeats 2000000 in
theorem reverse_in (b cap n : Nat) (f : Nat → Int) (lo hi : Nat) (w : World) (h : RowU b cap n f w) (h1 : lo < hi) (h2 : hi ≤ n) (h3 : n ≤ 4611686018427387904) :
    Calls Try.prog 120 #[.slice (some ⟨b, 0, none⟩) n cap, .int .i64 lo, .int .i64 hi] w (SortP b cap n lo hi f w (fun _ => True)) := by
  have H := hid h
  clear h
  go_enter Try.func120, Try.ntmps120
  go_wp2_with fail
  go_loopw [6, 7] (fun ti tj wr => ∃ (i j : Nat) (g : Nat → Int), ti = .int .i64 i ∧ tj = .int .i64 j ∧ lo ≤ i ∧ j < hi ∧ lo ≤ j ∧ Re lo hi f g ∧ RowU b cap n g wr ∧ Below b w wr) (fun _ tj _ => (intOf tj).toNat)
  case atStart => exact ⟨lo, hi - 1, f, rfl, by go_num, Nat.le_refl _, by omega, by omega, .refl, H.out, Below.refl _ _⟩
  case round =>
    obtain ⟨i, j, g, rfl, rfl, hi1, hj1, hj2, hre, hrow, hb⟩ := hrel
    have HRE := hid hre
    have HROW := hid hrow
    have HB := hid hb
    clear hre hrow hb
    by_cases hij : i < j
    · have dl : decide ((i : Int) < (j : Int)) = true := decide_eq_true (by omega)
      have ci := HROW.out.cell (i := i) (by omega)
      have cj := HROW.out.cell (i := j) (by omega)
      have ff := HROW.out.frozen
      have hin : (i : Int) < (n : Int) := by omega
      have hjn : (j : Int) < (n : Int) := by omega
      have hin' : i < n := by omega
      have hjn' : j < n := by omega
      have HSW := hid (HROW.out.swapD (i := i) (j := j) (by omega) (by omega))
      have HSB := hid (swap_below HB.out i j (g j) (g i))
      have HRS := hid (HRE.out.step i j hi1 (by omega) hj2 hj1)
      go_wp2_with fail
      go_region
      generalize (((wr.setCell ⟨b, i, none⟩ (.int .u64 (g j))).setCell ⟨b, j, none⟩ (.int .u64 (g i))).drew) = wz at *
      clear ci cj ff HROW HB HRE
      go_wp2_with fail
      go_roundw
      case rel => exact ⟨i + 1, j - 1, _, by go_num, by go_num, by omega, by omega, by omega, HRS.out, HSW.out, HSB.out⟩
      case measure => simp [intOf]; omega
    · have dl : decide ((i : Int) < (j : Int)) = false := decide_eq_false (by omega)
      go_wp2_with fail
      go_end0
      exact ⟨rfl, g, HRE.out, HROW.out, HB.out, trivial⟩
end Go.Proofs.Ytoonhcmeklmnlaa
