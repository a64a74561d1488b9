/- Files that a crash cuts: the plain laws of SimfsFuses. -/
import Derived.Test.YtjekfifnhdoamaaSf0
set_option linter.unusedSimpArgs false
set_option linter.unusedVariables false
set_option linter.unnecessarySimpa false
namespace Go.Proofs.Ytjekfifnhdoamaa
open Go.RowKit Go.Rg Go.St

abbrev faN : ByteArray := ⟨#[97]⟩
abbrev fbN : ByteArray := ⟨#[98]⟩
/-- two files, none lasting, and so many changes left -/
def fz (F : Nat → Fl) (q k left : Nat) : FsM := ⟨F, 2, [(faN, 0), (fbN, 1)], [], [⟨ByteArray.empty, faN, 0⟩, ⟨ByteArray.empty, fbN, 1⟩], q, k, (left : Int), -1⟩
def fzN (i : Nat) : ByteArray := if i = 0 then faN else fbN
def fz0 (q : Nat) : FsM := ⟨updF (updF (fun _ => default) 0 ⟨[], 0⟩) 1 ⟨[], 0⟩, 2, [(faN, 0), (fbN, 1)], [], [⟨ByteArray.empty, faN, 0⟩, ⟨ByteArray.empty, fbN, 1⟩], q, 2, -1, -1⟩
def fz1 (q : Nat) : FsM := ⟨updF (fun _ => default) 0 ⟨[], 0⟩, 1, [(faN, 0)], [], [⟨ByteArray.empty, faN, 0⟩], q, 1, -1, -1⟩
theorem fz_a (q : Nat) : (FsM.new q).create faN = (0, fz1 q) := by kernel_rfl
theorem fz_b (q : Nat) : (fz1 q).create fbN = (0, fz0 q) := by kernel_rfl
theorem fz_fuse (q n : Nat) : (fz0 q).setFuse (n : Int) = fz (updF (updF (fun _ => default) 0 ⟨[], 0⟩) 1 ⟨[], 0⟩) q 2 n := by
  unfold FsM.setFuse fz fz0
  rw [if_neg (by omega)]
theorem fz_ask0 (F : Nat → Fl) (q k : Nat) : (fz F q k 0).ask = (44, fz F q (k + 1) 0) := by kernel_rfl
theorem fz_ask (F : Nat → Fl) (q k l : Nat) : (fz F q k (l + 1)).ask = (0, fz F q (k + 1) l) := by
  unfold FsM.ask fz
  have h1 : ¬ (((l + 1 : Nat) : Int) = 0) := by omega
  have h2 : (0 : Int) < ((l + 1 : Nat) : Int) := by omega
  have h3 : ¬ ((0 : Int) ≤ -1) := by decide
  have h4 : ((l + 1 : Nat) : Int) - 1 = (l : Int) := by omega
  simp only [h1, h2, h3, h4, if_true, if_false]
theorem fz_find (i : Nat) (hi : i < 2) : fndN [(faN, 0), (fbN, 1)] (fzN i) = some i := by
  rcases (show i = 0 ∨ i = 1 by omega) with rfl | rfl
  · show fndN [(faN, 0), (fbN, 1)] faN = some 0; decide +kernel
  · show fndN [(faN, 0), (fbN, 1)] fbN = some 1; decide +kernel
theorem fz_down (F : Nat → Fl) (q k i : Nat) (bs : List UInt8) : (fz F q k 0).append (fzN i) bs = (44, fz F q (k + 1) 0) := by
  unfold FsM.append
  rw [fz_ask0]
  rfl
def fzS (F : Nat → Fl) : Nat := (F 0).b.length + (F 1).b.length
theorem fz_total (F : Nat → Fl) (q k l : Nat) : (fz F q k l).total = fzS F := by
  show (F 0).b.length + ((F 1).b.length + 0) = _
  unfold fzS
  omega
theorem fz_full (F : Nat → Fl) (q k l i : Nat) (bs : List UInt8) (hi : i < 2) (h : q < fzS F + bs.length) : (fz F q k (l + 1)).append (fzN i) bs = (43, fz F q (k + 1) l) := by
  unfold FsM.append
  rw [fz_ask]
  have h0 : ¬ ((0 : Int) ≠ 0) := by decide
  simp only [h0, if_false]
  have hf : fndN (fz F q (k + 1) l).names (fzN i) = some i := fz_find i hi
  rw [hf]
  simp only [fz_total]
  rw [if_pos (show (fz F q k (l + 1)).quota < _ by show q < _; omega)]
theorem fz_fits (F : Nat → Fl) (q k l i : Nat) (bs : List UInt8) (hi : i < 2) (h : fzS F + bs.length ≤ q) : (fz F q k (l + 1)).append (fzN i) bs = (0, fz (updF F i ⟨(F i).b ++ bs, (F i).last⟩) q (k + 1) l) ∧ fzS (updF F i ⟨(F i).b ++ bs, (F i).last⟩) = fzS F + bs.length := by
  refine ⟨?_, ?_⟩
  · unfold FsM.append
    rw [fz_ask]
    have h0 : ¬ ((0 : Int) ≠ 0) := by decide
    simp only [h0, if_false]
    have hf : fndN (fz F q (k + 1) l).names (fzN i) = some i := fz_find i hi
    rw [hf]
    simp only [fz_total]
    rw [if_neg (show ¬ (fz F q k (l + 1)).quota < _ by show ¬ q < _; omega)]
    rfl
  · unfold fzS updF
    rcases (show i = 0 ∨ i = 1 by omega) with rfl | rfl
    · simp only [if_true, if_false, List.length_append, show ¬ ((1 : Nat) = 0) by decide]
      omega
    · simp only [if_true, if_false, List.length_append, show ¬ ((0 : Nat) = 1) by decide]
      omega
theorem fz_read (F : Nat → Fl) (q k l i : Nat) (hi : i < 2) : ((fz F q k l).setFuse (-1)).read (fzN i) = ((F i).b, 0) := by
  unfold FsM.read
  have hf : fndN ((fz F q k l).setFuse (-1)).names (fzN i) = some i := fz_find i hi
  rw [hf]
  rw [if_neg (show ¬ ((fz F q k l).setFuse (-1)).fuse = 0 by show ¬ ((-1 : Int) = 0); decide)]
  rfl
end Go.Proofs.Ytjekfifnhdoamaa
