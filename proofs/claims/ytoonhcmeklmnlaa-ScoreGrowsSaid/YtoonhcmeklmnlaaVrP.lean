/- What an edit makes of files: plain. -/
import Derived.Test.YtoonhcmeklmnlaaVr4
import Derived.Test.YtoonhcmeklmnlaaIn3
set_option linter.unusedSimpArgs false
set_option linter.unusedVariables false
set_option linter.unnecessarySimpa false
namespace Go.Proofs.Ytoonhcmeklmnlaa
open Go.RowKit Go.Rg Go.St

abbrev Lv := Nat → List File
def noneV : Lv := fun _ => []
def upd (S : Lv) (n : Nat) (l : List File) : Lv := fun m => if m = n then l else S m
theorem upd_same (S : Lv) (n : Nat) (l : List File) : upd S n l n = l := by simp [upd]
theorem upd_other (S : Lv) {n m : Nat} (l : List File) (h : m ≠ n) : upd S n l m = S m := by simp [upd, h]

/-- files but one number -/
def remF (num : Int) (l : List File) : List File := l.filter fun f => decide (f.num ≠ num)
def hasNum (num : Int) (l : List File) : Bool := l.any fun f => decide (f.num = num)
/-- is a file to stand ahead of another one? -/
def aheadF (f o : File) : Bool := if f.level = 0 then decide (o.num < f.num) else kl f.large.user o.small.user
def insF (f : File) : List File → List File
  | [] => [f]
  | o :: l => if aheadF f o = true then f :: o :: l else o :: insF f l
theorem insF_at (f : File) : ∀ l, insF f l = l.take (l.findIdx (aheadF f)) ++ f :: l.drop (l.findIdx (aheadF f))
  | [] => rfl
  | o :: l => by
    unfold insF
    rw [List.findIdx_cons]
    cases h : aheadF f o with
    | true => simp
    | false => simp [insF_at f l]
theorem insF_length (f : File) (l : List File) : (insF f l).length = l.length + 1 := by
  rw [insF_at]
  simp
  have := List.findIdx_le_length (p := aheadF f) (xs := l)
  omega
theorem remF_length (n : Int) (l : List File) : (remF n l).length ≤ l.length := List.length_filter_le _ _
theorem remF_at (n : Int) : ∀ l : List File, (l.map (·.num)).Nodup → l.findIdx (fun f => decide (f.num = n)) < l.length →
    remF n l = l.take (l.findIdx (fun f => decide (f.num = n))) ++ l.drop (l.findIdx (fun f => decide (f.num = n)) + 1)
  | [], _, h => absurd h (by simp)
  | o :: l, hn, h => by
    rw [List.map_cons, List.nodup_cons] at hn
    rw [List.findIdx_cons] at h ⊢
    by_cases e : o.num = n
    · simp only [e, decide_true, cond_true, List.take_zero, List.nil_append, Nat.zero_add, List.drop_succ_cons, List.drop_zero]
      unfold remF
      rw [List.filter_cons_of_neg (by simp [e]), List.filter_eq_self.2]
      intro f hf
      have : f.num ≠ n := fun e2 => hn.1 (by rw [e, ← e2]; exact List.mem_map_of_mem hf)
      simpa using this
    · simp only [e, decide_false, cond_false, List.length_cons, Nat.add_lt_add_iff_right] at h
      simp only [e, decide_false, cond_false, List.take_succ_cons, List.drop_succ_cons, List.cons_append]
      rw [← remF_at n l hn.2 h]
      unfold remF
      rw [List.filter_cons_of_pos (by simp [e])]
theorem hasNum_idx (n : Int) (l : List File) : l.findIdx (fun f => decide (f.num = n)) < l.length ↔ hasNum n l = true := by
  rw [List.findIdx_lt_length]
  unfold hasNum
  rw [List.any_eq_true]
theorem hasNum_rem (n : Int) (l : List File) : (remF n l).length < l.length ↔ hasNum n l = true := by
  unfold remF hasNum
  induction l with
  | nil => simp
  | cons o l ih =>
    have hle := List.length_filter_le (fun f : File => decide (f.num ≠ n)) l
    by_cases e : o.num = n
    · simp [e]
      simpa using Nat.lt_succ_of_le hle
    · (simp [e] at ih ⊢) <;> exact ih
def thereB (num : Int) (S : Lv) : Bool := hasNum num (S 0) || hasNum num (S 1) || hasNum num (S 2) || hasNum num (S 3)
def addE (S : Lv) (f : File) : Int := if thereB f.num S = true then 142 else if 0 < f.level ∧ ovs f.small.user f.large.user (S f.level.toNat) ≠ [] then 143 else 0
def delsF : List Gone → Lv → Option Lv
  | [], S => some S
  | d :: ds, S => if hasNum d.num (S d.level.toNat) = true then delsF ds (upd S d.level.toNat (remF d.num (S d.level.toNat))) else none
def addsF : List File → Lv → Int × Lv
  | [], S => (0, S)
  | f :: fs, S => if addE S f ≠ 0 then (addE S f, noneV) else addsF fs (upd S f.level.toNat (insF f (S f.level.toNat)))
noncomputable def applyF (V : Lv) (x : Ed) : Int × Lv :=
  if verC V ≠ 0 then (140, noneV) else if edC x ≠ 0 then (edC x, noneV) else
    match delsF x.dels V with
    | none => (141, noneV)
    | some S => addsF x.adds S
/-- no number twice in a level -/
def UniqS (S : Lv) : Prop := ∀ n, n < 4 → ((S n).map (·.num)).Nodup
theorem remF_nodup {n : Int} {l : List File} (h : (l.map (·.num)).Nodup) : ((remF n l).map (·.num)).Nodup := (List.Sublist.map _ (List.filter_sublist)).nodup h
theorem UniqS.rem {S : Lv} (h : UniqS S) (k : Nat) (n : Int) : UniqS (upd S k (remF n (S k))) := fun m hm => by
  by_cases e : m = k
  · subst e; rw [upd_same]; exact remF_nodup (h m hm)
  · rw [upd_other _ _ e]; exact h m hm
theorem seenL_self (V : Lv) (n : Nat) : ∀ i, i ≤ (V n).length → (∀ j, j < i → (nth (V n) j).num ∉ seenL V n j) → (((V n).take i).map (·.num)).Nodup
  | 0, _, _ => by simp
  | i + 1, hi, h => by
    rw [take_succ_nth _ _ hi, List.map_append, List.nodup_append]
    refine ⟨seenL_self V n i (by omega) (fun j hj => h j (by omega)), by simp, ?_⟩
    intro a ha b hb
    simp at hb
    subst hb
    intro e
    subst e
    exact h i (by omega) (by unfold seenL; exact List.mem_append_right _ ha)
theorem uniq_of_ok {V : Lv} (h : verC V = 0) : UniqS V := fun n hn => by
  have hok : VerOk V := by
    apply Classical.byContradiction
    intro hh
    unfold verC at h
    rw [if_neg hh] at h
    cases h
  have := seenL_self V n (V n).length (Nat.le_refl _) (fun j hj => (hok n hn j hj).2.1)
  rwa [List.take_length] at this
theorem drop_cons_nth {α : Type} [Inhabited α] (l : List α) (k : Nat) (h : k < l.length) : l.drop k = nth l k :: l.drop (k + 1) := by
  rw [nth_eq l k h]; exact List.drop_eq_getElem_cons h
theorem delsF_none {ds : List Gone} {S : Lv} {k : Nat} (h : k < ds.length) (hn : hasNum (nth ds k).num (S (nth ds k).level.toNat) = false) : delsF (ds.drop k) S = none := by
  rw [drop_cons_nth _ _ h]
  unfold delsF
  rw [if_neg (by rw [hn]; decide)]
theorem delsF_some {ds : List Gone} {S : Lv} {k : Nat} (h : k < ds.length) (hn : hasNum (nth ds k).num (S (nth ds k).level.toNat) = true) :
    delsF (ds.drop k) S = delsF (ds.drop (k + 1)) (upd S (nth ds k).level.toNat (remF (nth ds k).num (S (nth ds k).level.toNat))) := by
  rw [drop_cons_nth _ _ h]
  conv => lhs; unfold delsF
  rw [if_pos hn]
theorem addsF_bad {fs : List File} {S : Lv} {k : Nat} (h : k < fs.length) (hn : addE S (nth fs k) ≠ 0) : addsF (fs.drop k) S = (addE S (nth fs k), noneV) := by
  rw [drop_cons_nth _ _ h]
  unfold addsF
  rw [if_pos hn]
theorem addsF_good {fs : List File} {S : Lv} {k : Nat} (h : k < fs.length) (hn : addE S (nth fs k) = 0) : addsF (fs.drop k) S = addsF (fs.drop (k + 1)) (upd S (nth fs k).level.toNat (insF (nth fs k) (S (nth fs k).level.toNat))) := by
  rw [drop_cons_nth _ _ h]
  conv => lhs; unfold addsF
  rw [if_neg (by rw [hn]; decide)]
end Go.Proofs.Ytoonhcmeklmnlaa
