/- Sorting numbers: slices.Sort, slices.Compact. -/
import Derived.Test.YtoonhcmeklmnlaaSo11
set_option linter.unusedSimpArgs false
set_option linter.unusedVariables false
set_option linter.unnecessarySimpa false

/-! ## (So13) Sorting numbers: what is sorted is a rearrangement; two rearrangements, both in order, are one. -/
namespace Go.Proofs.Ytoonhcmeklmnlaa
open Go.RowKit Go.Rg Go.St

def listOf (f : Nat → Int) (n : Nat) : List Int := (List.range n).map f
theorem listOf_len (f : Nat → Int) (n : Nat) : (listOf f n).length = n := by unfold listOf; simp
theorem swap_perm (f : Nat → Int) (n i j : Nat) (hi : i < n) (hj : j < n) : (listOf (swapF f i j) n).Perm (listOf f n) := by
  let σ : Nat → Nat := fun k => if k = j then i else if k = i then j else k
  have e : listOf (swapF f i j) n = ((List.range n).map σ).map f := by
    unfold listOf
    rw [List.map_map]
    refine List.map_congr_left fun k _ => ?_
    show swapF f i j k = f (σ k)
    unfold swapF
    show _ = f (if k = j then i else if k = i then j else k)
    split
    · rfl
    · split <;> rfl
  rw [e]
  refine List.Perm.map f ?_
  have inv : ∀ k, σ (σ k) = k := fun k => by
    show (if (if k = j then i else if k = i then j else k) = j then i else if (if k = j then i else if k = i then j else k) = i then j else (if k = j then i else if k = i then j else k)) = k
    by_cases h1 : k = j
    · subst h1
      by_cases h2 : i = k
      · subst h2; simp
      · simp [h2]
    · by_cases h2 : k = i
      · subst h2; simp [h1]
      · simp [h1, h2]
  have hlt : ∀ k, k < n → σ k < n := fun k hk => by
    show (if k = j then i else if k = i then j else k) < n
    split
    · exact hi
    · split
      · exact hj
      · exact hk
  refine (List.perm_ext_iff_of_nodup ?_ List.nodup_range).2 fun x => ?_
  · exact List.Pairwise.map _ (fun a b h e => h (by rw [← inv a, ← inv b, e])) List.nodup_range
  · rw [List.mem_map, List.mem_range]
    constructor
    · rintro ⟨k, hk, rfl⟩
      exact hlt k (List.mem_range.1 hk)
    · intro hx
      exact ⟨σ x, List.mem_range.2 (hlt x hx), inv x⟩
theorem re_perm {n : Nat} {f g : Nat → Int} (h : Re 0 n f g) : (listOf g n).Perm (listOf f n) := by
  induction h with
  | refl => exact List.Perm.refl _
  | step i j _ _ hi _ hj ih => exact (swap_perm _ n i j hi hj).trans ih
theorem srt_list {g : Nat → Int} {n : Nat} (h : Srt g 0 n) : (listOf g n).Pairwise (· ≤ ·) := by
  unfold listOf
  refine List.pairwise_iff_getElem.2 fun i j hi hj hij => ?_
  simp at hi hj ⊢
  exact srt_pair h i j (Nat.zero_le _) hij hj
theorem sorted_perm : ∀ {a b : List Int}, a.Pairwise (· ≤ ·) → b.Pairwise (· ≤ ·) → a.Perm b → a = b
  | [], b, _, _, h => by rw [List.nil_perm] at h; exact h.symm
  | x :: a, [], _, _, h => by rw [List.perm_nil] at h; exact h
  | x :: a, y :: b, ha, hb, h => by
    obtain ⟨a1, a2⟩ := List.pairwise_cons.1 ha
    obtain ⟨b1, b2⟩ := List.pairwise_cons.1 hb
    have e : x = y := by
      have h1 : x ∈ y :: b := h.mem_iff.1 List.mem_cons_self
      have h2 : y ∈ x :: a := h.mem_iff.2 List.mem_cons_self
      rcases List.mem_cons.1 h1 with h1 | h1
      · exact h1
      · rcases List.mem_cons.1 h2 with h2 | h2
        · exact h2.symm
        · have := a1 y h2; have := b1 x h1; omega
    subst e
    rw [sorted_perm a2 b2 (List.Perm.cons_inv h)]
theorem list_of_get (l : List Int) : listOf (fun k => (l[k]?).getD 0) l.length = l := by
  unfold listOf
  refine List.ext_getElem (by simp) fun i h1 h2 => ?_
  simp [h2]
end Go.Proofs.Ytoonhcmeklmnlaa

/-! ## (So12) Sorting numbers: slices.Sort, slices.Compact. -/
namespace Go.Proofs.Ytoonhcmeklmnlaa
open Go.RowKit Go.Rg Go.St Go.Shelf Go.Lib Go.Sort

theorem bitLen_small (n : Nat) (hn : n < 4611686018427387904) : Lib.bitLen n < 1000000 := by
  rw [bitLen_eq _ (by omega)]
  have := (bitsLen_le_iff n 62).2 (by omega)
  omega
set_option maxRecDepth 100000 in
set_option maxHeartbeats 2000000 in
theorem sort_in (b cap n : Nat) (f : Nat → Int) (w : World) (h : RowU b cap n f w) (h3 : n ≤ 2305843009213693952) :
    Calls Try.prog 83 #[.slice (some ⟨b, 0, none⟩) n cap] w (SortP b cap n 0 n f w (fun g => Srt g 0 n)) := by
  have H := hid h
  clear h
  have hwn : IntKind.u64.wrap (n : Int) = n := by simp [IntKind.wrap, IntKind.bits, IntKind.signed]; omega
  go_enter Try.func83, Try.ntmps83
  go_wp2_with fail
  refine (Try.bits_Len (n : Int) _ (by omega) (by omega)).mono ?_
  rintro e w' ⟨rfl, rfl⟩
  rw [Int.toNat_natCast]
  have hL := bitLen_small n (by omega)
  generalize Lib.bitLen n = L at *
  have hpd := pdq_in b cap n h3 n f 0 n L w' (by omega) H.out (Nat.zero_le _) (Nat.le_refl _) hL (fun h => absurd h (by omega))
  have HPD := hid hpd
  clear hpd
  go_wp2_with fail
  refine HPD.out.mono ?_
  rintro e w2 ⟨rfl, h⟩
  have H2 := hid h
  clear h
  go_wp2_with fail
  go_end0
  exact ⟨rfl, H2.out⟩
set_option maxRecDepth 100000 in
theorem sort_nil (w : World) :
    Calls Try.prog 83 #[.slice none 0 0] w (fun e w' => e = .returned (.tuple #[]) ∧ Ext w w') := by
  have hins : ∀ w, Calls Try.prog 116 #[.slice none 0 0, .int .i64 0, .int .i64 0] w (fun e w' => e = .returned (.tuple #[]) ∧ Ext w w') := fun w => by
    go_enter Try.func116, Try.ntmps116
    go_wp2_with fail
    go_loopw [6] (fun t wr => t = .int .i64 1 ∧ Ext w wr) (fun t _ => 0)
    case atStart => exact ⟨rfl, Ext.rfl _⟩
    case round =>
      obtain ⟨rfl, he⟩ := hrel
      have HE := hid he
      clear he
      go_wp2_with fail
      go_end0
      exact ⟨rfl, HE.out⟩
  have hpdq : ∀ w, Calls Try.prog 104 #[.slice none 0 0, .int .i64 0, .int .i64 0, .int .i64 0] w (fun e w' => e = .returned (.tuple #[]) ∧ Ext w w') := fun w => by
    go_enter Try.func104, Try.ntmps104
    go_wp2_with fail
    go_loopw [1, 2, 3, 8, 9] (fun ta te tl tb tp wr => ta = .int .i64 0 ∧ te = .int .i64 0 ∧ tl = .int .i64 0 ∧ tb = .bool true ∧ tp = .bool true ∧ Ext w wr) (fun _ _ _ _ _ _ => 0)
    case atStart => exact ⟨rfl, rfl, rfl, rfl, rfl, Ext.rfl _⟩
    case round =>
      obtain ⟨rfl, rfl, rfl, rfl, rfl, he⟩ := hrel
      have HE := hid he
      clear he
      go_wp2_with fail
      refine (hins _).mono ?_
      rintro e w2 ⟨rfl, h2⟩
      have H2 := hid (HE.out.tr h2)
      clear h2
      go_wp2_with fail
      refine bodyPost_ret (results_none rfl _ _ _) rfl ?_
      exact ⟨rfl, H2.out⟩
  go_enter Try.func83, Try.ntmps83
  go_wp2_with fail
  refine (Try.bits_Len 0 _ (by omega) (by omega)).mono ?_
  rintro e w' ⟨rfl, rfl⟩
  rw [show Lib.bitLen (Int.toNat 0) = 0 from rfl]
  go_wp2_with fail
  refine (hpdq _).mono ?_
  rintro e w2 ⟨rfl, h⟩
  have H2 := hid h
  clear h
  go_wp2_with fail
  go_end0
  exact ⟨rfl, H2.out⟩
/-- a row of numbers of the call's own: none, or a block -/
theorem row_of {base n : Nat} {s : Value} {vs : List Int} {w : World} (h : w.ownsRow base 36 1 s n (vs.map (Value.int .u64))) (hn : n = vs.length) :
    (s = .slice none 0 0 ∧ vs = []) ∨ ∃ b cap, s = .slice (some ⟨b, 0, none⟩) n cap ∧ RowU b cap n (fun k => (vs[k]?).getD 0) w ∧ cap ≤ maxLen ∧ base ≤ b := by
  rcases h.2 with ⟨h0, h1⟩ | ⟨g, cap, cur, rfl, hb, hg, hnc, hm, hcs, htk⟩
  · have hv : vs = [] := by
      have := h.1
      cases vs with
      | nil => rfl
      | cons a t => simp_all
    exact .inl ⟨h0, hv⟩
  · refine .inr ⟨g, cap, rfl, ⟨cur, hg, by omega, hnc, fun i hi => ?_⟩, hm, hb⟩
    have h2 : (cur.toList.take (n * 1))[i]? = some (.int .u64 ((vs[i]?).getD 0)) := by
      rw [htk, List.getElem?_map, List.getElem?_eq_getElem (by omega : i < vs.length)]; rfl
    rw [List.getElem?_take, if_pos (by omega)] at h2
    simpa using h2
end Go.Proofs.Ytoonhcmeklmnlaa
