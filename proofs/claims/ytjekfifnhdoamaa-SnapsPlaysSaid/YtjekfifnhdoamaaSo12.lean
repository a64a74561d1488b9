/- Sorting numbers: slices.Sort, slices.Compact. -/
import Derived.Test.YtjekfifnhdoamaaSo11
import Derived.Shelf.SlicesE.Compact
set_option linter.unusedSimpArgs false
set_option linter.unusedVariables false
set_option linter.unnecessarySimpa false
namespace Go.Proofs.Ytjekfifnhdoamaa
open Go.RowKit Go.Rg Go.St Go.Shelf Go.Lib Go.Sort

theorem bitLen_small (n : Nat) (hn : n < 4611686018427387904) : Lib.bitLen n < 1000000 := by
  rw [bitLen_eq _ (by omega)]
  have := (bitsLen_le_iff n 62).2 (by omega)
  omega
set_option maxRecDepth 100000 in
set_option maxHeartbeats 2000000 in
theorem sort_in (b cap n : Nat) (f : Nat → Int) (w : World) (h : RowU b cap n f w) (h3 : n ≤ 2305843009213693952) :
    Calls Try.prog 45 #[.slice (some ⟨b, 0, none⟩) n cap] w (SortP b cap n 0 n f w (fun g => Srt g 0 n)) := by
  have H := hid h
  clear h
  have hwn : IntKind.u64.wrap (n : Int) = n := by simp [IntKind.wrap, IntKind.bits, IntKind.signed]; omega
  go_enter Try.func45, Try.ntmps45
  go_wp2_with fail
  refine (Try.bits_Len (n : Int) _ (by omega) (by omega)).mono ?_
  rintro e w' ⟨rfl, rfl⟩
  rw [Int.toNat_natCast]
  have hL := bitLen_small n (by omega)
  generalize Lib.bitLen n = L at *
  have hpd := pdq_in b cap n h3 n f 0 n L w' (by omega) H.out (Nat.zero_le _) (Nat.le_refl _) hL (fun h => absurd h (by omega))
  have HPD := hid hpd
  clear hpd
  go_wp2_with fail
  refine HPD.out.mono ?_
  rintro e w2 ⟨rfl, h⟩
  have H2 := hid h
  clear h
  go_wp2_with fail
  go_end0
  exact ⟨rfl, H2.out⟩
set_option maxRecDepth 100000 in
theorem sort_nil (w : World) :
    Calls Try.prog 45 #[.slice none 0 0] w (fun e w' => e = .returned (.tuple #[]) ∧ Ext w w') := by
  have hins : ∀ w, Calls Try.prog 80 #[.slice none 0 0, .int .i64 0, .int .i64 0] w (fun e w' => e = .returned (.tuple #[]) ∧ Ext w w') := fun w => by
    go_enter Try.func80, Try.ntmps80
    go_wp2_with fail
    go_loopw [6] (fun t wr => t = .int .i64 1 ∧ Ext w wr) (fun t _ => 0)
    case atStart => exact ⟨rfl, Ext.rfl _⟩
    case round =>
      obtain ⟨rfl, he⟩ := hrel
      have HE := hid he
      clear he
      go_wp2_with fail
      go_end0
      exact ⟨rfl, HE.out⟩
  have hpdq : ∀ w, Calls Try.prog 69 #[.slice none 0 0, .int .i64 0, .int .i64 0, .int .i64 0] w (fun e w' => e = .returned (.tuple #[]) ∧ Ext w w') := fun w => by
    go_enter Try.func69, Try.ntmps69
    go_wp2_with fail
    go_loopw [1, 2, 3, 8, 9] (fun ta te tl tb tp wr => ta = .int .i64 0 ∧ te = .int .i64 0 ∧ tl = .int .i64 0 ∧ tb = .bool true ∧ tp = .bool true ∧ Ext w wr) (fun _ _ _ _ _ _ => 0)
    case atStart => exact ⟨rfl, rfl, rfl, rfl, rfl, Ext.rfl _⟩
    case round =>
      obtain ⟨rfl, rfl, rfl, rfl, rfl, he⟩ := hrel
      have HE := hid he
      clear he
      go_wp2_with fail
      refine (hins _).mono ?_
      rintro e w2 ⟨rfl, h2⟩
      have H2 := hid (HE.out.tr h2)
      clear h2
      go_wp2_with fail
      refine bodyPost_ret (results_none rfl _ _ _) rfl ?_
      exact ⟨rfl, H2.out⟩
  go_enter Try.func45, Try.ntmps45
  go_wp2_with fail
  refine (Try.bits_Len 0 _ (by omega) (by omega)).mono ?_
  rintro e w' ⟨rfl, rfl⟩
  rw [show Lib.bitLen (Int.toNat 0) = 0 from rfl]
  go_wp2_with fail
  refine (hpdq _).mono ?_
  rintro e w2 ⟨rfl, h⟩
  have H2 := hid h
  clear h
  go_wp2_with fail
  go_end0
  exact ⟨rfl, H2.out⟩
set_option maxRecDepth 100000 in
theorem compact_nil (w : World) :
    Calls Try.prog 46 #[.slice none 0 0] w (fun e w' => e = .returned (.slice none 0 0) ∧ w = w') := by
  go_enter Try.func46, Try.ntmps46
  go_wp2_with fail
  go_ret
  exact ⟨rfl, rfl⟩

def cp_ren : Go.Shelf.Ren := ⟨fun | 43 => 46 | n => n, fun | 22 => 39 | 23 => 30 | n => n, fun n => n⟩
theorem cp_lays : SlLaysE.n43 Try.prog cp_ren := {
  mixed := by kernel_rfl
  f43 := ⟨"slices.Compact[[]uint64,uint64]", by decide, Try.func46.trans (congrArg some (by kernel_rfl))⟩
  t0 := Try.underlying0
  a0 := Try.isAgg0
  z0 := Try.sizeOf0
  v0 := Try.zeroValue0
  t3 := Try.underlying3
  a3 := Try.isAgg3
  z3 := Try.sizeOf3
  v3 := Try.zeroValue3
  t4 := Try.underlying4
  a4 := Try.isAgg4
  z4 := Try.sizeOf4
  v4 := Try.zeroValue4
  t22 := Try.underlying39
  a22 := Try.isAgg39
  z22 := Try.sizeOf39
  v22 := Try.zeroValue39
  a23 := Try.isAgg30
  z23 := Try.sizeOf30 }

/-- the numbers ahead of n -/
def rowOf (f : Nat → Int) (n : Nat) : Array Int := ((List.range n).map f).toArray
theorem rowOf_size (f : Nat → Int) (n : Nat) : (rowOf f n).size = n := by simp [rowOf]
theorem rowOf_get (f : Nat → Int) (n : Nat) {k : Nat} (hk : k < n) : (rowOf f n)[k]! = f k := by
  rw [getElem!_pos _ k (by rw [rowOf_size]; exact hk)]
  simp [rowOf]
theorem cp_sorted (f : Nat → Int) (n : Nat) (hs : Srt f 0 n) : ∀ m, m ≤ n → (compactUpTo (rowOf f n) m).Pairwise (· < ·) ∧ ∀ v, v ∈ compactUpTo (rowOf f n) m ↔ ∃ k, k < m ∧ f k = v := by
  intro m
  induction m with
  | zero => intro _; exact ⟨List.Pairwise.nil, fun v => ⟨fun h => (by cases h), fun ⟨k, hk, _⟩ => (by omega)⟩⟩
  | succ m ih =>
    intro hm
    obtain ⟨h1, h2⟩ := ih (by omega)
    rw [compactUpTo_succ]
    by_cases hk : keeps (rowOf f n) m = true
    · rw [if_pos hk, rowOf_get f n (by omega)]
      have hgt : ∀ x, x ∈ compactUpTo (rowOf f n) m → x < f m := fun x hx => by
        obtain ⟨k, k1, rfl⟩ := (h2 x).1 hx
        have hne : f m ≠ f (m - 1) := by
          unfold keeps at hk
          rw [rowOf_get f n (by omega), rowOf_get f n (by omega)] at hk
          rcases (of_decide_eq_true hk) with h | h
          · omega
          · exact h
        have h3 : f (m - 1) ≤ f m := by
          have := hs (m - 1) (Nat.zero_le _) (by omega)
          rwa [show m - 1 + 1 = m by omega] at this
        have h4 : f k ≤ f (m - 1) := by
          rcases Nat.lt_or_ge k (m - 1) with c | c
          · exact srt_pair hs k (m - 1) (Nat.zero_le _) c (by omega)
          · rw [show k = m - 1 by omega]; exact Int.le_refl _
        omega
      refine ⟨List.pairwise_append.2 ⟨h1, List.pairwise_singleton _ _, fun x hx y hy => ?_⟩, fun v => ?_⟩
      · rw [List.mem_singleton] at hy; subst hy; exact hgt x hx
      · rw [List.mem_append, List.mem_singleton, h2]
        constructor
        · rintro (⟨k, k1, k2⟩ | rfl)
          · exact ⟨k, by omega, k2⟩
          · exact ⟨m, by omega, rfl⟩
        · rintro ⟨k, k1, k2⟩
          rcases Nat.lt_or_ge k m with c | c
          · exact .inl ⟨k, c, k2⟩
          · obtain rfl : k = m := by omega
            exact .inr k2.symm
    · rw [if_neg hk, List.append_nil]
      refine ⟨h1, fun v => (h2 v).trans ?_⟩
      constructor
      · rintro ⟨k, k1, k2⟩; exact ⟨k, by omega, k2⟩
      · rintro ⟨k, k1, k2⟩
        rcases Nat.lt_or_ge k m with c | c
        · exact ⟨k, c, k2⟩
        · obtain rfl : k = m := by omega
          have : ¬ (k = 0 ∨ f k ≠ f (k - 1)) := by
            unfold keeps at hk
            rw [rowOf_get f n (by omega), rowOf_get f n (by omega)] at hk
            simpa using hk
          exact ⟨k - 1, by omega, by rw [← k2]; omega⟩
/-- numbers rising, no two alike -/
def Rise (g : Nat → Int) (m : Nat) : Prop := ∀ i j, i < j → j < m → g i < g j
def Cpt (b cap n : Nat) (f : Nat → Int) (w : World) (e : Ending) (w' : World) : Prop :=
  ∃ (m : Nat) (g : Nat → Int), e = .returned (.slice (some ⟨b, 0, none⟩) m cap) ∧ m ≤ n ∧ RowU b cap m g w' ∧ Below b w w' ∧ Rise g m ∧ ∀ v, (∃ k, k < m ∧ g k = v) ↔ ∃ k, k < n ∧ f k = v
theorem compact_in (b cap n : Nat) (f : Nat → Int) (w : World) (h : RowU b cap n f w) (h3 : n ≤ 2305843009213693952) (hs : Srt f 0 n) :
    Calls Try.prog 46 #[.slice (some ⟨b, 0, none⟩) n cap] w (Cpt b cap n f w) := by
  obtain ⟨cur, hb, hcs, hnc, hcell⟩ := id h
  have hH : Holds (Value.int .u64) w b 0 (rowOf f n) := fun j hj => by
    rw [rowOf_size] at hj
    rw [Nat.zero_add, rowOf_get f n hj]
    exact ⟨h.cell hj, h.frozen j⟩
  have hc := AnyE.slices_Compact cp_lays (Value.int .u64) (fun _ => rfl) (.intD _ _ .u64) (.intD _ _ .u64) 0 Try.zeroValue30 b 0 cap (rowOf f n) w hH (by rw [rowOf_size]; omega) (by rw [rowOf_size]; exact hnc)
  rw [rowOf_size] at hc
  refine hc.mono ?_
  rintro e w' ⟨rfl, q, rfl⟩
  obtain ⟨p1, p2⟩ := cp_sorted f n hs n (Nat.le_refl _)
  have hlen : (compactUpTo (rowOf f n) n).length ≤ n := by
    unfold compactUpTo
    rw [List.length_map]
    exact Nat.le_trans (List.length_filter_le _ _) (by simp)
  generalize compactUpTo (rowOf f n) n = C at *
  have hget : ∀ k, k < C.length → ∃ v, C[k]? = some v := fun k hk => ⟨C[k], List.getElem?_eq_getElem hk⟩
  refine ⟨C.length, fun k => (C[k]?).getD 0, rfl, hlen, ?_, ?_, ?_, ?_⟩
  · refine ⟨putCells (Value.int .u64) 0 (C ++ List.replicate (n - C.length) 0).toArray cur, ?_, by unfold putCells; simp [hcs], by omega, fun i hi => ?_⟩
    · show (w.heap.modify b _)[b]? = _
      rw [Array.getElem?_modify, if_pos rfl, hb]
      rfl
    · unfold putCells
      rw [Array.getElem?_mapIdx]
      obtain ⟨v, hv⟩ := hget i hi
      have hi2 : i < cur.size := by omega
      rw [Array.getElem?_eq_getElem hi2]
      simp only [Option.map_some]
      rw [if_pos ⟨Nat.zero_le _, by simp; omega⟩, Nat.sub_zero, getElem!_pos _ i (by simp; omega)]
      simp [hv, List.getElem_append_left hi]
      rw [List.getElem?_eq_getElem hi] at hv
      exact Option.some.inj hv
  · refine ⟨rfl, rfl, rfl, by simp, fun k hk => ?_⟩
    show (w.heap.modify b _)[k]? = _
    rw [Array.getElem?_modify, if_neg (by omega)]
  · intro i j hij hj
    simp only
    rw [List.getElem?_eq_getElem hj, List.getElem?_eq_getElem (by omega : i < C.length)]
    exact List.pairwise_iff_getElem.1 p1 i j (by omega) hj hij
  · intro v
    rw [← p2 v]
    constructor
    · rintro ⟨k, hk, rfl⟩
      simp only
      rw [List.getElem?_eq_getElem hk]
      exact List.getElem_mem hk
    · intro hv
      obtain ⟨k, hk, rfl⟩ := List.getElem_of_mem hv
      exact ⟨k, hk, by simp only; rw [List.getElem?_eq_getElem hk]; rfl⟩
end Go.Proofs.Ytjekfifnhdoamaa
