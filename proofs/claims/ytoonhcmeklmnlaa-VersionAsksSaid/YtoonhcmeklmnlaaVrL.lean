/- Files that may be together: their numbers, the document's. -/
import Derived.Test.YtoonhcmeklmnlaaVrE
import Derived.Test.YtoonhcmeklmnlaaVrK
set_option linter.unusedSimpArgs false
set_option linter.unusedVariables false
set_option linter.unnecessarySimpa false

/-! ## (VrJ) Files that may be together: the document's Ask. -/
namespace Go.Proofs.Ytoonhcmeklmnlaa
open Go.RowKit Go.Rg Go.St

set_option maxRecDepth 100000 in
set_option maxHeartbeats 2000000 in
theorem rask_in (v0 v1 v2 v3 : Value) (V : Lv) (u : ByteArray) (w : World) (hV : Ver w v0 v1 v2 v3 V) (hn : ∀ n, n < 4 → (V n).length ≤ 200000) :
    Calls Try.prog 48 #[.agg #[v0, v1, v2, v3], .string u] w (FilesExt (askTo u V 4) w) := by
  have HV := hid hV
  have HN := hid hn
  clear hV hn
  go_enter Try.func48, Try.ntmps48
  go_wp2_with fail
  have B0 := hid (heap_alloc_new w (Obj.cells #[v0, v1, v2, v3] 67))
  obtain ⟨B, HBX, HB1⟩ : ∃ B, Hid (∀ w', Below B w w' → Ext w w') ∧ Hid (B = w.heap.size) := ⟨_, fun _ h => h, rfl⟩
  have E1 := hid (show Below B w (w.alloc (Obj.cells #[v0, v1, v2, v3] 67)) by rw [HB1.out]; exact (Ext.rfl w).al _)
  have hlt1 : w.heap.size < (w.alloc (Obj.cells #[v0, v1, v2, v3] 67)).heap.size := by rw [alloc_size]; omega
  generalize w.alloc (Obj.cells #[v0, v1, v2, v3] 67) = w1 at *
  generalize hgq : w.heap.size = g at *
  have HGQ := hid hgq
  clear hgq
  go_loopw [5, 6] (fun o t wr => ∃ n : Nat, n ≤ 4 ∧ t = .int .i64 n ∧ Ext w1 wr ∧ OwnFiles wr w1.heap.size o (askTo u V n)) (fun _ t _ => 4 - (intOf t).toNat)
  case atStart => exact ⟨0, by omega, rfl, Ext.rfl _, World.ownsRow_nil _ _ _ _⟩
  case round =>
    obtain ⟨n, hn, rfl, he, hown⟩ := hrel
    have HE := hid he
    have HO := hid hown
    clear he hown
    by_cases hlt : n < 4
    · have HVR := hid (HV.out.go (HBX.out _ (Below.trans E1.out (Below.mono HE.out (Nat.le_of_lt (by rw [HB1.out]; exact hlt1))))))
      obtain ⟨c0, c1, c2, c3⟩ := ver_cells ((HE.out.block _ hlt1).trans B0.out)
      have dn : decide ((n : Int) < 4) = true := decide_eq_true (by omega)
      have hal := askTo_len u V HN.out n (by omega)
      have hol := HN.out n hlt
      have hfl : (ovs u u (V n)).length ≤ (V n).length := List.length_filter_le _ _
      go_wp2_with fail
      refine (rover_in v0 v1 v2 v3 V n _ rfl hlt u u _ HVR.out (by omega)).mono ?_
      rintro e w2 ⟨v2', rfl, ho, he2⟩
      have E2 := hid (HE.out.tr he2)
      have O2 := hid (owns_ext HO.out he2)
      clear c0 c1 c2 c3 he2
      rcases own_news ho with ⟨ad, c, rfl, hnews⟩ | ⟨rfl, hnil⟩
      · have HNW := hid hnews
        clear hnews ho
        go_wp2_with (at_builtin; refine wpList_app el_file rfl O2.out rfl (flat_len _) HNW.out (one_files _) (by omega) E2.out.size ?_; intro v' w4 hown4 hg4 hb4; have O4 := hid hown4; have E4 := hid (Below.trans E2.out hb4); clear hown4 hg4 hb4)
        go_roundw
        case rel =>
          refine ⟨n + 1, by omega, by go_num, E4.out, ?_⟩
          have := O4.out
          unfold OwnFiles
          show World.ownsRow _ _ _ _ _ (askTo u V n ++ ovs u u (V n)).length ((askTo u V n ++ ovs u u (V n)).flatMap eFile)
          rw [List.length_append, List.flatMap_append]
          exact this
        case measure => simp [intOf]; omega
      · have hap : askTo u V (n + 1) = askTo u V n := by show _ ++ ovs u u (V n) = _; rw [hnil, List.append_nil]
        have HAP := hid hap
        clear ho hap hnil
        have hform : ∃ a cap, u5 = .slice a (askTo u V n).length cap ∧ (askTo u V n).length ≤ cap := by
          rcases O2.out.2 with ⟨e1, e2⟩ | ⟨g, cap, cur, e1, _, _, hnc, _⟩
          · exact ⟨none, 0, by rw [e1, e2], by omega⟩
          · exact ⟨_, cap, e1, hnc⟩
        obtain ⟨a, cap, rfl, hac⟩ := hform
        go_wp2_with (at_builtin; refine wpList_appF rfl _ _ _ _ rfl _ _ rfl rfl (run_app_nil _ _ _ _ _ hac) ?_)
        go_roundw
        case rel => exact ⟨n + 1, by omega, by go_num, E2.out, by rw [HAP.out]; exact O2.out⟩
        case measure => simp [intOf]; omega
    · obtain rfl : n = 4 := by omega
      go_wp2_with fail
      go_ret
      exact ⟨_, rfl, owns_base HO.out (by rw [HGQ.out]; exact Nat.le_of_lt hlt1), HBX.out _ (Below.trans E1.out (Below.mono HE.out (Nat.le_of_lt (by rw [HB1.out]; exact hlt1))))⟩

end Go.Proofs.Ytoonhcmeklmnlaa

/-! ## (VrM) Files that may be together: levels that are none. -/
namespace Go.Proofs.Ytoonhcmeklmnlaa
open Go.RowKit Go.Rg Go.St

def NilP (w : World) (e : Ending) (w' : World) : Prop := e = .returned (.slice none 0 0) ∧ Ext w w'
set_option maxRecDepth 100000 in
theorem over_out (v0 v1 v2 v3 : Value) (k : Int) (hk : k < 0 ∨ 4 ≤ k) (a b : ByteArray) (w : World) :
    Calls Try.prog 45 #[.agg #[v0, v1, v2, v3], .int .i64 k, .string a, .string b] w (NilP w) := by
  have hx := (Ext.rfl w).al (Obj.cells #[v0, v1, v2, v3] 67)
  rcases hk with hk | hk
  · have d1 : decide (k < 0) = true := decide_eq_true hk
    go_enter Try.func45, Try.ntmps45
    go_wp2_with fail
    go_ret
    exact ⟨rfl, hx⟩
  · have d1 : decide (k < 0) = false := decide_eq_false (by omega)
    have d2 : decide (4 ≤ k) = true := decide_eq_true hk
    have n1 : ¬ k < 0 := by omega
    go_enter Try.func45, Try.ntmps45
    go_wp2_with fail
    go_ret
    exact ⟨rfl, hx⟩
set_option maxRecDepth 100000 in
theorem rover_out (v0 v1 v2 v3 : Value) (k : Int) (hk : k < 0 ∨ 4 ≤ k) (a b : ByteArray) (w : World) :
    Calls Try.prog 46 #[.agg #[v0, v1, v2, v3], .int .i64 k, .string a, .string b] w (NilP w) := by
  have hx := (Ext.rfl w).al (Obj.cells #[v0, v1, v2, v3] 67)
  rcases hk with hk | hk
  · have d1 : decide (k < 0) = true := decide_eq_true hk
    go_enter Try.func46, Try.ntmps46
    go_wp2_with fail
    go_ret
    exact ⟨rfl, hx⟩
  · have d1 : decide (k < 0) = false := decide_eq_false (by omega)
    have d2 : decide (4 ≤ k) = true := decide_eq_true hk
    have n1 : ¬ k < 0 := by omega
    go_enter Try.func46, Try.ntmps46
    go_wp2_with fail
    go_ret
    exact ⟨rfl, hx⟩
set_option maxRecDepth 100000 in
theorem size_out (v0 v1 v2 v3 : Value) (k : Int) (hk : k < 0 ∨ 4 ≤ k) (w : World) :
    Calls Try.prog 51 #[.agg #[v0, v1, v2, v3], .int .i64 k] w (SizePost 0 w) := by
  have hx := (Ext.rfl w).al (Obj.cells #[v0, v1, v2, v3] 67)
  rcases hk with hk | hk
  · have d1 : decide (k < 0) = true := decide_eq_true hk
    go_enter Try.func51, Try.ntmps51
    go_wp2_with fail
    go_ret
    exact ⟨rfl, hx⟩
  · have d1 : decide (k < 0) = false := decide_eq_false (by omega)
    have d2 : decide (4 ≤ k) = true := decide_eq_true hk
    have n1 : ¬ k < 0 := by omega
    go_enter Try.func51, Try.ntmps51
    go_wp2_with fail
    go_ret
    exact ⟨rfl, hx⟩
set_option maxRecDepth 100000 in
theorem rsize_out (v0 v1 v2 v3 : Value) (k : Int) (hk : k < 0 ∨ 4 ≤ k) (w : World) :
    Calls Try.prog 52 #[.agg #[v0, v1, v2, v3], .int .i64 k] w (SizePost 0 w) := by
  have hx := (Ext.rfl w).al (Obj.cells #[v0, v1, v2, v3] 67)
  rcases hk with hk | hk
  · have d1 : decide (k < 0) = true := decide_eq_true hk
    go_enter Try.func52, Try.ntmps52
    go_wp2_with fail
    go_ret
    exact ⟨rfl, hx⟩
  · have d1 : decide (k < 0) = false := decide_eq_false (by omega)
    have d2 : decide (4 ≤ k) = true := decide_eq_true hk
    have n1 : ¬ k < 0 := by omega
    go_enter Try.func52, Try.ntmps52
    go_wp2_with fail
    go_ret
    exact ⟨rfl, hx⟩
end Go.Proofs.Ytoonhcmeklmnlaa

/-! ## (VrL) Files that may be together: their numbers, the document's. -/
namespace Go.Proofs.Ytoonhcmeklmnlaa
open Go.RowKit Go.Rg Go.St

/-- a number laid into its place -/
def insN (x : Int) : List Int → List Int
  | [] => [x]
  | y :: l => if x < y then x :: y :: l else y :: insN x l
theorem insN_len (x : Int) : ∀ l, (insN x l).length = l.length + 1
  | [] => rfl
  | y :: l => by
    unfold insN
    split
    · rfl
    · rw [List.length_cons, insN_len x l, List.length_cons]
theorem insN_perm (x : Int) : ∀ l, (insN x l).Perm (x :: l)
  | [] => List.Perm.refl _
  | y :: l => by
    unfold insN
    split
    · exact List.Perm.refl _
    · exact (List.Perm.cons y (insN_perm x l)).trans (List.Perm.swap _ _ _)
theorem insN_sorted (x : Int) : ∀ {l : List Int}, l.Pairwise (· ≤ ·) → (insN x l).Pairwise (· ≤ ·)
  | [], _ => List.pairwise_singleton _ _
  | y :: l, h => by
    obtain ⟨h1, h2⟩ := List.pairwise_cons.1 h
    unfold insN
    by_cases c : x < y
    · rw [if_pos c]
      refine List.pairwise_cons.2 ⟨fun z hz => ?_, h⟩
      rcases List.mem_cons.1 hz with rfl | hz
      · omega
      · have := h1 z hz; omega
    · rw [if_neg c]
      refine List.pairwise_cons.2 ⟨fun z hz => ?_, insN_sorted x h2⟩
      rcases List.mem_cons.1 ((insN_perm x l).mem_iff.1 hz) with rfl | hz
      · omega
      · exact h1 z hz
/-- what the loop has laid of the first k; whether it is done -/
def insTo' (x : Int) (l : List Int) (k : Nat) : List Int × Bool := if (l.take k).any (fun y => decide (x < y)) then (insN x (l.take k), true) else (l.take k, false)
theorem insN_done {x : Int} : ∀ {l : List Int} {y : Int}, l.any (fun y => decide (x < y)) = true → insN x (l ++ [y]) = insN x l ++ [y]
  | [], y, h => by cases h
  | z :: l, y, h => by
    show (if x < z then x :: z :: (l ++ [y]) else z :: insN x (l ++ [y])) = (if x < z then x :: z :: l else z :: insN x l) ++ [y]
    by_cases c : x < z
    · rw [if_pos c, if_pos c]; rfl
    · rw [if_neg c, if_neg c]
      rw [insN_done (l := l) (by simpa [c] using h)]
      rfl
theorem insN_here {x y : Int} (hy : x < y) : ∀ {l : List Int}, l.any (fun y => decide (x < y)) = false → insN x (l ++ [y]) = l ++ [x] ++ [y]
  | [], _ => by unfold insN; simp [hy]
  | z :: l, h => by
    simp only [List.any_cons, Bool.or_eq_false_iff, decide_eq_false_iff_not] at h
    show (if x < z then x :: z :: (l ++ [y]) else z :: insN x (l ++ [y])) = _
    rw [if_neg h.1, insN_here hy h.2]
    rfl
theorem insN_end {x : Int} : ∀ {l : List Int}, l.any (fun y => decide (x < y)) = false → insN x l = l ++ [x]
  | [], _ => rfl
  | z :: l, h => by
    simp only [List.any_cons, Bool.or_eq_false_iff, decide_eq_false_iff_not] at h
    unfold insN
    rw [if_neg h.1, insN_end h.2]
    rfl
theorem insTo_step (x : Int) (l : List Int) {k : Nat} (hk : k < l.length) : insTo' x l (k + 1) =
    if (insTo' x l k).2 = true then ((insTo' x l k).1 ++ [l[k]], true) else if x < l[k] then ((insTo' x l k).1 ++ [x] ++ [l[k]], true) else ((insTo' x l k).1 ++ [l[k]], false) := by
  have e : l.take (k + 1) = l.take k ++ [l[k]] := by rw [List.take_add_one, List.getElem?_eq_getElem hk]; rfl
  unfold insTo'
  rw [e, List.any_append]
  clear e
  generalize l.take k = p at *
  generalize l[k] = y at *
  cases h : p.any (fun y => decide (x < y)) with
  | true => simp [insN_done h]
  | false =>
    by_cases c : x < y
    · simp [c, insN_here c h]
    · simp [c]
theorem insTo_end (x : Int) (l : List Int) : insN x l = if (insTo' x l l.length).2 = true then (insTo' x l l.length).1 else (insTo' x l l.length).1 ++ [x] := by
  unfold insTo'
  rw [List.take_length]
  cases h : l.any (fun y => decide (x < y)) with
  | true => simp
  | false => simp [insN_end h]

def insAll (l : List Int) : List Int := l.foldl (fun o x => insN x o) []
theorem insAll_snoc (l : List Int) (x : Int) : insAll (l ++ [x]) = insN x (insAll l) := by unfold insAll; rw [List.foldl_append]; rfl
theorem foldN (l : List Int) : ∀ o : List Int, (l.foldl (fun o x => insN x o) o).length = o.length + l.length ∧ (l.foldl (fun o x => insN x o) o).Perm (l ++ o) ∧ (o.Pairwise (· ≤ ·) → (l.foldl (fun o x => insN x o) o).Pairwise (· ≤ ·)) := by
  induction l with
  | nil => intro o; exact ⟨rfl, List.Perm.refl _, fun h => h⟩
  | cons x l ih =>
    intro o
    obtain ⟨h1, h2, h3⟩ := ih (insN x o)
    rw [List.foldl_cons]
    refine ⟨by rw [h1, insN_len, List.length_cons]; omega, h2.trans ?_, fun h => h3 (insN_sorted x h)⟩
    exact (List.Perm.append_left l (insN_perm x o)).trans List.perm_middle
theorem insAll_len (l : List Int) : (insAll l).length = l.length := by have := (foldN l []).1; simpa [insAll] using this
theorem insAll_perm (l : List Int) : (insAll l).Perm l := by have := (foldN l []).2.1; simpa [insAll] using this
theorem insAll_sorted (l : List Int) : (insAll l).Pairwise (· ≤ ·) := (foldN l []).2.2 List.Pairwise.nil
theorem ownU_slU {w : World} {base : Nat} {v : Value} {out : List Int} (h : OwnU w base v out) : Sl1 w v out.length (fun i => .int .u64 ((out[i]?).getD 0)) :=
  Sl1.cong (owns_sl1 h) fun i hi => by simp [hi]
set_option maxRecDepth 100000 in
set_option maxHeartbeats 8000000 in
theorem rnums_in (v0 v1 v2 v3 : Value) (V : Lv) (w : World) (hV : Ver w v0 v1 v2 v3 V) (hn : ∀ n, n < 4 → (V n).length ≤ 200000) :
    Calls Try.prog 50 #[.agg #[v0, v1, v2, v3]] w (NumsP (seenL V 4 0) w) := by
  have HV := hid hV
  have HN := hid hn
  clear hV hn
  go_enter Try.func50, Try.ntmps50
  go_wp2_with fail
  have B0 := hid (heap_alloc_new w (Obj.cells #[v0, v1, v2, v3] 67))
  have E0 := hid (show Ext w (w.alloc (Obj.cells #[v0, v1, v2, v3] 67)) from (Ext.rfl w).al _)
  generalize w.alloc (Obj.cells #[v0, v1, v2, v3] 67) = w1 at *
  generalize w.heap.size = g0 at *
  go_loopw [3, 4] (fun o t wr => ∃ n : Nat, n ≤ 4 ∧ t = .int .i64 n ∧ Ext w1 wr ∧ OwnU wr w1.heap.size o (insAll (seenL V n 0))) (fun _ t _ => 4 - (intOf t).toNat)
  case atStart => exact ⟨0, by omega, rfl, Ext.rfl _, World.ownsRow_nil _ _ _ _⟩
  case round =>
    obtain ⟨n, hn, rfl, he, ho⟩ := hrel
    have HE := hid he
    have HO := hid ho
    clear he ho
    by_cases hlt : n < 4
    · obtain ⟨a, cap, ep, hcap, hm, hc⟩ := (HV.out.at hlt).ex
      unfold maxLen at hm
      have HC := hid hc
      have HP := hid ep
      clear hc ep
      have hn0 : (0 : Int) ≤ (n : Int) := by omega
      have hn4 : (n : Int) < 4 := by omega
      go_wp2_with fail
      go_loopw [3, 5] (fun o t wr => ∃ i : Nat, i ≤ (V n).length ∧ t = .int .i64 i ∧ Ext w1 wr ∧ OwnU wr w1.heap.size o (insAll (seenL V n i))) (fun _ t _ => (V n).length - (intOf t).toNat)
      case atStart => exact ⟨0, Nat.zero_le _, rfl, HE.out, HO.out⟩
      case round =>
        clear HE HO
        obtain ⟨i, hi, rfl, he, ho⟩ := hrel
        have HE := hid he
        have HO := hid ho
        clear he ho
        have hcl := ver_at ((HE.out.block _ (vblk_lt B0.out)).trans B0.out) hlt
        rw [HP.out] at hcl
        by_cases hil : i < (V n).length
        · obtain ⟨b, off, rfl, hcell⟩ := HC.out (by omega)
          obtain ⟨c0, c1, c2, c3, c4, c5, c6, c7, c8⟩ := SlS.at9 (w := wr) (enc := eFile) (xs := V n) (k := i) (fun k hk => ext_cellq (E0.out.tr HE.out) (hcell i hil k hk) hk rfl) rfl
          have HNX := hid (seenL_next V n i hil)
          have hll := HN.out n hlt
          have hsl := seenL_len HN.out n hn i (Nat.le_trans hi hll)
          have HLN := hid (show (insAll (seenL V n i)).length ≤ 1000000 by rw [insAll_len]; omega)
          have HIA := hid (show ∀ x, insAll (seenL V n i ++ [x]) = insN x (insAll (seenL V n i)) from insAll_snoc _)
          clear hcell hsl
          generalize nth (V n) i = f at *
          have HNX2 := hid (show insAll (seenL V n (i + 1)) = insN f.num (insAll (seenL V n i)) by rw [HNX.out, HIA.out])
          clear HNX HIA
          generalize insAll (seenL V n i) = P at *
          obtain ⟨aP, cP, rfl, _⟩ := slice_of HO.out
          obtain ⟨x, hx⟩ : ∃ x, x = f.num := ⟨_, rfl⟩
          rw [← hx] at HNX2 c1
          clear hx
          obtain ⟨B1, HX1, HB1⟩ : ∃ B1, Hid (∀ w', Below B1 wr w' → Ext wr w') ∧ Hid (B1 = wr.heap.size) := ⟨_, fun _ h => h, rfl⟩
          have HBE := hid (fun (w' : World) (h : Ext wr w') => (show Below B1 wr w' by rw [HB1.out]; exact h))
          have HEW := hid (fun (w' : World) (h : Ext wr w') => HE.out.tr h)
          have HPW := hid (fun (w' : World) (h : Ext wr w') => (ownU_slU (owns_ext HO.out h)).ex)
          have HSZ := hid (fun (w' : World) (h : Ext wr w') => (show B1 ≤ w'.heap.size by rw [HB1.out]; exact h.size))
          have HBB := hid (show w1.heap.size ≤ B1 by rw [HB1.out]; exact HE.out.size)
          have hln := HLN.out
          clear HE HO
          go_wp2_with fail
          go_loopw [7, 8, 9] (fun o d t wz => ∃ k : Nat, k ≤ P.length ∧ t = .int .i64 k ∧ d = .bool (insTo' x P k).2 ∧ Ext wr wz ∧ OwnU wz B1 o (insTo' x P k).1 ∧ (insTo' x P k).1.length = k + (if (insTo' x P k).2 = true then 1 else 0)) (fun _ _ t _ => P.length - (intOf t).toNat)
          case atStart => exact ⟨0, Nat.zero_le _, rfl, rfl, Ext.rfl _, World.ownsRow_nil _ _ _ _, rfl⟩
          case round =>
            obtain ⟨k, hk, rfl, rfl, he, ho, hle⟩ := hrel
            have HE := hid he
            have HO := hid ho
            clear he ho
            by_cases hkl : k < P.length
            · have HST := hid (insTo_step x P hkl)
              obtain ⟨aP', cP', hP', _, _, hcP⟩ := HPW.out _ HE.out
              simp only [Value.slice.injEq] at hP'
              obtain ⟨rfl, _, rfl⟩ := hP'
              obtain ⟨bP, oP, rfl, hcP2⟩ := hcP (by omega)
              have cy := hcP2 k hkl
              rw [List.getElem?_eq_getElem hkl] at cy
              simp only [Option.getD_some] at cy
              obtain ⟨y, hy⟩ : ∃ y, y = P[k] := ⟨_, rfl⟩
              rw [← hy] at cy HST
              have HY := hid hy
              clear hy hcP hcP2
              obtain ⟨q, hq⟩ : ∃ q, q = insTo' x P k := ⟨_, rfl⟩
              rw [← hq] at HST HO hle ⊢
              clear hq
              obtain ⟨Q, d⟩ := q
              simp only at HST HO hle ⊢
              obtain ⟨aQ, cQ, rfl, _⟩ := slice_of HO.out
              have hql : Q.length ≤ k + 1 := by rw [hle]; split <;> omega
              cases d with
              | true =>
                have HS2 := hid (show insTo' x P (k + 1) = (Q ++ [y], true) by rw [HST.out]; simp)
                clear HST
                go_wp2_with (at_builtin; refine wpList_app el_u64 rfl (owns_ext HO.out ((Ext.rfl wr).al _)) rfl rfl (news_one wr (eU y) _) (by simp [Value.oneCell']) (by omega) (Nat.le_trans (HSZ.out _ HE.out) ((Ext.rfl wr).al _).size) ?_; intro v' w6 hown6 hg6 hb6; have O6 := hid (OwnU.snoc hown6); have E6 := hid (HX1.out _ (Below.trans (HBE.out _ HE.out) (Below.trans (Below.mono ((Ext.rfl wr).al (Obj.cells #[eU y] 36)) (HSZ.out _ HE.out)) hb6))); clear hown6 hg6 hb6)
                go_roundw
                case rel => exact ⟨k + 1, by omega, by go_num, by rw [HS2.out], E6.out, by rw [HS2.out]; exact O6.out, by rw [HS2.out]; simp at hle ⊢; omega⟩
                case measure => first | (simp [intOf]; done) | (simp [intOf]; omega)
              | false =>
                by_cases hxy : x < y
                · have dxy : decide (x < y) = true := decide_eq_true hxy
                  have HS2 := hid (show insTo' x P (k + 1) = (Q ++ [x] ++ [y], true) by rw [HST.out]; simp [hxy])
                  clear HST hxy
                  go_upto_region 17 with (at_builtin; refine wpList_app el_u64 rfl (owns_ext HO.out ((Ext.rfl wr).al _)) rfl rfl (news_one wr (eU x) _) (by simp [Value.oneCell']) (by omega) (Nat.le_trans (HSZ.out _ HE.out) ((Ext.rfl wr).al _).size) ?_; intro v' w6 hown6 hg6 hb6; have O6 := hid (OwnU.snoc hown6); have E6 := hid (HX1.out _ (Below.trans (HBE.out _ HE.out) (Below.trans (Below.mono ((Ext.rfl wr).al (Obj.cells #[eU x] 36)) (HSZ.out _ HE.out)) hb6))); clear hown6 hg6 hb6)
                  have cy2 : w6.cell? ⟨bP, oP + k, none⟩ = some (.int .u64 y) := by
                    obtain ⟨a', c', h1, _, _, h2⟩ := HPW.out _ E6.out
                    simp only [Value.slice.injEq] at h1
                    obtain ⟨rfl, _, _⟩ := h1
                    obtain ⟨b', o', h3, h4⟩ := h2 (by omega)
                    cases h3
                    have h5 := h4 k hkl
                    rw [List.getElem?_eq_getElem hkl] at h5
                    rw [h5, HY.out]; rfl
                  obtain ⟨a7, c7, rfl, _⟩ := slice_of O6.out
                  have hql2 : (Q ++ [x]).length ≤ k + 2 := by rw [List.length_append]; simp; omega
                  clear HO HE cy
                  go_wp2_with (at_builtin; refine wpList_app el_u64 rfl (owns_ext O6.out ((Ext.rfl w6).al _)) rfl rfl (news_one w6 (eU y) _) (by simp [Value.oneCell']) (by omega) (Nat.le_trans (HSZ.out _ E6.out) ((Ext.rfl w6).al _).size) ?_; intro v' w8 hown6 hg6 hb6; have O8 := hid (OwnU.snoc hown6); have E8 := hid (HX1.out _ (Below.trans (HBE.out _ E6.out) (Below.trans (Below.mono ((Ext.rfl w6).al (Obj.cells #[eU y] 36)) (HSZ.out _ E6.out)) hb6))); clear hown6 hg6 hb6)
                  go_roundw
                  case rel => exact ⟨k + 1, by omega, by go_num, by rw [HS2.out], E8.out, by rw [HS2.out]; exact O8.out, by rw [HS2.out]; simp at hle ⊢; omega⟩
                  case measure => first | (simp [intOf]; done) | (simp [intOf]; omega)
                · have dxy : decide (x < y) = false := decide_eq_false hxy
                  have HS2 := hid (show insTo' x P (k + 1) = (Q ++ [y], false) by rw [HST.out]; simp [hxy])
                  clear HST
                  go_wp2_with (at_builtin; refine wpList_app el_u64 rfl (owns_ext HO.out ((Ext.rfl wr).al _)) rfl rfl (news_one wr (eU y) _) (by simp [Value.oneCell']) (by omega) (Nat.le_trans (HSZ.out _ HE.out) ((Ext.rfl wr).al _).size) ?_; intro v' w6 hown6 hg6 hb6; have O6 := hid (OwnU.snoc hown6); have E6 := hid (HX1.out _ (Below.trans (HBE.out _ HE.out) (Below.trans (Below.mono ((Ext.rfl wr).al (Obj.cells #[eU y] 36)) (HSZ.out _ HE.out)) hb6))); clear hown6 hg6 hb6)
                  go_roundw
                  case rel => exact ⟨k + 1, by omega, by go_num, by rw [HS2.out], E6.out, by rw [HS2.out]; exact O6.out, by rw [HS2.out]; simp at hle ⊢; omega⟩
                  case measure => first | (simp [intOf]; done) | (simp [intOf]; omega)
            · obtain rfl : k = P.length := by omega
              have HIE := hid (insTo_end x P)
              obtain ⟨q, hq⟩ : ∃ q, q = insTo' x P P.length := ⟨_, rfl⟩
              rw [← hq] at HIE HO hle ⊢
              clear hq hk hkl
              obtain ⟨Q, d⟩ := q
              simp only at HIE HO hle ⊢
              obtain ⟨aQ, cQ, rfl, _⟩ := slice_of HO.out
              have hql : Q.length ≤ P.length + 1 := by rw [hle]; split <;> omega
              clear hle
              cases d with
              | true =>
                have HN2 := hid (show insAll (seenL V n (i + 1)) = Q by rw [HNX2.out, HIE.out]; simp)
                clear HIE HNX2
                go_wp2_with fail
                go_roundw
                case rel => exact ⟨i + 1, hil, by go_num, HEW.out _ HE.out, by rw [HN2.out]; exact owns_base HO.out HBB.out⟩
                case measure => first | (simp [intOf]; done) | (simp [intOf]; omega)
              | false =>
                have HN2 := hid (show insAll (seenL V n (i + 1)) = Q ++ [x] by rw [HNX2.out, HIE.out]; simp)
                clear HIE HNX2
                go_wp2_with (at_builtin; refine wpList_app el_u64 rfl (owns_ext HO.out ((Ext.rfl wr).al _)) rfl rfl (news_one wr (eU x) _) (by simp [Value.oneCell']) (by omega) (Nat.le_trans (HSZ.out _ HE.out) ((Ext.rfl wr).al _).size) ?_; intro v' w6 hown6 hg6 hb6; have O6 := hid (OwnU.snoc hown6); have E6 := hid (HX1.out _ (Below.trans (HBE.out _ HE.out) (Below.trans (Below.mono ((Ext.rfl wr).al (Obj.cells #[eU x] 36)) (HSZ.out _ HE.out)) hb6))); clear hown6 hg6 hb6)
                go_roundw
                case rel => exact ⟨i + 1, hil, by go_num, HEW.out _ E6.out, by rw [HN2.out]; exact owns_base O6.out HBB.out⟩
                case measure => first | (simp [intOf]; done) | (simp [intOf]; omega)
        · obtain rfl : i = (V n).length := by omega
          have HLV := hid (seenL_level V n)
          go_wp2_with fail
          go_roundw
          case rel => exact ⟨n + 1, by omega, by go_num, HE.out, by rw [HLV.out]; exact HO.out⟩
          case measure => first | (simp [intOf]; done) | (simp [intOf]; omega)
    · obtain rfl : n = 4 := by omega
      go_wp2_with fail
      go_ret
      exact ⟨_, _, rfl, insAll_perm _, insAll_sorted _, ownU_slU HO.out, E0.out.tr HE.out⟩
end Go.Proofs.Ytoonhcmeklmnlaa
