/- Edits applied: the program's walk. -/
import Derived.Test.YtoonhcmeklmnlaaVr9
set_option linter.unusedSimpArgs false
set_option linter.unusedVariables false
set_option linter.unnecessarySimpa false
namespace Go.Proofs.Ytoonhcmeklmnlaa
open Go.RowKit Go.Rg Go.St

theorem SetAt.cong {w : World} {sb : Nat} {S S' : Lv} (h : SetAt w sb S) (he : ∀ n, n < 4 → S n = S' n) : SetAt w sb S' := by
  obtain ⟨cs, T, hb, hs, hi, hv⟩ := h.ex
  exact ⟨cs, T, hb, hs, hi, fun n hn => by rw [← he n hn]; exact hv n hn⟩
theorem SetAt.ver {w : World} {sb : Nat} {S : Lv} (h : SetAt w sb S) : ∃ u0 u1 u2 u3, w.cell? ⟨sb, 0, none⟩ = some u0 ∧ w.cell? ⟨sb, 1, none⟩ = some u1 ∧ w.cell? ⟨sb, 2, none⟩ = some u2 ∧ w.cell? ⟨sb, 3, none⟩ = some u3 ∧ Ver w u0 u1 u2 u3 S := by
  obtain ⟨u0, a0, _, b0⟩ := h.at (n := 0) (by decide)
  obtain ⟨u1, a1, _, b1⟩ := h.at (n := 1) (by decide)
  obtain ⟨u2, a2, _, b2⟩ := h.at (n := 2) (by decide)
  obtain ⟨u3, a3, _, b3⟩ := h.at (n := 3) (by decide)
  exact ⟨u0, u1, u2, u3, a0, a1, a2, a3, ⟨b0, b1, b2, b3⟩⟩
def partTo (V : Lv) (n : Nat) : Lv := fun m => if m < n then V m else []
theorem partTo_succ (V : Lv) (n : Nat) : upd (partTo V n) n (V n) = partTo V (n + 1) := by
  funext m
  unfold upd partTo
  by_cases h : m = n
  · subst h; simp
  · rw [if_neg h]
    by_cases h2 : m < n
    · rw [if_pos h2, if_pos (by omega)]
    · rw [if_neg h2, if_neg (by omega)]
theorem setAt_new (V : Lv) (w : World) (T : TypeId) : SetAt (w.alloc (.cells #[.slice none 0 0, .slice none 0 0, .slice none 0 0, .slice none 0 0] T)) w.heap.size (partTo V 0) := by
  refine ⟨_, T, heap_alloc_new w _, rfl, fun j u hu => ?_, fun n hn => ?_⟩
  · match j, hu with
    | 0, hu => exact ⟨none, 0, 0, by cases hu; rfl⟩
    | 1, hu => exact ⟨none, 0, 0, by cases hu; rfl⟩
    | 2, hu => exact ⟨none, 0, 0, by cases hu; rfl⟩
    | 3, hu => exact ⟨none, 0, 0, by cases hu; rfl⟩
  · refine ⟨.slice none 0 0, ?_, ?_⟩
    · obtain rfl | rfl | rfl | rfl : n = 0 ∨ n = 1 ∨ n = 2 ∨ n = 3 := by omega
      all_goals rfl
    · show SlFile _ _ (if n < 0 then V n else [])
      rw [if_neg (by omega)]
      exact SlS.nil _ _ _

theorem ver_cells {w : World} {g : Nat} {u0 u1 u2 u3 : Value} {ty : TypeId} (h : w.heap[g]? = some (.cells #[u0, u1, u2, u3] ty (0, 0))) :
    w.cell? ⟨g, 0, none⟩ = some u0 ∧ w.cell? ⟨g, 1, none⟩ = some u1 ∧ w.cell? ⟨g, 2, none⟩ = some u2 ∧ w.cell? ⟨g, 3, none⟩ = some u3 := by
  refine ⟨?_, ?_, ?_, ?_⟩
  all_goals
    rw [cell_of_row _ _ _ _ _ _ h]
    rfl
abbrev set4 (w : World) (g : Nat) (u0 u1 u2 u3 : Value) : World := (((w.setCell ⟨g, 0, none⟩ u0).setCell ⟨g, 1, none⟩ u1).setCell ⟨g, 2, none⟩ u2).setCell ⟨g, 3, none⟩ u3
theorem set4_heap {w : World} {g : Nat} {a0 a1 a2 a3 : Value} {ty : TypeId} (h : w.heap[g]? = some (.cells #[a0, a1, a2, a3] ty (0, 0))) (u0 u1 u2 u3 : Value) : (set4 w g u0 u1 u2 u3).heap[g]? = some (.cells #[u0, u1, u2, u3] ty (0, 0)) :=
  (heap_setCell_same _ g 3 _ _ _ (heap_setCell_same _ g 2 _ _ _ (heap_setCell_same _ g 1 _ _ _ (heap_setCell_same w g 0 _ _ _ h)))).trans rfl
theorem set4_ext {w0 w : World} {B g : Nat} (h : Below B w0 w) (hb : B ≤ g) (u0 u1 u2 u3 : Value) : Below B w0 (set4 w g u0 u1 u2 u3) := Below.setCell (Below.setCell (Below.setCell (Below.setCell h hb _) hb _) hb _) hb _
theorem ver_set4 {w wz : World} {v0 v1 v2 v3 : Value} {V : Lv} (h : Ver w v0 v1 v2 v3 V) {g : Nat} {ty : TypeId} {a0 a1 a2 a3 : Value} (hi0 : IsSl a0) (hi1 : IsSl a1) (hi2 : IsSl a2) (hi3 : IsSl a3) (hb : w.heap[g]? = some (.cells #[a0, a1, a2, a3] ty (0, 0)))
    {u0 u1 u2 u3 : Value} (j0 : IsSl u0) (j1 : IsSl u1) (j2 : IsSl u2) (j3 : IsSl u3) (hz : set4 w g u0 u1 u2 u3 = wz) : Ver wz v0 v1 v2 v3 V := by
  subst hz
  have key : ∀ (cs : Array Value), cs.size = 4 → (∀ j, j < 4 → ∃ u, cs[j]? = some u ∧ IsSl u) → ∀ (j : Nat) u, cs[j]? = some u → IsSl u := fun cs hs hc j u hu => by
    have : j < 4 := by have := (Array.getElem?_eq_some_iff.1 hu).1; omega
    obtain ⟨u', h1, h2⟩ := hc j this
    rw [h1] at hu; cases hu; exact h2
  have q4 : ∀ (x0 x1 x2 x3 : Value), IsSl x0 → IsSl x1 → IsSl x2 → IsSl x3 → ∀ (j : Nat) u, (#[x0, x1, x2, x3] : Array Value)[j]? = some u → IsSl u := fun x0 x1 x2 x3 y0 y1 y2 y3 => key _ rfl fun j hj => by
    obtain rfl | rfl | rfl | rfl : j = 0 ∨ j = 1 ∨ j = 2 ∨ j = 3 := by omega
    · exact ⟨_, rfl, y0⟩
    · exact ⟨_, rfl, y1⟩
    · exact ⟨_, rfl, y2⟩
    · exact ⟨_, rfl, y3⟩
  have h1 : (w.setCell ⟨g, 0, none⟩ u0).heap[g]? = some (Obj.cells #[u0, a1, a2, a3] ty (0, 0)) := (heap_setCell_same w g 0 _ _ _ hb).trans rfl
  have h2 : ((w.setCell ⟨g, 0, none⟩ u0).setCell ⟨g, 1, none⟩ u1).heap[g]? = some (Obj.cells #[u0, u1, a2, a3] ty (0, 0)) := (heap_setCell_same _ g 1 _ _ _ h1).trans rfl
  have h3 : (((w.setCell ⟨g, 0, none⟩ u0).setCell ⟨g, 1, none⟩ u1).setCell ⟨g, 2, none⟩ u2).heap[g]? = some (Obj.cells #[u0, u1, u2, a3] ty (0, 0)) := (heap_setCell_same _ g 2 _ _ _ h2).trans rfl
  have go : ∀ {v : Value} {xs : List File}, SlFile w v xs → SlFile (set4 w g u0 u1 u2 u3) v xs := fun hv =>
    slF_far (slF_far (slF_far (slF_far hv hb (q4 _ _ _ _ hi0 hi1 hi2 hi3) 0 u0) h1 (q4 _ _ _ _ j0 hi1 hi2 hi3) 1 u1) h2 (q4 _ _ _ _ j0 j1 hi2 hi3) 2 u2) h3 (q4 _ _ _ _ j0 j1 j2 hi3) 3 u3
  exact ⟨go h.s0, go h.s1, go h.s2, go h.s3⟩
abbrev nilV : Value := .slice none 0 0
def ApplyP (V : Lv) (x : Ed) (w : World) (e : Ending) (w' : World) : Prop :=
  ∃ u0 u1 u2 u3, e = .returned (.tuple #[.agg #[u0, u1, u2, u3], .int .i64 (applyF V x).1]) ∧ Ver w' u0 u1 u2 u3 (applyF V x).2 ∧ Ext w w'
theorem placeC_ok {l n : Int} (h : placeC l n = 0) : ∃ k : Nat, l = k ∧ k < 4 := by
  unfold placeC at h
  by_cases h1 : l < 0 ∨ 3 < l
  · rw [if_pos h1] at h; cases h
  · exact ⟨l.toNat, by omega, by omega⟩
theorem firstE_all {α : Type} [Inhabited α] {f : α → Int} : ∀ {l : List α}, firstE (l.map f) = 0 → ∀ x ∈ l, f x = 0
  | [], _, x, hx => by cases hx
  | y :: l, h, x, hx => by
    have h' : (if f y ≠ 0 then f y else firstE (l.map f)) = 0 := h
    by_cases hy : f y = 0
    · rw [if_neg (by rw [hy]; decide)] at h'
      rcases List.mem_cons.1 hx with rfl | hx
      · exact hy
      · exact firstE_all h' x hx
    · rw [if_pos hy] at h'; exact absurd h' hy
theorem edC_parts {x : Ed} (h : edC x = 0) : x.adds.length ≤ 100 ∧ (∀ d ∈ x.dels, goneC d = 0) ∧ ∀ f ∈ x.adds, fileC f = 0 := by
  unfold edC at h
  by_cases h1 : 20000 < x.dels.length ∨ 100 < x.adds.length
  · rw [if_pos h1] at h; cases h
  · rw [if_neg h1] at h
    by_cases h2 : 1099511627776 < x.log ∨ 1099511627776 < x.next
    · rw [if_pos h2] at h; cases h
    · rw [if_neg h2] at h
      by_cases h3 : 72057594037927935 < x.last
      · rw [if_pos h3] at h; cases h
      · rw [if_neg h3] at h
        by_cases h4 : firstE (x.dels.map goneC) = 0
        · rw [if_neg (by rw [h4]; decide)] at h
          exact ⟨by omega, firstE_all h4, firstE_all h⟩
        · rw [if_pos h4] at h; exact absurd h h4
theorem fileC_level {f : File} (h : fileC f = 0) : ∃ k : Nat, f.level = k ∧ k < 4 := by
  unfold fileC at h
  by_cases h1 : placeC f.level f.num = 0
  · exact placeC_ok h1
  · rw [if_pos h1] at h; exact absurd h h1
theorem ver_nil (w : World) : Ver w nilV nilV nilV nilV noneV := ⟨SlS.nil _ _ _, SlS.nil _ _ _, SlS.nil _ _ _, SlS.nil _ _ _⟩
def ResP (R : Int × Lv) (w : World) (e : Ending) (w' : World) : Prop :=
  ∃ u0 u1 u2 u3, e = .returned (.tuple #[.agg #[u0, u1, u2, u3], .int .i64 R.1]) ∧ Ver w' u0 u1 u2 u3 R.2 ∧ Ext w w'
set_option maxRecDepth 100000 in
set_option maxHeartbeats 8000000 in
theorem apply_in (v0 v1 v2 v3 : Value) (V : Lv) (x : Ed) (vd va : Value) (w : World) (hV : Ver w v0 v1 v2 v3 V) (hfV : ∀ n, n < 4 → ∀ f, f ∈ V n → FitF f) (hn : ∀ n, n < 4 → (V n).length ≤ 900000)
    (hd : SlS w vd 2 eGone x.dels) (ha : SlFile w va x.adds) (hf : ∀ f, f ∈ x.adds → FitF f) :
    Calls Try.prog 39 #[.agg #[v0, v1, v2, v3], .agg #[.int .u64 x.log, .int .u64 x.next, .int .u64 x.last, vd, va]] w (ResP (applyF V x) w) := by
  have HD := hid (show applyF V x = if verC V ≠ 0 then (140, noneV) else if edC x ≠ 0 then (edC x, noneV) else match delsF x.dels V with | none => (141, noneV) | some S => addsF x.adds S from rfl)
  generalize applyF V x = R at *
  obtain ⟨log, next, last, dels, adds⟩ := x
  simp only at *
  have HV := hid hV
  have HFV := hid hfV
  have HN := hid hn
  obtain ⟨ad, capd, rfl, hcapd, hmd, hcd⟩ := hd.ex
  obtain ⟨aa, capa, rfl, hcapa, hma, hca⟩ := ha.ex
  unfold maxLen at hmd hma
  have HCD := hid hcd
  have HCA := hid hca
  have HDL := hid hd
  have HAD := hid ha
  clear hcd hca
  have HF := hid hf
  clear hV hfV hn hd ha hf
  go_enter Try.func39, Try.ntmps39
  go_wp2_with fail
  have hx : Ext w (((w.alloc (Obj.cells #[v0, v1, v2, v3] 67)).alloc (Obj.cells #[.int .u64 log, .int .u64 next, .int .u64 last, .slice ad dels.length capd, .slice aa adds.length capa] 75)).alloc (Obj.cells #[nilV, nilV, nilV, nilV] 67)) := (((Ext.rfl w).al _).al _).al _
  refine (vcheck_in v0 v1 v2 v3 V _ (HV.out.go hx) HFV.out).mono ?_
  rintro e w1 ⟨rfl, he1⟩
  have B0 := hid (row_at (g := w.heap.size) (o := Obj.cells #[v0, v1, v2, v3] 67) ((((Ext.rfl _).al _).al _).tr he1) rfl)
  have B1 := hid (row_at (g := w.heap.size + 1) (o := Obj.cells #[.int .u64 log, .int .u64 next, .int .u64 last, .slice ad dels.length capd, .slice aa adds.length capa] 75) (((Ext.rfl _).al _).tr he1) (by rw [alloc_size]))
  have B2 := hid (row_at (g := w.heap.size + 1 + 1) (o := Obj.cells #[nilV, nilV, nilV, nilV] 67) he1 (by rw [alloc_size, alloc_size]))
  obtain ⟨B, HBX, HB1, hB2⟩ : ∃ B, Hid (∀ w', Below B w w' → Ext w w') ∧ Hid (Below B w w1) ∧ B ≤ w.heap.size := ⟨w.heap.size, fun _ h => h, hx.tr he1, Nat.le_refl _⟩
  have E1 := hid (hx.tr he1)
  have n1 : w.heap.size < w1.heap.size := vblk_lt B0.out
  have n2 : w.heap.size + 1 < w1.heap.size := vblk_lt B1.out
  have n3 : w.heap.size + 1 + 1 < w1.heap.size := vblk_lt B2.out
  have HG := hid (show B ≤ w.heap.size + 1 + 1 by omega)
  clear hB2
  clear he1 hx
  generalize w.heap.size + 1 + 1 = g2 at *
  generalize w.heap.size + 1 = g1 at *
  generalize w.heap.size = g0 at *
  by_cases hc : verC V = 0
  · rw [hc]
    have HC := hid hc
    clear hc
    obtain ⟨e0, e1, e2, e3, e4⟩ := ed_cells B1.out
    go_wp2_with fail
    refine (edcheck_in ⟨log, next, last, dels, adds⟩ _ _ _ (SlS.go eGone_length HDL.out E1.out) (HAD.out.file E1.out) HF.out).mono ?_
    rintro e w2 ⟨rfl, he2⟩
    clear e0 e1 e2 e3 e4
    have C0 := hid ((he2.block _ n1).trans B0.out)
    have C1 := hid ((he2.block _ n2).trans B1.out)
    have C2 := hid ((he2.block _ n3).trans B2.out)
    have E2 := hid (E1.out.tr he2)
    have HB2 := hid (show Below B w w2 from Below.trans HB1.out (Below.mono he2 (Nat.le_trans HG.out (Nat.le_of_lt n3))))
    have m1 : g0 < w2.heap.size := vblk_lt C0.out
    have m2 : g1 < w2.heap.size := vblk_lt C1.out
    have m3 : g2 < w2.heap.size := vblk_lt C2.out
    clear he2 n1 n2 n3 B0 B1 B2 E1 HB1
    by_cases hd : edC ⟨log, next, last, dels, adds⟩ = 0
    · rw [hd]
      have HR := hid (show R = match delsF dels V with | none => (141, noneV) | some S => addsF adds S from by rw [HD.out, if_neg (by rw [HC.out]; decide), if_neg (by rw [hd]; decide)])
      have HEC := hid hd
      clear hd HD
      obtain ⟨f0, f1, f2, f3⟩ := ver_cells C0.out
      go_wp2_with fail
      have S0 := hid (setAt_new V w2 131)
      have E3 := hid (show Below w2.heap.size w2 (w2.alloc (Obj.cells #[nilV, nilV, nilV, nilV] 131)) from (Ext.rfl w2).al _)
      have HX2 := hid (show ∀ w', Below w2.heap.size w2 w' → Ext w2 w' from fun _ h => h)
      have hsb : w2.heap.size < (w2.alloc (Obj.cells #[nilV, nilV, nilV, nilV] 131)).heap.size := by rw [alloc_size]; omega
      generalize w2.alloc (Obj.cells #[nilV, nilV, nilV, nilV] 131) = w3 at *
      clear f0 f1 f2 f3
      generalize w2.heap.size = sb at *
      go_loopw [28] (fun t wr => ∃ (n : Nat) (z : Int), z = n ∧ n ≤ 4 ∧ t = .int .i64 z ∧ Below sb w2 wr ∧ SetAt wr sb (partTo V n)) (fun t _ => 4 - (intOf t).toNat)
      case atStart => exact ⟨0, 0, rfl, by omega, rfl, E3.out, S0.out⟩
      case round =>
        clear S0 E3 hsb
        obtain ⟨n, z, hz, hn, rfl, he, hs⟩ := hrel
        have HE := hid he
        have HS := hid hs
        clear he hs
        by_cases hlt : n < 4
        · subst hz
          obtain ⟨a, cap, ep, _⟩ := (HV.out.at hlt).ex
          have ix := fun w => index_four v0 v1 v2 v3 n hlt w
          have dn : decide ((n : Int) < 4) = true := decide_eq_true (by omega)
          have hn0 : (0 : Int) ≤ (n : Int) := by omega
          have hn4 : (n : Int) < 4 := by omega
          have HVN := hid (((HV.out.at hlt).file E2.out).file (HX2.out _ HE.out))
          have hln := HN.out n hlt
          generalize pick4 v0 v1 v2 v3 n = u at *
          clear ep
          go_wp2_with fail
          refine (clone_in _ (V n) _ HVN.out (by omega)).mono ?_
          rintro e w4 ⟨v', rfl, ho, he4⟩
          obtain ⟨v, cv, fv, _⟩ := (HS.out.ext he4).at hlt
          obtain ⟨a', n', c', rfl⟩ := isSl_of ho.sl
          have HF4 := hid ((HS.out.ext he4).set hlt ho.sl)
          have HE4 := hid (show Below sb w2 (w4.setCell ⟨sb, n, none⟩ (.slice a' n' c')) from Below.setCell (Below.trans HE.out (Below.mono he4 (Nat.le_of_lt HS.out.lt))) (Nat.le_refl _) _)
          clear ix ho he4
          go_wp2_with fail
          go_roundw
          case rel => exact ⟨n + 1, _, rfl, by omega, by go_num, HE4.out, (partTo_succ V n) ▸ HF4.out⟩
          case measure => simp [intOf]; omega
        · obtain rfl : n = 4 := by omega
          obtain rfl : z = 4 := hz
          replace HS := hid (HS.out.cong (S' := V) (fun n hn => by simp [partTo, hn]))
          obtain ⟨e0, e1, e2, e3, e4⟩ := ed_cells ((HE.out.block _ (by omega)).trans C1.out)
          go_wp2_with fail
          clear e0 e1 e2 e3 e4
          go_loopw [40] (fun t wz => ∃ (k : Nat) (S : Lv), k ≤ dels.length ∧ t = .int .i64 k ∧ Below sb w2 wz ∧ SetAt wz sb S ∧ UniqS S ∧ (∀ n, n < 4 → (S n).length ≤ 900000) ∧ delsF (dels.drop k) S = delsF dels V) (fun t _ => dels.length - (intOf t).toNat)
          case atStart => exact ⟨0, V, by omega, rfl, HE.out, HS.out, uniq_of_ok HC.out, HN.out, rfl⟩
          case round =>
            clear HE HS
            obtain ⟨k, S, hk, rfl, he, hs, hu, hl, hdf⟩ := hrel
            have HE := hid he
            have HS := hid hs
            have HU := hid hu
            have HL := hid hl
            have HDF := hid hdf
            clear he hs hu hl hdf
            by_cases hlt : k < dels.length
            · obtain ⟨b, off, rfl, hcell⟩ := HCD.out (by omega)
              obtain ⟨n, hlv, hn4⟩ := placeC_ok ((edC_parts HEC.out).2.1 _ (nth_mem _ _ hlt))
              have c0 : wr.cell? ⟨b, off + k * 2, none⟩ = some (.int .i64 (nth dels k).level) := ext_cell (E2.out.tr (HX2.out _ HE.out)) (hcell k hlt 0 (by omega))
              have c1 : wr.cell? ⟨b, off + k * 2 + 1, none⟩ = some (.int .u64 (nth dels k).num) := ext_cell (E2.out.tr (HX2.out _ HE.out)) (hcell k hlt 1 (by omega))
              have hds := delsF_some (S := S) hlt
              have hdn := delsF_none (S := S) hlt
              rw [show nth dels k = ⟨(nth dels k).level, (nth dels k).num⟩ from rfl] at hds hdn
              rw [hlv] at c0 hds hdn
              rw [Int.toNat_natCast] at hds hdn
              generalize (nth dels k).num = num at *
              have HDS := hid hds
              have HDN := hid hdn
              have HLN := hid (HL.out n hn4)
              clear hcell hds hdn hlv
              go_wp2_with fail
              refine (drop_in sb S n num _ (HS.out.ext ((Ext.rfl wr).al _)) HU.out hn4 (Nat.le_trans HLN.out (by decide))).mono ?_
              rintro e w5 ⟨hcase, hbl⟩
              have hlsb := HS.out.lt
              have HE5 := hid (show Below sb w2 w5 from Below.trans (Below.trans HE.out (Below.mono ((Ext.rfl wr).al _) (Nat.le_of_lt hlsb))) hbl)
              clear c0 c1 hbl
              rcases hcase with ⟨hno, rfl⟩ | ⟨hyes, rfl, hset⟩
              · have hR : R = (141, noneV) := by rw [HR.out, ← HDF.out, HDN.out hno]
                have D2 := hid ((HE5.out.block _ m3).trans C2.out)
                have HB5 := hid (show Below B w w5 from Below.trans HB2.out (Below.mono HE5.out (Nat.le_trans HG.out (Nat.le_of_lt m3))))
                have HZ := hid (set4_heap D2.out nilV nilV nilV nilV)
                have HX := hid (set4_ext HB5.out HG.out nilV nilV nilV nilV)
                obtain ⟨f0, f1, f2, f3⟩ := ver_cells D2.out
                have ff : ∀ i, w5.frozen? ⟨g2, i, none⟩ = false := fun i => frozen_of_row _ _ _ _ _ D2.out
                go_wp2_with fail
                generalize hwz : (((w5.setCell ⟨g2, 0, none⟩ (.slice none 0 0)).setCell ⟨g2, 1, none⟩ (.slice none 0 0)).setCell ⟨g2, 2, none⟩ (.slice none 0 0)).setCell ⟨g2, 3, none⟩ (.slice none 0 0) = wz
                replace HZ : Hid (wz.heap[g2]? = some (.cells #[nilV, nilV, nilV, nilV] 67 (0, 0))) := by rw [← hwz]; exact HZ
                replace HX : Hid (Below B w wz) := by rw [← hwz]; exact HX
                clear hwz
                obtain ⟨z0, z1, z2, z3⟩ := ver_cells HZ.out
                refine bodyPost_ret (v := .tuple #[.agg #[nilV, nilV, nilV, nilV], .int .i64 141]) ?_ rfl ⟨nilV, nilV, nilV, nilV, ?_, ?_, HBX.out _ HX.out⟩
                · simp [results, Try.results39, go_sem, z0, z1, z2, z3]
                · rw [hR]
                · rw [hR]; exact ver_nil _
              · have HSET := hid hset
                have HYES := hid hyes
                clear hset hyes
                go_wp2_with fail
                go_roundw
                case rel =>
                  refine ⟨k + 1, _, hlt, by go_num, HE5.out, HSET.out, HU.out.rem n num, fun m hm => ?_, by rw [Int.toNat_natCast, ← HDS.out HYES.out]; exact HDF.out⟩
                  by_cases e : m = n
                  · subst e; rw [Int.toNat_natCast, upd_same]; exact Nat.le_trans (remF_length _ _) HLN.out
                  · rw [Int.toNat_natCast, upd_other _ _ e]; exact HL.out m hm
                case measure => simp [intOf]; omega
            · have : k = dels.length := by omega
              subst this
              obtain ⟨e0, e1, e2, e3, e4⟩ := ed_cells ((HE.out.block _ m2).trans C1.out)
              have HDV := hid (show delsF dels V = some S from by rw [← HDF.out, List.drop_length]; rfl)
              go_wp2_with fail
              clear e0 e1 e2 e3 e4
              go_loopw [53] (fun t wz => ∃ (k : Nat) (S : Lv), k ≤ adds.length ∧ t = .int .i64 k ∧ Below sb w2 wz ∧ SetAt wz sb S ∧ (∀ n, n < 4 → (S n).length ≤ 900000 + k) ∧ addsF (adds.drop k) S = R) (fun t _ => adds.length - (intOf t).toNat)
              case atStart => exact ⟨0, S, by omega, rfl, HE.out, HS.out, HL.out, by rw [HR.out, HDV.out]; rfl⟩
              case round =>
                clear HE HS HL HDF HDV HU
                obtain ⟨k, S, hk, rfl, he, hs, hl, hdf⟩ := hrel
                have HE := hid he
                have HS := hid hs
                have HL := hid hl
                have HAF := hid hdf
                clear he hs hl hdf
                have hlsb := HS.out.lt
                by_cases hlt : k < adds.length
                · obtain ⟨b, off, rfl, hcell⟩ := HCA.out (by omega)
                  obtain ⟨n, hlv, hn4⟩ := fileC_level ((edC_parts HEC.out).2.2 _ (nth_mem _ _ hlt))
                  have hk100 := (edC_parts HEC.out).1
                  simp only at hk100
                  obtain ⟨c0, c1, c2, c3, c4, c5, c6, c7, c8⟩ := SlS.at9 (w := wr) (enc := eFile) (xs := adds) (k := k) (fun i hi => ext_cellq (E2.out.tr (HX2.out _ HE.out)) (hcell k hlt i hi) hi rfl) rfl
                  have hgo := addsF_good (S := S) hlt
                  have hbad := addsF_bad (S := S) hlt
                  generalize nth adds k = f at *
                  obtain ⟨lv, num, sz, sm, la⟩ := f
                  simp only at hlv c0 c1 c2 c3 c4 c5 c6 c7 c8
                  subst hlv
                  have hge := HL.out n hn4
                  have HGO := hid hgo
                  have HBAD := hid hbad
                  have hae : addE S ⟨n, num, sz, sm, la⟩ = if thereB num S = true then 142 else if 0 < n ∧ ovs sm.user la.user (S n) ≠ [] then 143 else 0 := by unfold addE; simp
                  have HAE := hid hae
                  clear hcell hgo hbad hae
                  go_wp2_with fail
                  refine (there_in sb S num _ (HS.out.ext ((Ext.rfl wr).al _))).mono ?_
                  rintro e w5 ⟨rfl, he5⟩
                  have BF := hid (row_at (g := wr.heap.size) (o := Obj.cells (fileCells ⟨n, num, sz, sm, la⟩) 80) he5 rfl)
                  have S5 := hid ((HS.out.ext ((Ext.rfl wr).al (Obj.cells (fileCells ⟨n, num, sz, sm, la⟩) 80))).ext he5)
                  have HE5 := hid (show Below sb w2 w5 from Below.trans HE.out (Below.mono (((Ext.rfl wr).al (Obj.cells (fileCells ⟨n, num, sz, sm, la⟩) 80)).tr he5) (Nat.le_of_lt hlsb)))
                  clear he5 c0 c1 c2 c3 c4 c5 c6 c7 c8
                  generalize wr.heap.size = gf at *
                  cases hth : thereB num S
                  · have HTH := hid hth
                    clear hth
                    have hn0 : (0 : Int) ≤ (n : Int) := by omega
                    obtain ⟨c0, c1, c2, c3, c4, c5, c6, c7, c8⟩ := file_cells (a := sm) (b := la) BF.out
                    rcases Nat.eq_zero_or_pos n with hz | hz
                    · have dg : decide (0 < (n : Int)) = false := decide_eq_false (by omega)
                      have HA0 := hid (show addE S ⟨n, num, sz, sm, la⟩ = 0 by rw [HAE.out, if_neg (by rw [HTH.out]; decide), if_neg (fun h => by omega)])
                      have hz' : ¬ 0 < n := by omega
                      clear hz
                      go_wp2_with fail
                      refine (put_in sb S n num sz sm la _ S5.out hn4 (by omega)).mono ?_
                      rintro e w7 ⟨rfl, hset, hbl⟩
                      have HE7 := hid (show Below sb w2 w7 from Below.trans HE5.out hbl)
                      have HSET := hid hset
                      clear hset hbl c0 c1 c2 c3 c4 c5 c6 c7 c8
                      go_wp2_with fail
                      go_roundw
                      case rel =>
                        refine ⟨k + 1, _, hlt, by go_num, HE7.out, HSET.out, fun m hm => ?_, by rw [← HGO.out HA0.out]; exact HAF.out⟩
                        by_cases e : m = n
                        · subst e; rw [Int.toNat_natCast, upd_same, insF_length]; have := HL.out m hm; omega
                        · rw [Int.toNat_natCast, upd_other _ _ e]; have := HL.out m hm; omega
                      case measure => simp [intOf]; omega
                    · have dg : decide (0 < (n : Int)) = true := decide_eq_true (by omega)
                      obtain ⟨u0, u1, u2, u3, s0, s1, s2, s3, hver⟩ := S5.out.ver
                      have HVR := hid hver
                      clear hver
                      go_wp2_with fail
                      refine (vover_in u0 u1 u2 u3 S n _ rfl hn4 sm.user la.user _ HVR.out (by omega)).mono ?_
                      rintro e w6 ⟨v6, rfl, ho, he6⟩
                      obtain ⟨a6, n6, cap6, hv6⟩ := isSl_of ho.sl
                      have hlen : n6 = (ovs sm.user la.user (S n)).length := by
                        obtain ⟨_, _, e, _⟩ := ho.sl.ex
                        rw [hv6] at e
                        simp only [Value.slice.injEq] at e
                        exact e.2.1
                      subst hv6
                      subst hlen
                      have BF6 := hid ((he6.block _ (vblk_lt BF.out)).trans BF.out)
                      have S6 := hid (S5.out.ext he6)
                      have HE6 := hid (show Below sb w2 w6 from Below.trans HE5.out (Below.mono he6 (Nat.le_of_lt S5.out.lt)))
                      clear ho he6 c0 c1 c2 c3 c4 c5 c6 c7 c8 s0 s1 s2 s3
                      obtain ⟨c0, c1, c2, c3, c4, c5, c6, c7, c8⟩ := file_cells (a := sm) (b := la) BF6.out
                      by_cases hov : ovs sm.user la.user (S n) = []
                      · have dl : decide (0 < ((ovs sm.user la.user (S n)).length : Int)) = false := by rw [hov]; rfl
                        have hq0 : ¬ 0 < (ovs sm.user la.user (S n)).length := by rw [hov]; exact Nat.lt_irrefl _
                        have HA0 := hid (show addE S ⟨n, num, sz, sm, la⟩ = 0 by rw [HAE.out, if_neg (by rw [HTH.out]; decide), if_neg (fun h => h.2 hov)])
                        clear hov
                        generalize (ovs sm.user la.user (S n)).length = q at *
                        go_wp2_with fail
                        refine (put_in sb S n num sz sm la _ S6.out hn4 (by omega)).mono ?_
                        rintro e w7 ⟨rfl, hset, hbl⟩
                        have HE7 := hid (show Below sb w2 w7 from Below.trans HE6.out hbl)
                        have HSET := hid hset
                        clear hset hbl c0 c1 c2 c3 c4 c5 c6 c7 c8
                        go_wp2_with fail
                        go_roundw
                        case rel =>
                          refine ⟨k + 1, _, hlt, by go_num, HE7.out, HSET.out, fun m hm => ?_, by rw [← HGO.out HA0.out]; exact HAF.out⟩
                          by_cases e : m = n
                          · subst e; rw [Int.toNat_natCast, upd_same, insF_length]; have := HL.out m hm; omega
                          · rw [Int.toNat_natCast, upd_other _ _ e]; have := HL.out m hm; omega
                        case measure => simp [intOf]; omega
                      · have hR : R = (143, noneV) := by rw [← HAF.out, HBAD.out (by rw [HAE.out, if_neg (by rw [HTH.out]; decide), if_pos ⟨hz, hov⟩]; decide), HAE.out, if_neg (by rw [HTH.out]; decide), if_pos ⟨hz, hov⟩]
                        have dl : decide (0 < ((ovs sm.user la.user (S n)).length : Int)) = true := decide_eq_true (by have := List.length_pos_iff.2 hov; omega)
                        have hq0 : 0 < (ovs sm.user la.user (S n)).length := List.length_pos_iff.2 hov
                        have D2 := hid ((HE6.out.block _ m3).trans C2.out)
                        have HB5 := hid (show Below B w w6 from Below.trans HB2.out (Below.mono HE6.out (Nat.le_trans HG.out (Nat.le_of_lt m3))))
                        clear hov
                        generalize (ovs sm.user la.user (S n)).length = q at *
                        have HZ := hid (set4_heap D2.out nilV nilV nilV nilV)
                        have HX := hid (set4_ext HB5.out HG.out nilV nilV nilV nilV)
                        obtain ⟨f0, f1, f2, f3⟩ := ver_cells D2.out
                        have ff : ∀ i, w6.frozen? ⟨g2, i, none⟩ = false := fun i => frozen_of_row _ _ _ _ _ D2.out
                        go_wp2_with fail
                        generalize hwz : (((w6.setCell ⟨g2, 0, none⟩ (.slice none 0 0)).setCell ⟨g2, 1, none⟩ (.slice none 0 0)).setCell ⟨g2, 2, none⟩ (.slice none 0 0)).setCell ⟨g2, 3, none⟩ (.slice none 0 0) = wz
                        replace HZ : Hid (wz.heap[g2]? = some (.cells #[nilV, nilV, nilV, nilV] 67 (0, 0))) := by rw [← hwz]; exact HZ
                        replace HX : Hid (Below B w wz) := by rw [← hwz]; exact HX
                        clear hwz
                        obtain ⟨z0, z1, z2, z3⟩ := ver_cells HZ.out
                        refine bodyPost_ret (v := .tuple #[.agg #[nilV, nilV, nilV, nilV], .int .i64 143]) ?_ rfl ⟨nilV, nilV, nilV, nilV, ?_, ?_, HBX.out _ HX.out⟩
                        · simp [results, Try.results39, go_sem, z0, z1, z2, z3]
                        · rw [hR]
                        · rw [hR]; exact ver_nil _
                  · have hR : R = (142, noneV) := by rw [← HAF.out, HBAD.out (by rw [HAE.out, if_pos hth]; decide), HAE.out, if_pos hth]
                    have D2 := hid ((HE5.out.block _ m3).trans C2.out)
                    have HB5 := hid (show Below B w w5 from Below.trans HB2.out (Below.mono HE5.out (Nat.le_trans HG.out (Nat.le_of_lt m3))))
                    have HZ := hid (set4_heap D2.out nilV nilV nilV nilV)
                    have HX := hid (set4_ext HB5.out HG.out nilV nilV nilV nilV)
                    obtain ⟨f0, f1, f2, f3⟩ := ver_cells D2.out
                    have ff : ∀ i, w5.frozen? ⟨g2, i, none⟩ = false := fun i => frozen_of_row _ _ _ _ _ D2.out
                    go_wp2_with fail
                    generalize hwz : (((w5.setCell ⟨g2, 0, none⟩ (.slice none 0 0)).setCell ⟨g2, 1, none⟩ (.slice none 0 0)).setCell ⟨g2, 2, none⟩ (.slice none 0 0)).setCell ⟨g2, 3, none⟩ (.slice none 0 0) = wz
                    replace HZ : Hid (wz.heap[g2]? = some (.cells #[nilV, nilV, nilV, nilV] 67 (0, 0))) := by rw [← hwz]; exact HZ
                    replace HX : Hid (Below B w wz) := by rw [← hwz]; exact HX
                    clear hwz
                    obtain ⟨z0, z1, z2, z3⟩ := ver_cells HZ.out
                    refine bodyPost_ret (v := .tuple #[.agg #[nilV, nilV, nilV, nilV], .int .i64 142]) ?_ rfl ⟨nilV, nilV, nilV, nilV, ?_, ?_, HBX.out _ HX.out⟩
                    · simp [results, Try.results39, go_sem, z0, z1, z2, z3]
                    · rw [hR]
                    · rw [hR]; exact ver_nil _
                · have : k = adds.length := by omega
                  subst this
                  obtain ⟨u0, u1, u2, u3, s0, s1, s2, s3, hver⟩ := HS.out.ver
                  have HVR := hid hver
                  have hR : R = (0, S) := by rw [← HAF.out, List.drop_length]; rfl
                  have D2 := hid ((HE.out.block _ m3).trans C2.out)
                  have HB5 := hid (show Below B w wr from Below.trans HB2.out (Below.mono HE.out (Nat.le_trans HG.out (Nat.le_of_lt m3))))
                  clear hver
                  obtain ⟨x0, y0, z0', rfl⟩ := isSl_of HVR.out.s0
                  obtain ⟨x1, y1, z1', rfl⟩ := isSl_of HVR.out.s1
                  obtain ⟨x2, y2, z2', rfl⟩ := isSl_of HVR.out.s2
                  obtain ⟨x3, y3, z3', rfl⟩ := isSl_of HVR.out.s3
                  have HZ := hid (set4_heap D2.out (.slice x0 y0 z0') (.slice x1 y1 z1') (.slice x2 y2 z2') (.slice x3 y3 z3'))
                  have HX := hid (set4_ext HB5.out HG.out (.slice x0 y0 z0') (.slice x1 y1 z1') (.slice x2 y2 z2') (.slice x3 y3 z3'))
                  obtain ⟨f0, f1, f2, f3⟩ := ver_cells D2.out
                  have ff : ∀ i, wr.frozen? ⟨g2, i, none⟩ = false := fun i => frozen_of_row _ _ _ _ _ D2.out
                  go_wp2_with fail
                  generalize hwz : (((wr.setCell ⟨g2, 0, none⟩ (.slice x0 y0 z0')).setCell ⟨g2, 1, none⟩ (.slice x1 y1 z1')).setCell ⟨g2, 2, none⟩ (.slice x2 y2 z2')).setCell ⟨g2, 3, none⟩ (.slice x3 y3 z3') = wz
                  replace HZ : Hid (wz.heap[g2]? = some (.cells #[(.slice x0 y0 z0'), (.slice x1 y1 z1'), (.slice x2 y2 z2'), (.slice x3 y3 z3')] 67 (0, 0))) := by rw [← hwz]; exact HZ
                  replace HX : Hid (Below B w wz) := by rw [← hwz]; exact HX
                  have HVZ := hid (ver_set4 HVR.out ⟨_, _, _, rfl⟩ ⟨_, _, _, rfl⟩ ⟨_, _, _, rfl⟩ ⟨_, _, _, rfl⟩ D2.out ⟨_, _, _, rfl⟩ ⟨_, _, _, rfl⟩ ⟨_, _, _, rfl⟩ ⟨_, _, _, rfl⟩ hwz)
                  clear hwz
                  obtain ⟨z0, z1, z2, z3⟩ := ver_cells HZ.out
                  refine bodyPost_ret (v := .tuple #[.agg #[(.slice x0 y0 z0'), (.slice x1 y1 z1'), (.slice x2 y2 z2'), (.slice x3 y3 z3')], .int .i64 0]) ?_ rfl ⟨(.slice x0 y0 z0'), (.slice x1 y1 z1'), (.slice x2 y2 z2'), (.slice x3 y3 z3'), ?_, ?_, HBX.out _ HX.out⟩
                  · simp [results, Try.results39, go_sem, z0, z1, z2, z3]
                  · rw [hR]
                  · rw [hR]; exact HVZ.out
    · have hR : R = (edC ⟨log, next, last, dels, adds⟩, noneV) := by rw [HD.out, if_neg (by rw [HC.out]; decide), if_pos hd]
      have hne : (edC ⟨log, next, last, dels, adds⟩ != 0) = true := by simpa using hd
      generalize edC ⟨log, next, last, dels, adds⟩ = c at *
      have HZ := hid (set4_heap C2.out nilV nilV nilV nilV)
      have HX := hid (set4_ext HB2.out HG.out nilV nilV nilV nilV)
      obtain ⟨f0, f1, f2, f3⟩ := ver_cells C2.out
      have ff : ∀ i, w2.frozen? ⟨g2, i, none⟩ = false := fun i => frozen_of_row _ _ _ _ _ C2.out
      go_wp2_with fail
      generalize hwz : (((w2.setCell ⟨g2, 0, none⟩ (.slice none 0 0)).setCell ⟨g2, 1, none⟩ (.slice none 0 0)).setCell ⟨g2, 2, none⟩ (.slice none 0 0)).setCell ⟨g2, 3, none⟩ (.slice none 0 0) = wz
      replace HZ : Hid (wz.heap[g2]? = some (.cells #[nilV, nilV, nilV, nilV] 67 (0, 0))) := by rw [← hwz]; exact HZ
      replace HX : Hid (Below B w wz) := by rw [← hwz]; exact HX
      clear hwz
      obtain ⟨z0, z1, z2, z3⟩ := ver_cells HZ.out
      refine bodyPost_ret (v := .tuple #[.agg #[nilV, nilV, nilV, nilV], .int .i64 c]) ?_ rfl ⟨nilV, nilV, nilV, nilV, ?_, ?_, HBX.out _ HX.out⟩
      · simp [results, Try.results39, go_sem, z0, z1, z2, z3]
      · rw [hR]
      · rw [hR]; exact ver_nil _
  · have hR : R = (140, noneV) := by rw [HD.out, if_pos hc]
    have hne : (verC V != 0) = true := by simpa using hc
    generalize verC V = c at *
    have HZ := hid (set4_heap B2.out nilV nilV nilV nilV)
    have HX := hid (set4_ext HB1.out HG.out nilV nilV nilV nilV)
    obtain ⟨f0, f1, f2, f3⟩ := ver_cells B2.out
    have ff : ∀ i, w1.frozen? ⟨g2, i, none⟩ = false := fun i => frozen_of_row _ _ _ _ _ B2.out
    go_wp2_with fail
    generalize hwz : (((w1.setCell ⟨g2, 0, none⟩ (.slice none 0 0)).setCell ⟨g2, 1, none⟩ (.slice none 0 0)).setCell ⟨g2, 2, none⟩ (.slice none 0 0)).setCell ⟨g2, 3, none⟩ (.slice none 0 0) = wz
    replace HZ : Hid (wz.heap[g2]? = some (.cells #[nilV, nilV, nilV, nilV] 67 (0, 0))) := by rw [← hwz]; exact HZ
    replace HX : Hid (Below B w wz) := by rw [← hwz]; exact HX
    clear hwz
    obtain ⟨z0, z1, z2, z3⟩ := ver_cells HZ.out
    refine bodyPost_ret (v := .tuple #[.agg #[nilV, nilV, nilV, nilV], .int .i64 140]) ?_ rfl ⟨nilV, nilV, nilV, nilV, ?_, ?_, HBX.out _ HX.out⟩
    · simp [results, Try.results39, go_sem, z0, z1, z2, z3]
    · rw [hR]
    · rw [hR]; exact ver_nil _
end Go.Proofs.Ytoonhcmeklmnlaa
