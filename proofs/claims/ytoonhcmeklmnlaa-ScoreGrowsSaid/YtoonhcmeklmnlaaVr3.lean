/- What is wrong with an edit: the walks. -/
import Derived.Test.YtoonhcmeklmnlaaVr2
set_option linter.unusedSimpArgs false
set_option linter.unusedVariables false
set_option linter.unnecessarySimpa false
namespace Go.St
structure Gone where
  level : Int
  num : Int
instance : Inhabited Gone := ⟨⟨0, 0⟩⟩
def eGone (d : Gone) : List Value := [.int .i64 d.level, .int .u64 d.num]
theorem eGone_length (d : Gone) : (eGone d).length = 2 := rfl
structure Ed where
  log : Int
  next : Int
  last : Int
  dels : List Gone
  adds : List File
def firstE : List Int → Int
  | [] => 0
  | c :: cs => if c ≠ 0 then c else firstE cs
theorem firstE_hit {α : Type} [Inhabited α] (f : α → Int) : ∀ (l : List α) (k : Nat), k < l.length → (∀ j, j < k → f (nth l j) = 0) → f (nth l k) ≠ 0 → firstE (l.map f) = f (nth l k)
  | [], k, hk, _, _ => absurd hk (Nat.not_lt_zero _)
  | x :: l, 0, _, _, hn => by
    have hx : f x ≠ 0 := hn
    show (if f x ≠ 0 then f x else _) = f x
    rw [if_pos hx]
  | x :: l, k + 1, hk, hz, hn => by
    have hx : f x = 0 := hz 0 (by omega)
    show (if f x ≠ 0 then f x else firstE (l.map f)) = _
    rw [if_neg (by rw [hx]; decide)]
    exact firstE_hit f l k (by simpa using hk) (fun j hj => hz (j + 1) (by omega)) hn
theorem firstE_none {α : Type} [Inhabited α] (f : α → Int) : ∀ (l : List α), (∀ j, j < l.length → f (nth l j) = 0) → firstE (l.map f) = 0
  | [], _ => rfl
  | x :: l, hz => by
    have hx : f x = 0 := hz 0 (by simp)
    show (if f x ≠ 0 then f x else firstE (l.map f)) = _
    rw [if_neg (by rw [hx]; decide)]
    exact firstE_none f l fun j hj => hz (j + 1) (by simpa using hj)
end Go.St
namespace Go.Proofs.Ytoonhcmeklmnlaa
open Go.RowKit Go.Rg Go.St

def goneC (d : Gone) : Int := placeC d.level d.num
def edC (x : Ed) : Int :=
  if 20000 < x.dels.length ∨ 100 < x.adds.length then 131 else if 1099511627776 < x.log ∨ 1099511627776 < x.next then 132 else if 72057594037927935 < x.last then 22
  else if firstE (x.dels.map goneC) ≠ 0 then firstE (x.dels.map goneC) else firstE (x.adds.map fileC)
theorem next_zero {α : Type} [Inhabited α] {f : α → Int} {l : List α} {k : Nat} (h : ∀ j, j < k → f (nth l j) = 0) (hk : f (nth l k) = 0) : ∀ j, j < k + 1 → f (nth l j) = 0 := fun j hj => by
  rcases Nat.lt_succ_iff_lt_or_eq.1 hj with h1 | rfl
  · exact h j h1
  · exact hk
theorem ed_cells {w : World} {g : Nat} {a b c : Int} {vd va : Value} {ty : TypeId} {fr : Nat × Nat} (h : w.heap[g]? = some (.cells #[.int .u64 a, .int .u64 b, .int .u64 c, vd, va] ty fr)) :
    w.cell? ⟨g, 0, none⟩ = some (.int .u64 a) ∧ w.cell? ⟨g, 1, none⟩ = some (.int .u64 b) ∧ w.cell? ⟨g, 2, none⟩ = some (.int .u64 c) ∧ w.cell? ⟨g, 3, none⟩ = some vd ∧ w.cell? ⟨g, 4, none⟩ = some va := by
  refine ⟨?_, ?_, ?_, ?_, ?_⟩
  all_goals
    rw [cell_of_row _ _ _ _ _ _ h]
    rfl
set_option maxRecDepth 100000 in
set_option maxHeartbeats 2000000 in
theorem edcheck_in (x : Ed) (vd va : Value) (w : World) (hd : SlS w vd 2 eGone x.dels) (ha : SlFile w va x.adds) (hf : ∀ f, f ∈ x.adds → FitF f) :
    Calls Try.prog 72 #[.agg #[.int .u64 x.log, .int .u64 x.next, .int .u64 x.last, vd, va]] w (IntV (edC x) w) := by
  have HD := hid (show edC x = if 20000 < x.dels.length ∨ 100 < x.adds.length then 131 else if 1099511627776 < x.log ∨ 1099511627776 < x.next then 132 else if 72057594037927935 < x.last then 22
    else if firstE (x.dels.map goneC) ≠ 0 then firstE (x.dels.map goneC) else firstE (x.adds.map fileC) from rfl)
  generalize edC x = c at *
  obtain ⟨log, next, last, dels, adds⟩ := x
  simp only at *
  obtain ⟨ad, capd, rfl, hcapd, hmd, hcd⟩ := hd.ex
  obtain ⟨aa, capa, rfl, hcapa, hma, hca⟩ := ha.ex
  unfold maxLen at hmd hma
  have HCD := hid hcd
  have HCA := hid hca
  have HF := hid hf
  clear hd ha hcd hca hf
  go_enter Try.func72, Try.ntmps72
  by_cases h1 : 20000 < dels.length ∨ 100 < adds.length
  · have hc : c = 131 := by rw [HD.out, if_pos h1]
    by_cases h2 : 20000 < dels.length
    · have d1 : decide ((20000 : Int) < (dels.length : Int)) = true := decide_eq_true (by omega)
      go_wp2_with fail
      go_ret
      exact ⟨by first | rfl | (rw [hc]; rfl), (Ext.rfl w).al _⟩
    · have d1 : decide ((20000 : Int) < (dels.length : Int)) = false := decide_eq_false (by omega)
      have d2 : decide ((100 : Int) < (adds.length : Int)) = true := decide_eq_true (by omega)
      go_wp2_with fail
      go_ret
      exact ⟨by first | rfl | (rw [hc]; rfl), (Ext.rfl w).al _⟩
  · have d1 : decide ((20000 : Int) < (dels.length : Int)) = false := decide_eq_false (by omega)
    have d2 : decide ((100 : Int) < (adds.length : Int)) = false := decide_eq_false (by omega)
    by_cases h3 : 1099511627776 < log ∨ 1099511627776 < next
    · have hc : c = 132 := by rw [HD.out, if_neg h1, if_pos h3]
      by_cases h4 : 1099511627776 < log
      · have d3 : decide (1099511627776 < log) = true := decide_eq_true h4
        go_wp2_with fail
        go_ret
        exact ⟨by first | rfl | (rw [hc]; rfl), (Ext.rfl w).al _⟩
      · have d3 : decide (1099511627776 < log) = false := decide_eq_false h4
        have d4 : decide (1099511627776 < next) = true := decide_eq_true (by omega)
        go_wp2_with fail
        go_ret
        exact ⟨by first | rfl | (rw [hc]; rfl), (Ext.rfl w).al _⟩
    · have d3 : decide (1099511627776 < log) = false := decide_eq_false (by omega)
      have d4 : decide (1099511627776 < next) = false := decide_eq_false (by omega)
      by_cases h5 : 72057594037927935 < last
      · have hc : c = 22 := by rw [HD.out, if_neg h1, if_neg h3, if_pos h5]
        have d5 : decide (72057594037927935 < last) = true := decide_eq_true h5
        go_wp2_with fail
        go_ret
        exact ⟨by first | rfl | (rw [hc]; rfl), (Ext.rfl w).al _⟩
      · have d5 : decide (72057594037927935 < last) = false := decide_eq_false h5
        have H1 := hid h1
        have H3 := hid h3
        have H5 := hid h5
        clear h1 h3 h5
        go_wp2_with fail
        have HE0 := hid (heap_alloc_new w (Obj.cells #[.int .u64 log, .int .u64 next, .int .u64 last, .slice ad dels.length capd, .slice aa adds.length capa] 75))
        have E0 := hid (show Ext w (w.alloc (Obj.cells #[.int .u64 log, .int .u64 next, .int .u64 last, .slice ad dels.length capd, .slice aa adds.length capa] 75)) from (Ext.rfl w).al _)
        clear d1 d2 d3 d4 d5
        generalize w.alloc (Obj.cells #[.int .u64 log, .int .u64 next, .int .u64 last, .slice ad dels.length capd, .slice aa adds.length capa] 75) = w1 at *
        generalize w.heap.size = g at *
        go_loopw [36] (fun t wr => ∃ k : Nat, k ≤ dels.length ∧ t = .int .i64 k ∧ Ext w1 wr ∧ ∀ j, j < k → goneC (nth dels j) = 0) (fun t _ => dels.length - (intOf t).toNat)
        case atStart => exact ⟨0, by omega, rfl, Ext.rfl _, fun j h => absurd h (Nat.not_lt_zero _)⟩
        case round =>
          obtain ⟨k, hk, rfl, he, hz⟩ := hrel
          have HE := hid he
          have HZ := hid hz
          clear he hz
          by_cases hlt : k < dels.length
          · obtain ⟨b, off, rfl, hcell⟩ := HCD.out (by omega)
            have c0 : wr.cell? ⟨b, off + k * 2, none⟩ = some (.int .i64 (nth dels k).level) := ext_cell (E0.out.tr HE.out) (hcell k hlt 0 (by omega))
            have c1 : wr.cell? ⟨b, off + k * 2 + 1, none⟩ = some (.int .u64 (nth dels k).num) := ext_cell (E0.out.tr HE.out) (hcell k hlt 1 (by omega))
            clear hcell
            go_wp2_with fail
            refine (place_in (nth dels k).level (nth dels k).num _).mono ?_
            rintro e w3 ⟨rfl, he3⟩
            have E3 := hid ((HE.out.al _).tr he3)
            clear he3 c0 c1
            by_cases hp : goneC (nth dels k) = 0
            · have hp' : placeC (nth dels k).level (nth dels k).num = 0 := hp
              rw [hp']
              go_wp2_with fail
              go_roundw
              case rel => exact ⟨k + 1, hlt, by go_num, E3.out, next_zero HZ.out hp⟩
              case measure => simp [intOf]; omega
            · have hfe := firstE_hit goneC dels k hlt HZ.out hp
              have hc : goneC (nth dels k) = c := by rw [HD.out, if_neg H1.out, if_neg H3.out, if_neg (Int.not_lt.2 H5.out), if_pos (by rw [hfe]; exact hp), hfe]
              rw [hc] at hp
              have hc' : placeC (nth dels k).level (nth dels k).num = c := hc
              rw [hc']
              have hne : (c != 0) = true := by simpa using hp
              clear hc hc' hfe
              go_wp2_with fail
              go_ret
              exact ⟨rfl, E0.out.tr E3.out⟩
          · have : k = dels.length := by omega
            subst this
            obtain ⟨e0, e1, e2, e3, e4⟩ := ed_cells ((HE.out.block _ (vblk_lt HE0.out)).trans HE0.out)
            go_wp2_with fail
            go_loopw [52] (fun t wz => ∃ k : Nat, k ≤ adds.length ∧ t = .int .i64 k ∧ Ext wr wz ∧ ∀ j, j < k → fileC (nth adds j) = 0) (fun t _ => adds.length - (intOf t).toNat)
            case atStart => exact ⟨0, by omega, rfl, Ext.rfl _, fun j h => absurd h (Nat.not_lt_zero _)⟩
            case round =>
              clear e0 e1 e2 e3 e4
              obtain ⟨k, hk, rfl, he, hz⟩ := hrel
              have HE2 := hid he
              have HZ2 := hid hz
              clear he hz
              by_cases hlt : k < adds.length
              · obtain ⟨b, off, rfl, hcell⟩ := HCA.out (by omega)
                obtain ⟨c0, c1, c2, c3, c4, c5, c6, c7, c8⟩ := SlS.at9 (w := wr) (enc := eFile) (xs := adds) (k := k) (fun i hi => ext_cellq (E0.out.tr (HE.out.tr HE2.out)) (hcell k hlt i hi) hi rfl) rfl
                clear hcell
                go_wp2_with fail
                refine (file_in (nth adds k) (HF.out _ (nth_mem _ _ hlt)) _).mono ?_
                rintro e w3 ⟨rfl, he3⟩
                have E3 := hid ((HE2.out.al _).tr he3)
                clear he3 c0 c1 c2 c3 c4 c5 c6 c7 c8
                by_cases hp : fileC (nth adds k) = 0
                · rw [hp]
                  go_wp2_with fail
                  go_roundw
                  case rel => exact ⟨k + 1, hlt, by go_num, E3.out, next_zero HZ2.out hp⟩
                  case measure => simp [intOf]; omega
                · have hfe := firstE_hit fileC adds k hlt HZ2.out hp
                  have hc : fileC (nth adds k) = c := by rw [HD.out, if_neg H1.out, if_neg H3.out, if_neg (Int.not_lt.2 H5.out), if_neg (by rw [firstE_none goneC dels HZ.out]; decide), hfe]
                  rw [hc] at hp ⊢
                  have hne : (c != 0) = true := by simpa using hp
                  clear hc hfe
                  go_wp2_with fail
                  go_ret
                  exact ⟨rfl, E0.out.tr (HE.out.tr E3.out)⟩
              · have : k = adds.length := by omega
                subst this
                have hc : c = 0 := by rw [HD.out, if_neg H1.out, if_neg H3.out, if_neg (Int.not_lt.2 H5.out), if_neg (by rw [firstE_none goneC dels HZ.out]; decide), firstE_none fileC adds HZ2.out]
                go_wp2_with fail
                go_ret
                exact ⟨by first | rfl | (rw [hc]; rfl), E0.out.tr (HE.out.tr HE2.out)⟩

set_option maxRecDepth 100000 in
set_option maxHeartbeats 2000000 in
theorem redcheck_in (x : Ed) (vd va : Value) (w : World) (hd : SlS w vd 2 eGone x.dels) (ha : SlFile w va x.adds) (hf : ∀ f, f ∈ x.adds → FitF f) :
    Calls Try.prog 77 #[.agg #[.int .u64 x.log, .int .u64 x.next, .int .u64 x.last, vd, va]] w (IntV (edC x) w) := by
  have HD := hid (show edC x = if 20000 < x.dels.length ∨ 100 < x.adds.length then 131 else if 1099511627776 < x.log ∨ 1099511627776 < x.next then 132 else if 72057594037927935 < x.last then 22
    else if firstE (x.dels.map goneC) ≠ 0 then firstE (x.dels.map goneC) else firstE (x.adds.map fileC) from rfl)
  generalize edC x = c at *
  obtain ⟨log, next, last, dels, adds⟩ := x
  simp only at *
  obtain ⟨ad, capd, rfl, hcapd, hmd, hcd⟩ := hd.ex
  obtain ⟨aa, capa, rfl, hcapa, hma, hca⟩ := ha.ex
  unfold maxLen at hmd hma
  have HCD := hid hcd
  have HCA := hid hca
  have HF := hid hf
  clear hd ha hcd hca hf
  go_enter Try.func77, Try.ntmps77
  by_cases h1 : 20000 < dels.length ∨ 100 < adds.length
  · have hc : c = 131 := by rw [HD.out, if_pos h1]
    by_cases h2 : 20000 < dels.length
    · have d1 : decide ((20000 : Int) < (dels.length : Int)) = true := decide_eq_true (by omega)
      go_wp2_with fail
      go_ret
      exact ⟨by first | rfl | (rw [hc]; rfl), (Ext.rfl w).al _⟩
    · have d1 : decide ((20000 : Int) < (dels.length : Int)) = false := decide_eq_false (by omega)
      have d2 : decide ((100 : Int) < (adds.length : Int)) = true := decide_eq_true (by omega)
      go_wp2_with fail
      go_ret
      exact ⟨by first | rfl | (rw [hc]; rfl), (Ext.rfl w).al _⟩
  · have d1 : decide ((20000 : Int) < (dels.length : Int)) = false := decide_eq_false (by omega)
    have d2 : decide ((100 : Int) < (adds.length : Int)) = false := decide_eq_false (by omega)
    by_cases h3 : 1099511627776 < log ∨ 1099511627776 < next
    · have hc : c = 132 := by rw [HD.out, if_neg h1, if_pos h3]
      by_cases h4 : 1099511627776 < log
      · have d3 : decide (1099511627776 < log) = true := decide_eq_true h4
        go_wp2_with fail
        go_ret
        exact ⟨by first | rfl | (rw [hc]; rfl), (Ext.rfl w).al _⟩
      · have d3 : decide (1099511627776 < log) = false := decide_eq_false h4
        have d4 : decide (1099511627776 < next) = true := decide_eq_true (by omega)
        go_wp2_with fail
        go_ret
        exact ⟨by first | rfl | (rw [hc]; rfl), (Ext.rfl w).al _⟩
    · have d3 : decide (1099511627776 < log) = false := decide_eq_false (by omega)
      have d4 : decide (1099511627776 < next) = false := decide_eq_false (by omega)
      by_cases h5 : 72057594037927935 < last
      · have hc : c = 22 := by rw [HD.out, if_neg h1, if_neg h3, if_pos h5]
        have d5 : decide (72057594037927935 < last) = true := decide_eq_true h5
        go_wp2_with fail
        go_ret
        exact ⟨by first | rfl | (rw [hc]; rfl), (Ext.rfl w).al _⟩
      · have d5 : decide (72057594037927935 < last) = false := decide_eq_false h5
        have H1 := hid h1
        have H3 := hid h3
        have H5 := hid h5
        clear h1 h3 h5
        go_wp2_with fail
        have HE0 := hid (heap_alloc_new w (Obj.cells #[.int .u64 log, .int .u64 next, .int .u64 last, .slice ad dels.length capd, .slice aa adds.length capa] 75))
        have E0 := hid (show Ext w (w.alloc (Obj.cells #[.int .u64 log, .int .u64 next, .int .u64 last, .slice ad dels.length capd, .slice aa adds.length capa] 75)) from (Ext.rfl w).al _)
        clear d1 d2 d3 d4 d5
        generalize w.alloc (Obj.cells #[.int .u64 log, .int .u64 next, .int .u64 last, .slice ad dels.length capd, .slice aa adds.length capa] 75) = w1 at *
        generalize w.heap.size = g at *
        go_loopw [3] (fun t wr => ∃ k : Nat, k ≤ dels.length ∧ t = .int .i64 k ∧ Ext w1 wr ∧ ∀ j, j < k → goneC (nth dels j) = 0) (fun t _ => dels.length - (intOf t).toNat)
        case atStart => exact ⟨0, by omega, rfl, Ext.rfl _, fun j h => absurd h (Nat.not_lt_zero _)⟩
        case round =>
          obtain ⟨k, hk, rfl, he, hz⟩ := hrel
          have HE := hid he
          have HZ := hid hz
          clear he hz
          by_cases hlt : k < dels.length
          · obtain ⟨b, off, rfl, hcell⟩ := HCD.out (by omega)
            have c0 : wr.cell? ⟨b, off + k * 2, none⟩ = some (.int .i64 (nth dels k).level) := ext_cell (E0.out.tr HE.out) (hcell k hlt 0 (by omega))
            have c1 : wr.cell? ⟨b, off + k * 2 + 1, none⟩ = some (.int .u64 (nth dels k).num) := ext_cell (E0.out.tr HE.out) (hcell k hlt 1 (by omega))
            clear hcell
            obtain ⟨e0, e1, e2, e3, e4⟩ := ed_cells ((HE.out.block _ (vblk_lt HE0.out)).trans HE0.out)
            have PS := rplace_same (nth dels k).level (nth dels k).num
            by_cases hp : goneC (nth dels k) = 0
            · have hp' : placeC (nth dels k).level (nth dels k).num = 0 := hp
              rw [hp'] at PS
              go_wp2_with fail
              go_quiet ((go_at_call 103; exact Calls.quiet_of_same (PS _)))
              go_wp2_with fail
              go_roundw
              case rel => exact ⟨k + 1, hlt, by go_num, HE.out.drN _, next_zero HZ.out hp⟩
              case measure => simp [intOf]; omega
            · have hfe := firstE_hit goneC dels k hlt HZ.out hp
              have hc : goneC (nth dels k) = c := by rw [HD.out, if_neg H1.out, if_neg H3.out, if_neg (Int.not_lt.2 H5.out), if_pos (by rw [hfe]; exact hp), hfe]
              rw [hc] at hp
              have hc' : placeC (nth dels k).level (nth dels k).num = c := hc
              rw [hc'] at PS
              have hne : (c != 0) = true := by simpa using hp
              clear hc hc' hfe
              go_wp2_with fail
              go_quiet ((go_at_call 103; exact Calls.quiet_of_same (PS _)))
              go_wp2_with fail
              go_ret
              exact ⟨rfl, E0.out.tr (HE.out.drN _)⟩
          · have : k = dels.length := by omega
            subst this
            obtain ⟨e0, e1, e2, e3, e4⟩ := ed_cells ((HE.out.block _ (vblk_lt HE0.out)).trans HE0.out)
            go_wp2_with fail
            go_loopw [5] (fun t wz => ∃ k : Nat, k ≤ adds.length ∧ t = .int .i64 k ∧ Ext wr wz ∧ ∀ j, j < k → fileC (nth adds j) = 0) (fun t _ => adds.length - (intOf t).toNat)
            case atStart => exact ⟨0, by omega, rfl, Ext.rfl _, fun j h => absurd h (Nat.not_lt_zero _)⟩
            case round =>
              clear e0 e1 e2 e3 e4
              obtain ⟨k, hk, rfl, he, hz⟩ := hrel
              have HE2 := hid he
              obtain ⟨e0, e1, e2, e3, e4⟩ := ed_cells (((HE.out.tr HE2.out).block _ (vblk_lt HE0.out)).trans HE0.out)
              have HZ2 := hid hz
              clear he hz
              by_cases hlt : k < adds.length
              · obtain ⟨b, off, rfl, hcell⟩ := HCA.out (by omega)
                obtain ⟨c0, c1, c2, c3, c4, c5, c6, c7, c8⟩ := SlS.at9 (w := wr) (enc := eFile) (xs := adds) (k := k) (fun i hi => ext_cellq (E0.out.tr (HE.out.tr HE2.out)) (hcell k hlt i hi) hi rfl) rfl
                clear hcell
                go_wp2_with fail
                refine (rfile_in (nth adds k) (HF.out _ (nth_mem _ _ hlt)) _).mono ?_
                rintro e w3 ⟨rfl, he3⟩
                have E3 := hid (HE2.out.tr he3)
                clear he3 c0 c1 c2 c3 c4 c5 c6 c7 c8
                by_cases hp : fileC (nth adds k) = 0
                · rw [hp]
                  go_wp2_with fail
                  go_roundw
                  case rel => exact ⟨k + 1, hlt, by go_num, E3.out, next_zero HZ2.out hp⟩
                  case measure => simp [intOf]; omega
                · have hfe := firstE_hit fileC adds k hlt HZ2.out hp
                  have hc : fileC (nth adds k) = c := by rw [HD.out, if_neg H1.out, if_neg H3.out, if_neg (Int.not_lt.2 H5.out), if_neg (by rw [firstE_none goneC dels HZ.out]; decide), hfe]
                  rw [hc] at hp ⊢
                  have hne : (c != 0) = true := by simpa using hp
                  clear hc hfe
                  go_wp2_with fail
                  go_ret
                  exact ⟨rfl, E0.out.tr (HE.out.tr E3.out)⟩
              · have : k = adds.length := by omega
                subst this
                have hc : c = 0 := by rw [HD.out, if_neg H1.out, if_neg H3.out, if_neg (Int.not_lt.2 H5.out), if_neg (by rw [firstE_none goneC dels HZ.out]; decide), firstE_none fileC adds HZ2.out]
                go_wp2_with fail
                go_ret
                exact ⟨by first | rfl | (rw [hc]; rfl), E0.out.tr (HE.out.tr HE2.out)⟩
end Go.Proofs.Ytoonhcmeklmnlaa
