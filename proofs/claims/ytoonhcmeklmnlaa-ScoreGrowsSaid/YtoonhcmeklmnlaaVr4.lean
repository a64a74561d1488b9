/- Files that may be together: plain; and the walk of the program's Check. -/
import Derived.Test.YtoonhcmeklmnlaaVr3
import Derived.Test.YtoonhcmeklmnlaaMaps
import Derived.Deep.CutRange
set_option linter.unusedSimpArgs false
set_option linter.unusedVariables false
set_option linter.unnecessarySimpa false
namespace Go.Proofs.Ytoonhcmeklmnlaa
open Go.RowKit Go.Rg Go.St

/-- the numbers met ahead of a place -/
def seenL (V : Nat → List File) (n i : Nat) : List Int := (List.range n).flatMap (fun m => (V m).map (·.num)) ++ ((V n).take i).map (·.num)
theorem seenL_next (V : Nat → List File) (n i : Nat) (h : i < (V n).length) : seenL V n (i + 1) = seenL V n i ++ [(nth (V n) i).num] := by
  unfold seenL
  rw [take_succ_nth _ _ h, List.map_append, List.append_assoc]; rfl
theorem seenL_level (V : Nat → List File) (n : Nat) : seenL V (n + 1) 0 = seenL V n (V n).length := by
  unfold seenL
  rw [List.range_succ, List.flatMap_append, List.take_length]
  simp
def ordF (n : Nat) (p f : File) : Bool := if n = 0 then decide (f.num < p.num) else kl p.large.user f.small.user
def GoodAt (V : Nat → List File) (n i : Nat) : Prop :=
  (nth (V n) i).level = n ∧ (nth (V n) i).num ∉ seenL V n i ∧ fileC (nth (V n) i) = 0 ∧ (0 < i → ordF n (nth (V n) (i - 1)) (nth (V n) i) = true)
def VerOk (V : Nat → List File) : Prop := ∀ n, n < 4 → ∀ i, i < (V n).length → GoodAt V n i
open Classical in
noncomputable def verC (V : Nat → List File) : Int := if VerOk V then 0 else 140
theorem verC_bad {V : Nat → List File} {n i : Nat} (hn : n < 4) (hi : i < (V n).length) (h : ¬ GoodAt V n i) : verC V = 140 := by
  unfold verC
  rw [if_neg (fun hh => h (hh n hn i hi))]
theorem verC_ok {V : Nat → List File} (h : ∀ n, n < 4 → ∀ i, i < (V n).length → GoodAt V n i) : verC V = 0 := by
  unfold verC
  rw [if_pos (show VerOk V from h)]

/-! ### the map of numbers -/
def setW (w : World) (b : Nat) (o : Obj) : World := { w with heap := w.heap.setIfInBounds b o }
theorem setW_ext {w0 w : World} {b : Nat} {o : Obj} (h : Ext w0 w) (hb : w0.heap.size ≤ b) : Ext w0 (setW w b o) := by
  refine ⟨h.os, h.tape, h.output, ?_, fun k hk => ?_⟩
  · show w0.heap.size ≤ (w.heap.setIfInBounds b o).size
    simp; exact h.size
  · show (w.heap.setIfInBounds b o)[k]? = _
    rw [Array.getElem?_setIfInBounds_ne (by omega)]
    exact h.block k hk
def mU (l : List Int) : List (Int × Value) := l.map fun n => (n, .bool true)
abbrev Seen (w : World) (mb : Nat) (l : List Int) : Prop := MapIs w mb (fun n : Int => Value.int .u64 n) (mU l)
theorem lkp_mU (l : List Int) (n : Int) : (lkp (mU l) n).getD (.bool false) = .bool (decide (n ∈ l)) := by
  induction l with
  | nil => rfl
  | cons a l ih =>
    unfold lkp mU at ih ⊢
    rw [List.map_cons, List.find?_cons]
    by_cases h : a = n
    · subst h; simp
    · have h2 : (a == n) = false := by simpa using h
      simp only [h2]
      rw [ih]
      have h3 : ¬ n = a := fun e => h e.symm
      simp [h3]
theorem mU_map : Try.prog.underlying 143 = some (.map 36 4) := by kernel_rfl
theorem mU_key : KeyT Try.prog 36 (fun n : Int => Value.int .u64 n) := keyT_int Try.underlying36
theorem mU_bool : (Try.prog.info? 4).map (·.zero) = some (some (.bool false)) := by kernel_rfl
theorem look_seen {w : World} {mb : Nat} {l : List Int} (h : Seen w mb l) (n : Int) :
    (Instr.lookup 143 (.map (some mb)) (.int .u64 n) false).run Try.prog w = .ok (.bool (decide (n ∈ l))) w := by
  have hz := mU_bool
  cases hq : Try.prog.info? 4 with
  | none => rw [hq] at hz; cases hz
  | some i =>
    rw [hq] at hz
    simp at hz
    have := run_lookup (w := w) mU_map mU_key h n hq hz false
    rw [this]
    simp only [lkp_mU]
    rfl
theorem put_seen {w : World} {mb : Nat} {l : List Int} (h : Seen w mb l) (n : Int) (hno : n ∉ l) :
    ∃ o, (Instr.mapUpdate 143 (.map (some mb)) (.int .u64 n) (.bool true)).run Try.prog w = .ok () (setW w mb o) ∧ Seen (setW w mb o) mb (l ++ [n]) := by
  obtain ⟨o, h1, h2⟩ := run_insert_new mU_map mU_key h n (.bool true) (fun p hp => by
    unfold mU at hp
    obtain ⟨m, hm, rfl⟩ := List.mem_map.1 hp
    exact fun e => hno (by rw [← e]; exact hm))
  refine ⟨o, h1, ?_⟩
  have : mU (l ++ [n]) = mU l ++ [(n, .bool true)] := by unfold mU; rw [List.map_append]; rfl
  unfold Seen
  rw [this]
  exact h2
theorem index_four (v0 v1 v2 v3 : Value) (n : Nat) (h : n < 4) (w : World) : (Instr.index 65 (.agg #[v0, v1, v2, v3]) (.int .i64 (n : Int))).run Try.prog w = .ok (pick4 v0 v1 v2 v3 n) w := by
  obtain rfl | rfl | rfl | rfl : n = 0 ∨ n = 1 ∨ n = 2 ∨ n = 3 := by omega
  all_goals kernel_rfl

theorem edC_one (f : File) : edC ⟨0, 0, 0, [], [f]⟩ = fileC f := by
  unfold edC
  simp [firstE]
  exact fun h => h.symm
theorem Seen.ext {w w' : World} {mb : Nat} {l : List Int} (h : Seen w mb l) (he : Ext w w') : Seen w' mb l := by
  have hlt : mb < w.heap.size := by
    obtain ⟨es, c, h1, _⟩ := h
    exact vblk_lt h1
  exact h.go (he.block _ hlt)
abbrev fileCells (f : File) : Array Value := #[.int .i64 f.level, .int .u64 f.num, .int .i64 f.size, .string f.small.user, .int .u64 f.small.seq, .int .i64 f.small.kind, .string f.large.user, .int .u64 f.large.seq, .int .i64 f.large.kind]

theorem sl_one (f : File) (w : World) : SlFile (w.alloc (.cells (fileCells f) 80)) (.slice (some ⟨w.heap.size, 0, none⟩) 1 1) [f] :=
  ⟨_, 1, rfl, Nat.le_refl _, by decide, fun _ => ⟨_, 0, rfl, fun i hi j hj => by
    obtain rfl : i = 0 := by simpa using hi
    rw [cell_of_row _ _ _ _ _ _ (heap_alloc_new w _), Nat.zero_mul, Nat.zero_add, ← Array.getElem?_toList]
    rfl⟩⟩
set_option maxRecDepth 100000 in
set_option maxHeartbeats 4000000 in
theorem vcheck_in (v0 v1 v2 v3 : Value) (V : Nat → List File) (w : World) (hV : Ver w v0 v1 v2 v3 V) (hf : ∀ n, n < 4 → ∀ f, f ∈ V n → FitF f) :
    Calls Try.prog 42 #[.agg #[v0, v1, v2, v3]] w (IntV (verC V) w) := by
  have HBAD := hid (fun n i => @verC_bad V n i)
  have HOK := hid (@verC_ok V)
  generalize verC V = c at *
  have HV := hid hV
  have HF := hid hf
  have hmm := @run_makeMap Try.prog
  clear hV hf
  go_enter Try.func42, Try.ntmps42
  go_wp2_with fail
  have HE0 := hid (show Ext w ((w.alloc (.cells #[v0, v1, v2, v3] 67)).alloc (.map #[] 0)) from ((Ext.rfl w).al _).al _)
  have HS0 := hid (show Seen ((w.alloc (.cells #[v0, v1, v2, v3] 67)).alloc (.map #[] 0)) (w.heap.size + 1) (seenL V 0 0) from ⟨#[], 0, row_at (Ext.rfl _) (by rw [alloc_size]), rfl⟩)
  have HG := hid (show w.heap.size ≤ w.heap.size + 1 from Nat.le_succ _)
  clear hmm
  generalize (w.alloc (.cells #[v0, v1, v2, v3] 67)).alloc (.map #[] 0) = w1 at *
  generalize w.heap.size + 1 = mb at *
  go_loopw [13] (fun t wr => ∃ n : Nat, n ≤ 4 ∧ t = .int .i64 n ∧ Ext w wr ∧ Seen wr mb (seenL V n 0) ∧ ∀ m, m < n → ∀ i, i < (V m).length → GoodAt V m i) (fun t _ => 4 - (intOf t).toNat)
  case atStart => exact ⟨0, by omega, rfl, HE0.out, HS0.out, fun m h => absurd h (Nat.not_lt_zero _)⟩
  case round =>
    clear HS0 HE0
    obtain ⟨n, hn, rfl, he, hs, hg⟩ := hrel
    have HE := hid he
    have HS := hid hs
    have HGD := hid hg
    clear he hs hg
    by_cases hlt : n < 4
    · obtain ⟨a, cap, ep, hcap, hm, hc⟩ := (HV.out.at hlt).ex
      unfold maxLen at hm
      have ix := fun w => index_four v0 v1 v2 v3 n hlt w
      simp only [ep] at ix
      have HC := hid hc
      clear hc ep
      have dn : decide ((n : Int) < 4) = true := decide_eq_true (by omega)
      go_wp2_with fail
      clear dn
      go_loopw [19] (fun t wr => ∃ i : Nat, i ≤ (V n).length ∧ t = .int .i64 i ∧ Ext w wr ∧ Seen wr mb (seenL V n i) ∧ ∀ j, j < i → GoodAt V n j) (fun t _ => (V n).length - (intOf t).toNat)
      case atStart => exact ⟨0, Nat.zero_le _, rfl, HE.out, HS.out, fun j h => absurd h (Nat.not_lt_zero _)⟩
      case round =>
        clear HE HS ix
        obtain ⟨i, hi, rfl, he, hs, hg⟩ := hrel
        have HE := hid he
        have HS := hid hs
        have HGJ := hid hg
        clear he hs hg
        by_cases hil : i < (V n).length
        · obtain ⟨b, off, rfl, hcell⟩ := HC.out (by omega)
          obtain ⟨c0, c1, c2, c3, c4, c5, c6, c7, c8⟩ := SlS.at9 (w := wr) (enc := eFile) (xs := V n) (k := i) (fun k hk => ext_cellq HE.out (hcell i hil k hk) hk rfl) rfl
          have HCE := hid hcell
          have HFI := hid (HF.out n hlt _ (nth_mem _ _ hil))
          have HNX := hid (seenL_next V n i hil)
          have HBD := hid (HBAD.out n i hlt hil)
          have HGA := hid (show GoodAt V n i ↔ ((nth (V n) i).level = n ∧ (nth (V n) i).num ∉ seenL V n i ∧ fileC (nth (V n) i) = 0) ∧ (0 < i → ordF n (nth (V n) (i - 1)) (nth (V n) i) = true) from by unfold GoodAt; constructor <;> (intro h; simp_all))
          clear hcell
          generalize hfe : nth (V n) i = f at *
          clear hfe
          generalize seenL V n i = L at *
          have di : decide ((i : Int) < ((V n).length : Int)) = true := decide_eq_true (by omega)
          go_upto_region 8 with fail
          clear di
          have E2 := hid (HE.out.al (Obj.cells (fileCells f) 80))
          have S2 := hid (HS.out.ext ((Ext.rfl wr).al (Obj.cells (fileCells f) 80)))
          have B2 := hid (heap_alloc_new wr (Obj.cells (fileCells f) 80))
          clear c0 c1 c2 c3 c4 c5 c6 c7 c8
          generalize wr.heap.size = g at *
          generalize wr.alloc (Obj.cells (fileCells f) 80) = w2 at *
          go_cut [8] from 24 to 40 (fun v wx => v = .bool (decide (¬ (f.level = n ∧ f.num ∉ L ∧ fileC f = 0))) ∧ Ext w wx ∧ Seen wx mb L ∧ wx.heap[g]? = some (Obj.cells (fileCells f) 80 (0, 0)))
          case first =>
            obtain ⟨c0, c1, c2, c3, c4, c5, c6, c7, c8⟩ := file_cells B2.out
            have lk := look_seen S2.out f.num
            by_cases h1 : f.level = n
            · have d1 : (f.level != (n : Int)) = false := by simp [h1]
              by_cases h2 : f.num ∈ L
              · have hb : decide (f.num ∈ L) = true := decide_eq_true h2
                rw [hb] at lk
                have HB := hid (show decide (¬ (f.level = n ∧ f.num ∉ L ∧ fileC f = 0)) = true from decide_eq_true fun h => h.2.1 h2)
                clear h1 h2 hb
                go_wp2_with fail
                go_meet
                case rel => exact ⟨by rw [HB.out], E2.out, S2.out, B2.out⟩
              · have hb : decide (f.num ∈ L) = false := decide_eq_false h2
                rw [hb] at lk
                have HB := hid (show decide (¬ (f.level = n ∧ f.num ∉ L ∧ fileC f = 0)) = !decide (fileC f = 0) from by simp [h1, h2])
                clear h1 h2 hb
                go_wp2_with fail
                refine (edcheck_in ⟨0, 0, 0, [], [f]⟩ (.slice none 0 0) (.slice (some ⟨w2.heap.size, 0, none⟩) 1 1) _ (SlS.nil _ _ _) ?_ ?_).mono ?_
                · exact sl_one f w2
                · intro f' hf'
                  rw [List.mem_singleton.1 hf']
                  exact HFI.out
                rintro e w3 ⟨rfl, he3⟩
                have E3 := hid ((E2.out.al _).tr he3)
                have S3 := hid (S2.out.ext (((Ext.rfl w2).al _).tr he3))
                have B3 := hid (((((Ext.rfl w2).al _).tr he3).block _ (vblk_lt B2.out)).trans B2.out)
                rw [edC_one]
                clear he3 c0 c1 c2 c3 c4 c5 c6 c7 c8 lk
                by_cases h3 : fileC f = 0
                · rw [h3]
                  go_wp2_with fail
                  go_meet
                  case rel => exact ⟨by rw [HB.out, h3]; rfl, E3.out, S3.out, B3.out⟩
                · have d3 : (fileC f != 0) = true := by simpa using h3
                  generalize fileC f = q at *
                  go_wp2_with fail
                  go_meet
                  case rel => exact ⟨by rw [HB.out, decide_eq_false h3]; rfl, E3.out, S3.out, B3.out⟩
            · have d1 : (f.level != (n : Int)) = true := by simpa using h1
              have HB := hid (show decide (¬ (f.level = n ∧ f.num ∉ L ∧ fileC f = 0)) = true from decide_eq_true fun h => h1 h.1)
              clear h1 lk
              go_wp2_with fail
              go_meet
              case rel => exact ⟨by rw [HB.out], E2.out, S2.out, B2.out⟩
          case rest =>
            obtain ⟨rfl, he, hs, hb⟩ := hcut
            have E3 := hid he
            have S3 := hid hs
            have B3 := hid hb
            clear he hs hb E2 S2 B2 HS
            generalize hw1 : decide (¬ (f.level = n ∧ f.num ∉ L ∧ fileC f = 0)) = b1 at *
            have PUT := hid (fun wx (h : Seen wx mb L) (hno : f.num ∉ L) => put_seen h f.num hno)
            cases b1
            · have hgood : f.level = n ∧ f.num ∉ L ∧ fileC f = 0 := Classical.not_not.1 (of_decide_eq_false hw1)
              clear hw1
              have HGOOD := hid hgood
              clear hgood
              rcases Nat.eq_zero_or_pos i with h0 | h0
              · subst h0
                obtain ⟨c0, c1, c2, c3, c4, c5, c6, c7, c8⟩ := file_cells B3.out
                obtain ⟨o, p1, p2⟩ := PUT.out wc S3.out HGOOD.out.2.1
                have HP2 := hid p2
                clear p2
                go_wp2_with fail
                go_roundw
                case rel => exact ⟨1, hil, rfl, setW_ext E3.out HG.out, by rw [HNX.out]; exact HP2.out, fun j hj => by
                  obtain rfl : j = 0 := by omega
                  exact HGA.out.2 ⟨HGOOD.out, fun h => absurd h (Nat.lt_irrefl _)⟩⟩
                case measure => simp [intOf]; omega
              · obtain ⟨k, rfl⟩ : ∃ k, i = k + 1 := ⟨i - 1, by omega⟩
                have HORD := hid (show GoodAt V n (k + 1) ↔ ordF n (nth (V n) k) f = true from ⟨fun h => (HGA.out.1 h).2 (by omega), fun h => HGA.out.2 ⟨HGOOD.out, fun _ => h⟩⟩)
                obtain ⟨c0, c1, c2, c3, c4, c5, c6, c7, c8⟩ := SlS.at9 (w := wc) (enc := eFile) (xs := V n) (k := k) (fun j hj => ext_cellq E3.out (HCE.out k (by omega) j hj) hj rfl) rfl
                generalize nth (V n) k = p at *
                go_upto_region 11 with fail
                have E4 := hid (E3.out.al (Obj.cells (fileCells p) 80))
                have S4 := hid (S3.out.ext ((Ext.rfl wc).al (Obj.cells (fileCells p) 80)))
                have B4 := hid ((((Ext.rfl wc).al (Obj.cells (fileCells p) 80)).block _ (vblk_lt B3.out)).trans B3.out)
                have P4 := hid (heap_alloc_new wc (Obj.cells (fileCells p) 80))
                clear c0 c1 c2 c3 c4 c5 c6 c7 c8 E3 S3 B3
                generalize wc.heap.size = gp at *
                generalize wc.alloc (Obj.cells (fileCells p) 80) = w4 at *
                obtain ⟨c0, c1, c2, c3, c4, c5, c6, c7, c8⟩ := file_cells B4.out
                obtain ⟨q0, q1, q2, q3, q4, q5, q6, q7, q8⟩ := file_cells P4.out
                by_cases ho : ordF n p f = true
                · obtain ⟨o, p1, p2⟩ := PUT.out w4 S4.out HGOOD.out.2.1
                  have HP2 := hid p2
                  have HREL := hid (HORD.out.2 ho)
                  clear p2
                  rcases Nat.eq_zero_or_pos n with hz | hz
                  · subst hz
                    have hlt : f.num < p.num := of_decide_eq_true ho
                    have dq : decide (p.num ≤ f.num) = false := decide_eq_false (by omega)
                    clear ho hlt
                    go_wp2_with fail
                    go_roundw
                    case rel => exact ⟨k + 1 + 1, hil, by go_num, setW_ext E4.out HG.out, by rw [HNX.out]; exact HP2.out, fun j hj => by
                      rcases Nat.lt_succ_iff_lt_or_eq.1 hj with h1 | h1
                      · exact HGJ.out j h1
                      · subst h1; exact HREL.out⟩
                    case measure => simp [intOf]; omega
                  · have dz : ((n : Int) == 0) = false := by simp; omega
                    have dg : decide (0 < (n : Int)) = true := decide_eq_true (by omega)
                    have hkl : Op.bytesLess p.large.user.toList f.small.user.toList = true := by
                      have : ordF n p f = kl p.large.user f.small.user := by unfold ordF; rw [if_neg (by omega)]
                      rw [this] at ho
                      exact ho
                    clear ho
                    go_wp2_with fail
                    go_roundw
                    case rel => exact ⟨k + 1 + 1, hil, by go_num, setW_ext E4.out HG.out, by rw [HNX.out]; exact HP2.out, fun j hj => by
                      rcases Nat.lt_succ_iff_lt_or_eq.1 hj with h1 | h1
                      · exact HGJ.out j h1
                      · subst h1; exact HREL.out⟩
                    case measure => simp [intOf]; omega
                · have hc : c = 140 := HBD.out fun h => ho (HORD.out.1 h)
                  rcases Nat.eq_zero_or_pos n with hz | hz
                  · subst hz
                    have hlt : ¬ f.num < p.num := fun h => ho (decide_eq_true h)
                    have dq : decide (p.num ≤ f.num) = true := decide_eq_true (by omega)
                    clear ho hlt
                    go_wp2_with fail
                    go_ret
                    exact ⟨by first | rfl | (rw [hc]; rfl), E4.out⟩
                  · have dz : ((n : Int) == 0) = false := by simp; omega
                    have dg : decide (0 < (n : Int)) = true := decide_eq_true (by omega)
                    have hkl : Op.bytesLess p.large.user.toList f.small.user.toList = false := by
                      have : ordF n p f = kl p.large.user f.small.user := by unfold ordF; rw [if_neg (by omega)]
                      rw [this] at ho
                      exact Bool.eq_false_iff.2 ho
                    clear ho
                    go_wp2_with fail
                    go_ret
                    exact ⟨by first | rfl | (rw [hc]; rfl), E4.out⟩
            · have hbad : ¬ (f.level = n ∧ f.num ∉ L ∧ fileC f = 0) := of_decide_eq_true hw1
              clear hw1
              have hc : c = 140 := HBD.out fun h => hbad (HGA.out.1 h).1
              clear hbad
              rcases Nat.eq_zero_or_pos i with h0 | h0
              · subst h0
                go_wp2_with fail
                go_ret
                exact ⟨by first | rfl | (rw [hc]; rfl), E3.out⟩
              · obtain ⟨k, rfl⟩ : ∃ k, i = k + 1 := ⟨i - 1, by omega⟩
                obtain ⟨c0, c1, c2, c3, c4, c5, c6, c7, c8⟩ := SlS.at9 (w := wc) (enc := eFile) (xs := V n) (k := k) (fun j hj => ext_cellq E3.out (HCE.out k (by omega) j hj) hj rfl) rfl
                go_wp2_with fail
                go_ret
                exact ⟨by first | rfl | (rw [hc]; rfl), E3.out.al _⟩
        · have : i = (V n).length := by omega
          subst this
          go_wp2_with fail
          go_roundw
          case rel => exact ⟨n + 1, by omega, by go_num, HE.out, by rw [seenL_level]; exact HS.out, fun m hm' q hq => by
            rcases Nat.lt_succ_iff_lt_or_eq.1 hm' with h1 | h1
            · exact HGD.out m h1 q hq
            · subst h1; exact HGJ.out q hq⟩
          case measure => simp [intOf]; omega
    · have : n = 4 := by omega
      subst this
      have hc : c = 0 := HOK.out fun n hn i hi => HGD.out n hn i hi
      go_wp2_with fail
      go_ret
      exact ⟨by first | rfl | (rw [hc]; rfl), HE.out⟩
end Go.Proofs.Ytoonhcmeklmnlaa
