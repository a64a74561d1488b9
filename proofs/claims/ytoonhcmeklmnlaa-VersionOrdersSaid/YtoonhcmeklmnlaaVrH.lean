/- Files that may be together: the walk of the document's Check. -/
import Derived.Test.YtoonhcmeklmnlaaVrG
set_option linter.unusedSimpArgs false
set_option linter.unusedVariables false
set_option linter.unnecessarySimpa false
namespace Go.Proofs.Ytoonhcmeklmnlaa
open Go.RowKit Go.Rg Go.St

theorem el_u64 : ElT Try.prog 81 36 1 8 := ⟨Try.underlying81, by kernel_rfl, by decide, by decide⟩
abbrev eU (n : Int) : Value := .int .u64 n
abbrev OwnU (w : World) (base : Nat) (v : Value) (xs : List Int) : Prop := w.ownsRow base 36 1 v xs.length (xs.map eU)
theorem OwnU.snoc {w : World} {base : Nat} {v : Value} {xs : List Int} {n : Int} (h : w.ownsRow base 36 1 v (xs.length + 1) (xs.map eU ++ [eU n])) : OwnU w base v (xs ++ [n]) := by
  unfold OwnU
  rw [List.length_append, List.map_append]
  exact h
theorem seenL_len {V : Lv} {N : Nat} (hn : ∀ m, m < 4 → (V m).length ≤ N) : ∀ n, n ≤ 4 → ∀ i, i ≤ N → (seenL V n i).length ≤ n * N + i := by
  intro n hn4 i hi
  unfold seenL
  rw [List.length_append, List.length_map, List.length_take]
  have : ((List.range n).flatMap fun m => (V m).map (·.num)).length ≤ n * N := by
    clear hi
    induction n with
    | zero => simp
    | succ n ih =>
      rw [List.range_succ, List.flatMap_append, List.length_append]
      have h1 := ih (by omega)
      have h2 := hn n (by omega)
      simp only [List.flatMap_cons, List.flatMap_nil, List.append_nil, List.length_map]
      rw [Nat.succ_mul]
      omega
  omega
theorem own_ne {w : World} {base : Nat} {v : Value} {xs : List Int} (h : OwnU w base v xs) {g : Nat} {cs : Array Value} {T : TypeId} {fr : Nat × Nat} (hb : w.heap[g]? = some (.cells cs T fr)) (hT : T ≠ 36) : some g ≠ v.ownBlock := by
  rcases h.2 with ⟨rfl, _⟩ | ⟨g2, cap, cur, rfl, _, hg, _⟩
  · exact fun e => by cases e
  · intro e
    have e2 : g = g2 := by cases e; rfl
    subst e2
    rw [hb] at hg
    simp only [Option.some.injEq, Obj.cells.injEq] at hg
    exact hT hg.2.1
theorem ownU_sl1 {w : World} {base : Nat} {v : Value} {xs : List Int} (h : OwnU w base v xs) : Sl1 w v xs.length (fun i => eU (nth xs i)) :=
  (owns_sl1 h).cong fun i hi => by simp [nth, hi]
set_option maxRecDepth 100000 in
set_option maxHeartbeats 8000000 in
theorem rcheck_in (v0 v1 v2 v3 : Value) (V : Nat → List File) (w : World) (hV : Ver w v0 v1 v2 v3 V) (hf : ∀ n, n < 4 → ∀ f, f ∈ V n → FitF f) (hlen : ∀ n, n < 4 → (V n).length ≤ 900000) :
    Calls Try.prog 43 #[.agg #[v0, v1, v2, v3]] w (IntV (verC V) w) := by
  have HBAD := hid (fun n i => @verC_bad V n i)
  have HOK := hid (@verC_ok V)
  generalize verC V = c at *
  have HV := hid hV
  have HF := hid hf
  have HN := hid hlen
  have HSL := hid (seenL_len hlen)
  clear hV hf hlen
  go_enter Try.func43, Try.ntmps43
  go_wp2_with fail
  have B0 := hid (heap_alloc_new w (Obj.cells #[v0, v1, v2, v3] 67))
  have E0 := hid (show Ext w (w.alloc (Obj.cells #[v0, v1, v2, v3] 67)) from (Ext.rfl w).al _)
  generalize w.alloc (Obj.cells #[v0, v1, v2, v3] 67) = w1 at *
  generalize w.heap.size = g0 at *
  go_loopw [3, 4] (fun o t wr => ∃ n : Nat, n ≤ 4 ∧ t = .int .i64 n ∧ Ext w1 wr ∧ OwnU wr w1.heap.size o (seenL V n 0) ∧ ∀ m, m < n → ∀ i, i < (V m).length → GoodAt V m i) (fun _ t _ => 4 - (intOf t).toNat)
  case atStart => exact ⟨0, by omega, rfl, Ext.rfl _, World.ownsRow_nil _ _ _ _, fun m h => absurd h (Nat.not_lt_zero _)⟩
  case round =>
    obtain ⟨n, hn, rfl, he, ho, hg⟩ := hrel
    have HE := hid he
    have HO := hid ho
    have HGD := hid hg
    clear he ho hg
    by_cases hlt : n < 4
    · obtain ⟨a, cap, ep, hcap, hm, hc⟩ := (HV.out.at hlt).ex
      unfold maxLen at hm
      have HC := hid hc
      have HP := hid ep
      clear hc ep
      have hn0 : (0 : Int) ≤ (n : Int) := by omega
      have hn4 : (n : Int) < 4 := by omega
      go_wp2_with fail
      go_loopw [3, 5] (fun o t wr => ∃ i : Nat, i ≤ (V n).length ∧ t = .int .i64 i ∧ Ext w1 wr ∧ OwnU wr w1.heap.size o (seenL V n i) ∧ ∀ j, j < i → GoodAt V n j) (fun _ t _ => (V n).length - (intOf t).toNat)
      case atStart => exact ⟨0, Nat.zero_le _, rfl, HE.out, HO.out, fun j h => absurd h (Nat.not_lt_zero _)⟩
      case round =>
        clear HE HO
        obtain ⟨i, hi, rfl, he, ho, hg⟩ := hrel
        have HE := hid he
        have HO := hid ho
        have HGJ := hid hg
        clear he ho hg
        have hcl := ver_at ((HE.out.block _ (vblk_lt B0.out)).trans B0.out) hlt
        rw [HP.out] at hcl
        by_cases hil : i < (V n).length
        · obtain ⟨b, off, rfl, hcell⟩ := HC.out (by omega)
          obtain ⟨c0, c1, c2, c3, c4, c5, c6, c7, c8⟩ := SlS.at9 (w := wr) (enc := eFile) (xs := V n) (k := i) (fun k hk => ext_cellq (E0.out.tr HE.out) (hcell i hil k hk) hk rfl) rfl
          have HCE := hid hcell
          have HFI := hid (HF.out n hlt _ (nth_mem _ _ hil))
          have HNX := hid (seenL_next V n i hil)
          have HBD := hid (HBAD.out n i hlt hil)
          have HGA := hid (show GoodAt V n i ↔ ((nth (V n) i).level = n ∧ (nth (V n) i).num ∉ seenL V n i ∧ fileC (nth (V n) i) = 0) ∧ (0 < i → ordF n (nth (V n) (i - 1)) (nth (V n) i) = true) from by unfold GoodAt; constructor <;> (intro h; simp_all))
          have hll := HSL.out n (by omega) i (Nat.le_trans hi (HN.out n hlt))
          clear hcell
          generalize hfe : nth (V n) i = f at *
          clear hfe
          generalize seenL V n i = L at *
          go_wp2_with fail
          have E2 := hid (HE.out.al (Obj.cells (fileCells f) 80))
          have O2 := hid (owns_ext HO.out ((Ext.rfl wr).al (Obj.cells (fileCells f) 80)))
          have B2 := hid (heap_alloc_new wr (Obj.cells (fileCells f) 80))
          refine (rfile_in f HFI.out _).mono ?_
          rintro e w3 ⟨rfl, he3⟩
          have E3 := hid (E2.out.tr he3)
          have O3 := hid (owns_ext O2.out he3)
          have B3 := hid ((he3.block _ (vblk_lt B2.out)).trans B2.out)
          clear he3 c0 c1 c2 c3 c4 c5 c6 c7 c8 E2 O2 B2 HE HO hcl
          generalize wr.heap.size = gf at *
          obtain ⟨c0, c1, c2, c3, c4, c5, c6, c7, c8⟩ := file_cells B3.out
          by_cases h1 : fileC f = 0
          · rw [h1]
            by_cases h2 : f.level = n
            · have d2 : (f.level != (n : Int)) = false := by simp [h2]
              have H12 := hid (And.intro h2 h1)
              clear h1 h2
              go_wp2_with fail
              go_loopw [8] (fun t wr => ∃ k : Nat, k ≤ L.length ∧ t = .int .i64 k ∧ Ext w3 wr ∧ ∀ j, j < k → nth L j ≠ f.num) (fun t _ => L.length - (intOf t).toNat)
              case atStart => exact ⟨0, Nat.zero_le _, rfl, Ext.rfl _, fun j h => absurd h (Nat.not_lt_zero _)⟩
              case round =>
                clear c0 c1 c2 c3 c4 c5 c6 c7 c8
                obtain ⟨k, hk, rfl, he, hz⟩ := hrel
                have HE4 := hid he
                have HZ := hid hz
                clear he hz
                have O4 := hid (owns_ext O3.out HE4.out)
                have B4 := hid ((HE4.out.block _ (vblk_lt B3.out)).trans B3.out)
                obtain ⟨c0, c1, c2, c3, c4, c5, c6, c7, c8⟩ := file_cells B4.out
                obtain ⟨aL, cL, rfl, hcL, hmL, hcellL⟩ := (ownU_sl1 O4.out).ex
                unfold maxLen at hmL
                by_cases hkl : k < L.length
                · obtain ⟨bL, oL, rfl, hcL2⟩ := hcellL (by omega)
                  have q0 := hcL2 k hkl
                  have hk0 : (0 : Int) ≤ (k : Int) := by omega
                  have hk1 : (k : Int) < (L.length : Int) := by omega
                  clear hcellL hcL2
                  by_cases h3 : nth L k = f.num
                  · have d3 : (nth L k == f.num) = true := by simp [h3]
                    have hmem : f.num ∈ L := by rw [← h3]; exact nth_mem _ _ hkl
                    have hc : c = 140 := HBD.out fun h => (HGA.out.1 h).1.2.1 hmem
                    clear h3 hmem
                    go_wp2_with fail
                    go_quiet (fail)
                    go_wp2_with fail
                    go_ret
                    exact ⟨by first | rfl | (rw [hc]; rfl), E0.out.tr (E3.out.tr (HE4.out.drN _))⟩
                  · have d3 : (nth L k == f.num) = false := by simp [h3]
                    have H3 := hid h3
                    clear h3
                    go_wp2_with fail
                    go_quiet (fail)
                    go_wp2_with fail
                    go_roundw
                    case rel => exact ⟨k + 1, hkl, by go_num, HE4.out.drN _, fun j hj => by
                      rcases Nat.lt_succ_iff_lt_or_eq.1 hj with h1 | rfl
                      · exact HZ.out j h1
                      · exact H3.out⟩
                    case measure => simp [intOf]; omega
                · have : k = L.length := by omega
                  subst this
                  have HNO := hid (show f.num ∉ L from fun hm => by
                    obtain ⟨j, hj, e⟩ := List.getElem_of_mem hm
                    exact HZ.out j hj (by rw [nth_eq _ _ hj]; exact e))
                  clear hcellL
                  have hgood := H12.out
                  have HGOOD := hid (show f.level = n ∧ f.num ∉ L ∧ fileC f = 0 from ⟨hgood.1, HNO.out, hgood.2⟩)
                  clear hgood
                  rcases Nat.eq_zero_or_pos i with h0 | h0
                  · subst h0
                    go_wp2_with (at_builtin; refine wpList_app el_u64 rfl (owns_ext O4.out ((Ext.rfl wr).al _)) rfl rfl (news_one wr (eU f.num) _) (by simp [Value.oneCell']) (by have := HN.out n hlt; omega) ((E3.out.tr HE4.out).al _).size ?_; intro v' w6 hown6 hg6 hb6; have O6 := hid (OwnU.snoc hown6); have E6 : Hid (Ext w1 w6) := hid (Below.trans ((E3.out.tr HE4.out).al (Obj.cells #[eU f.num] 36)) hb6); have B6 := hid ((hg6.block gf (Nat.lt_of_lt_of_le (vblk_lt B4.out) ((Ext.rfl wr).al (Obj.cells #[eU f.num] 36)).size) (own_ne O4.out B4.out (by decide))).trans ((((Ext.rfl wr).al (Obj.cells #[eU f.num] 36)).block _ (vblk_lt B4.out)).trans B4.out)); clear hown6 hg6 hb6)
                    go_roundw
                    case rel => exact ⟨1, hil, rfl, E6.out, by rw [HNX.out]; exact O6.out, fun j hj => by
                      obtain rfl : j = 0 := by omega
                      exact HGA.out.2 ⟨HGOOD.out, fun h => absurd h (Nat.lt_irrefl _)⟩⟩
                    case measure => simp [intOf]; omega
                  · obtain ⟨k, rfl⟩ : ∃ k, i = k + 1 := ⟨i - 1, by omega⟩
                    have HORD := hid (show GoodAt V n (k + 1) ↔ ordF n (nth (V n) k) f = true from ⟨fun h => (HGA.out.1 h).2 (by omega), fun h => HGA.out.2 ⟨HGOOD.out, fun _ => h⟩⟩)
                    have hCP := HCE.out k (by omega)
                    generalize nth (V n) k = p at *
                    go_upto_region 19 with (at_builtin; refine wpList_app el_u64 rfl (owns_ext O4.out ((Ext.rfl wr).al _)) rfl rfl (news_one wr (eU f.num) _) (by simp [Value.oneCell']) (by have := HN.out n hlt; omega) ((E3.out.tr HE4.out).al _).size ?_; intro v' w6 hown6 hg6 hb6; have O6 := hid (OwnU.snoc hown6); have E6 : Hid (Ext w1 w6) := hid (Below.trans ((E3.out.tr HE4.out).al (Obj.cells #[eU f.num] 36)) hb6); have B6 := hid ((hg6.block gf (Nat.lt_of_lt_of_le (vblk_lt B4.out) ((Ext.rfl wr).al (Obj.cells #[eU f.num] 36)).size) (own_ne O4.out B4.out (by decide))).trans ((((Ext.rfl wr).al (Obj.cells #[eU f.num] 36)).block _ (vblk_lt B4.out)).trans B4.out)); clear hown6 hg6 hb6)
                    clear c0 c1 c2 c3 c4 c5 c6 c7 c8
                    have hcl := ver_at ((E6.out.block _ (vblk_lt B0.out)).trans B0.out) hlt
                    rw [HP.out] at hcl
                    have HRA := hid (show ∀ w', Ext w6 w' → w'.rangeAt b (off + k * 9) (eFile p) from fun w' he i v hv => by
                      have hi : i < 9 := (List.getElem?_eq_some_iff.1 hv).1
                      exact (ext_cellq (E0.out.tr (E6.out.tr he)) (hCP i hi) hi rfl).trans hv)
                    have HCP := hid hCP
                    clear hCP
                    refine wp_draw (by kernel_rfl) (by kernel_rfl) ?_
                    refine rg_step 60 (ob_move (by rfl) (by rfl)) rfl (by rfl) ?_
                    refine rg_step 61 (ob_field (n := 3) 0 0 65 (by rfl) (by rfl) Try.underlying67 (by rfl) (by kernel_rfl) rfl) rfl (by rfl) ?_
                    refine rg_step 62 (ob_arr 1 n (by rfl) (by rfl) (by rfl) Try.underlying65 (by kernel_rfl) hn0 hn4 (by simp)) rfl (by rfl) ?_
                    refine rg_step 63 (ob_load (v := .slice (some ⟨b, off, none⟩) (V n).length cap) (by rfl) (by rfl) (by kernel_rfl) (fun w' he => ext_cell he hcl)) rfl (by rfl) ?_
                    refine rg_step 64 (ob_move (by rfl) (by rfl)) rfl (by rfl) ?_
                    refine rg_step 65 (ob_iarith ((k : Nat) : Int) ((k : Nat) : Int) (by rfl) (by rfl) (by rfl) (by show some (((k : Int) + 1) - 1) = _; congr 1; omega) (IntWalk.i64_in _ (by omega))) rfl (by rfl) ?_
                    refine rg_step 66 (ob_index 9 (off + k * 9) (by rfl) (by rfl) (by rfl) Try.underlying64 (by kernel_rfl) (Int.natCast_nonneg k) (by omega) (by rw [Int.toNat_natCast])) rfl (by rfl) ?_
                    refine rg_step 67 (ob_loadmid (cs := eFile p) (by rfl) (by rfl) (fun w' he => HRA.out w' he) Try.underlying80 rfl (by kernel_rfl)) rfl (by rfl) ?_
                    refine rg_step 68 (ob_loadrow (cs := fileCells f) (by rfl) (by rfl) (fun w' he => (he.block _ (vblk_lt B6.out)).trans B6.out) Try.underlying80 rfl (by kernel_rfl)) rfl (by rfl) ?_
                    refine rg_step 69 (ob_call (.ex (.bool (kl p.large.user f.small.user))) (by rfl) cf_apart (fun w he => gives_ex (apart_in p f w))) rfl (by rfl) ?_
                    refine rg_step 9 (ob_assign (by rfl) (by rfl)) rfl (by rfl) ?_
                    refine rg_end ?_
                    intro w7 he7
                    simp only [asg, List.set_cons_zero, List.set_cons_succ, List.map_cons, List.map_nil, opens]
                    have E7 := hid (E6.out.tr he7)
                    have O7 := hid (owns_ext O6.out he7)
                    have B7 := hid ((he7.block _ (vblk_lt B6.out)).trans B6.out)
                    clear he7 hcl
                    have hcl := ver_at ((E7.out.block _ (vblk_lt B0.out)).trans B0.out) hlt
                    rw [HP.out] at hcl
                    obtain ⟨c0, c1, c2, c3, c4, c5, c6, c7, c8⟩ := file_cells B7.out
                    obtain ⟨q0, q1, q2, q3, q4, q5, q6, q7, q8⟩ : _ := show _ from SlS.at9 (w := w7) (enc := eFile) (xs := [p]) (k := 0) (b := b) (off := off + k * 9) (fun i hi => by rw [Nat.zero_mul, Nat.add_zero]; exact ext_cellq (E0.out.tr E7.out) (HCP.out i hi) hi rfl) rfl
                    simp only [Nat.zero_mul, Nat.add_zero] at q0 q1
                    have hw : IntKind.i64.wrap ((k : Int) + 1 - 1) = (k : Int) := by rw [show (k : Int) + 1 - 1 = (k : Int) by omega]; exact IntWalk.i64_in _ (by omega)
                    have hk0 : (0 : Int) ≤ (k : Int) := by omega
                    have hk1 : (k : Int) < ((V n).length : Int) := by omega
                    by_cases ho : ordF n p f = true
                    · have HREL := hid (HORD.out.2 ho)
                      rcases Nat.eq_zero_or_pos n with hz | hz
                      · have hlt : f.num < p.num := by unfold ordF at ho; rw [if_pos hz] at ho; exact of_decide_eq_true ho
                        have HZ0 := hid hz
                        clear ho hz
                        go_wp2_with fail
                        refine wp_draw (by kernel_rfl) (by kernel_rfl) ?_
                        refine rg_step 70 (ob_move (by rfl) (by rfl)) rfl (by rfl) ?_
                        refine rg_step 71 (ob_icmp true (by rfl) (by rfl) (by rfl) (by have := HZ0.out; unfold icmp; simp <;> omega)) rfl (by rfl) ?_
                        refine rg_step 72 (ob_move (by rfl) (by rfl)) rfl (by rfl) ?_
                        refine rg_step 73 (ob_move (by rfl) (by rfl)) rfl (by rfl) ?_
                        refine rg_step 74 (ob_field (n := 3) 0 0 65 (by rfl) (by rfl) Try.underlying67 (by rfl) (by kernel_rfl) rfl) rfl (by rfl) ?_
                        refine rg_step 75 (ob_arr 1 n (by rfl) (by rfl) (by rfl) Try.underlying65 (by kernel_rfl) hn0 hn4 (by simp)) rfl (by rfl) ?_
                        refine rg_step 76 (ob_load (v := .slice (some ⟨b, off, none⟩) (V n).length cap) (by rfl) (by rfl) (by kernel_rfl) (fun w' he => ext_cell he hcl)) rfl (by rfl) ?_
                        refine rg_step 77 (ob_move (by rfl) (by rfl)) rfl (by rfl) ?_
                        refine rg_step 78 (ob_iarith ((k : Nat) : Int) ((k : Nat) : Int) (by rfl) (by rfl) (by rfl) (by show some (((k : Int) + 1) - 1) = _; congr 1; omega) (IntWalk.i64_in _ (by omega))) rfl (by rfl) ?_
                        refine rg_step 79 (ob_index 9 (off + k * 9) (by rfl) (by rfl) (by rfl) Try.underlying64 (by kernel_rfl) (Int.natCast_nonneg k) (by omega) (by rw [Int.toNat_natCast])) rfl (by rfl) ?_
                        refine rg_step 80 (ob_field (n := 0) ((off + k * 9) + 1) 1 36 (by rfl) (by rfl) Try.underlying80 (by rfl) (by kernel_rfl) rfl) rfl (by rfl) ?_
                        refine rg_step 81 (ob_load (v := .int .u64 p.num) (by rfl) (by rfl) (by kernel_rfl) (fun w' he => ext_cell he q1)) rfl (by rfl) ?_
                        refine rg_step 82 (ob_field (n := 0) (0 + 1) 1 36 (by rfl) (by rfl) Try.underlying80 (by rfl) (by kernel_rfl) rfl) rfl (by rfl) ?_
                        refine rg_step 83 (ob_load (v := .int .u64 f.num) (by rfl) (by rfl) (by kernel_rfl) (fun w' he => ext_cell he c1)) rfl (by rfl) ?_
                        refine rg_step 84 (ob_icmp false (by rfl) (by rfl) (by rfl) (by have := HZ0.out; unfold icmp; simp <;> omega)) rfl (by rfl) ?_
                        refine rg_step 85 (ob_pick true (by rfl) (by rfl) (by rfl)) rfl (by rfl) ?_
                        refine rg_step 86 (ob_move (by rfl) (by rfl)) rfl (by rfl) ?_
                        refine rg_step 87 (ob_move (by rfl) (by rfl)) rfl (by rfl) ?_
                        refine rg_step 88 (ob_icmp false (by rfl) (by rfl) (by rfl) (by have := HZ0.out; unfold icmp; simp <;> omega)) rfl (by rfl) ?_
                        refine rg_step 89 (ob_move (by rfl) (by rfl)) rfl (by rfl) ?_
                        refine rg_step 90 (ob_skip (by rfl)) rfl (by rfl) ?_
                        refine rg_step 91 (ob_skip (by rfl)) rfl (by rfl) ?_
                        refine rg_step 92 (ob_pick false (by rfl) (by rfl) (by rfl)) rfl (by rfl) ?_
                        refine rg_step 93 (ob_pick false (by rfl) (by rfl) (by rfl)) rfl (by rfl) ?_
                        refine rg_end ?_
                        intro w8 he8
                        simp only [asg, List.set_cons_zero, List.set_cons_succ, List.map_cons, List.map_nil, opens]
                        have E8 := hid (E7.out.tr he8)
                        have O8 := hid (owns_ext O7.out he8)
                        clear he8
                        go_wp2_with fail
                        go_roundw
                        case rel => exact ⟨k + 1 + 1, hil, by go_num, E8.out, by rw [HNX.out]; exact O8.out, fun j hj => by
                          rcases Nat.lt_succ_iff_lt_or_eq.1 hj with h1 | h1
                          · exact HGJ.out j h1
                          · subst h1; exact HREL.out⟩
                        case measure => simp [intOf]; omega
                      · have hkl : kl p.large.user f.small.user = true := by unfold ordF at ho; rw [if_neg (by omega)] at ho; exact ho
                        have HZ0 := hid hz
                        clear ho hz
                        rw [hkl]
                        clear hkl
                        go_wp2_with fail
                        refine wp_draw (by kernel_rfl) (by kernel_rfl) ?_
                        refine rg_step 70 (ob_move (by rfl) (by rfl)) rfl (by rfl) ?_
                        refine rg_step 71 (ob_icmp false (by rfl) (by rfl) (by rfl) (by have := HZ0.out; unfold icmp; simp <;> omega)) rfl (by rfl) ?_
                        refine rg_step 72 (ob_move (by rfl) (by rfl)) rfl (by rfl) ?_
                        refine rg_step 73 (ob_skip (by rfl)) rfl (by rfl) ?_
                        refine rg_step 74 (ob_skip (by rfl)) rfl (by rfl) ?_
                        refine rg_step 75 (ob_skip (by rfl)) rfl (by rfl) ?_
                        refine rg_step 76 (ob_skip (by rfl)) rfl (by rfl) ?_
                        refine rg_step 77 (ob_skip (by rfl)) rfl (by rfl) ?_
                        refine rg_step 78 (ob_skip (by rfl)) rfl (by rfl) ?_
                        refine rg_step 79 (ob_skip (by rfl)) rfl (by rfl) ?_
                        refine rg_step 80 (ob_skip (by rfl)) rfl (by rfl) ?_
                        refine rg_step 81 (ob_skip (by rfl)) rfl (by rfl) ?_
                        refine rg_step 82 (ob_skip (by rfl)) rfl (by rfl) ?_
                        refine rg_step 83 (ob_skip (by rfl)) rfl (by rfl) ?_
                        refine rg_step 84 (ob_skip (by rfl)) rfl (by rfl) ?_
                        refine rg_step 85 (ob_pick false (by rfl) (by rfl) (by rfl)) rfl (by rfl) ?_
                        refine rg_step 86 (ob_move (by rfl) (by rfl)) rfl (by rfl) ?_
                        refine rg_step 87 (ob_move (by rfl) (by rfl)) rfl (by rfl) ?_
                        refine rg_step 88 (ob_icmp true (by rfl) (by rfl) (by rfl) (by have := HZ0.out; unfold icmp; simp <;> omega)) rfl (by rfl) ?_
                        refine rg_step 89 (ob_move (by rfl) (by rfl)) rfl (by rfl) ?_
                        refine rg_step 90 (ob_move (by rfl) (by rfl)) rfl (by rfl) ?_
                        refine rg_step 91 (ob_not true (by rfl) (by rfl)) rfl (by rfl) ?_
                        refine rg_step 92 (ob_pick true (by rfl) (by rfl) (by rfl)) rfl (by rfl) ?_
                        refine rg_step 93 (ob_pick false (by rfl) (by rfl) (by rfl)) rfl (by rfl) ?_
                        refine rg_end ?_
                        intro w8 he8
                        simp only [asg, List.set_cons_zero, List.set_cons_succ, List.map_cons, List.map_nil, opens]
                        have E8 := hid (E7.out.tr he8)
                        have O8 := hid (owns_ext O7.out he8)
                        clear he8
                        go_wp2_with fail
                        go_roundw
                        case rel => exact ⟨k + 1 + 1, hil, by go_num, E8.out, by rw [HNX.out]; exact O8.out, fun j hj => by
                          rcases Nat.lt_succ_iff_lt_or_eq.1 hj with h1 | h1
                          · exact HGJ.out j h1
                          · subst h1; exact HREL.out⟩
                        case measure => simp [intOf]; omega
                    · have hc : c = 140 := HBD.out fun h => ho (HORD.out.1 h)
                      rcases Nat.eq_zero_or_pos n with hz | hz
                      · have hlt : ¬ f.num < p.num := fun h => ho (by unfold ordF; rw [if_pos hz]; exact decide_eq_true h)
                        have HZ0 := hid hz
                        clear ho hz
                        go_wp2_with fail
                        refine wp_draw (by kernel_rfl) (by kernel_rfl) ?_
                        refine rg_step 70 (ob_move (by rfl) (by rfl)) rfl (by rfl) ?_
                        refine rg_step 71 (ob_icmp true (by rfl) (by rfl) (by rfl) (by have := HZ0.out; unfold icmp; simp <;> omega)) rfl (by rfl) ?_
                        refine rg_step 72 (ob_move (by rfl) (by rfl)) rfl (by rfl) ?_
                        refine rg_step 73 (ob_move (by rfl) (by rfl)) rfl (by rfl) ?_
                        refine rg_step 74 (ob_field (n := 3) 0 0 65 (by rfl) (by rfl) Try.underlying67 (by rfl) (by kernel_rfl) rfl) rfl (by rfl) ?_
                        refine rg_step 75 (ob_arr 1 n (by rfl) (by rfl) (by rfl) Try.underlying65 (by kernel_rfl) hn0 hn4 (by simp)) rfl (by rfl) ?_
                        refine rg_step 76 (ob_load (v := .slice (some ⟨b, off, none⟩) (V n).length cap) (by rfl) (by rfl) (by kernel_rfl) (fun w' he => ext_cell he hcl)) rfl (by rfl) ?_
                        refine rg_step 77 (ob_move (by rfl) (by rfl)) rfl (by rfl) ?_
                        refine rg_step 78 (ob_iarith ((k : Nat) : Int) ((k : Nat) : Int) (by rfl) (by rfl) (by rfl) (by show some (((k : Int) + 1) - 1) = _; congr 1; omega) (IntWalk.i64_in _ (by omega))) rfl (by rfl) ?_
                        refine rg_step 79 (ob_index 9 (off + k * 9) (by rfl) (by rfl) (by rfl) Try.underlying64 (by kernel_rfl) (Int.natCast_nonneg k) (by omega) (by rw [Int.toNat_natCast])) rfl (by rfl) ?_
                        refine rg_step 80 (ob_field (n := 0) ((off + k * 9) + 1) 1 36 (by rfl) (by rfl) Try.underlying80 (by rfl) (by kernel_rfl) rfl) rfl (by rfl) ?_
                        refine rg_step 81 (ob_load (v := .int .u64 p.num) (by rfl) (by rfl) (by kernel_rfl) (fun w' he => ext_cell he q1)) rfl (by rfl) ?_
                        refine rg_step 82 (ob_field (n := 0) (0 + 1) 1 36 (by rfl) (by rfl) Try.underlying80 (by rfl) (by kernel_rfl) rfl) rfl (by rfl) ?_
                        refine rg_step 83 (ob_load (v := .int .u64 f.num) (by rfl) (by rfl) (by kernel_rfl) (fun w' he => ext_cell he c1)) rfl (by rfl) ?_
                        refine rg_step 84 (ob_icmp true (by rfl) (by rfl) (by rfl) (by have := HZ0.out; unfold icmp; simp <;> omega)) rfl (by rfl) ?_
                        refine rg_step 85 (ob_pick true (by rfl) (by rfl) (by rfl)) rfl (by rfl) ?_
                        refine rg_step 86 (ob_move (by rfl) (by rfl)) rfl (by rfl) ?_
                        refine rg_step 87 (ob_skip (by rfl)) rfl (by rfl) ?_
                        refine rg_step 88 (ob_skip (by rfl)) rfl (by rfl) ?_
                        refine rg_step 89 (ob_skip (by rfl)) rfl (by rfl) ?_
                        refine rg_step 90 (ob_skip (by rfl)) rfl (by rfl) ?_
                        refine rg_step 91 (ob_skip (by rfl)) rfl (by rfl) ?_
                        refine rg_step 92 (ob_skip (by rfl)) rfl (by rfl) ?_
                        refine rg_step 93 (ob_pick true (by rfl) (by rfl) (by rfl)) rfl (by rfl) ?_
                        refine rg_end ?_
                        intro w8 he8
                        simp only [asg, List.set_cons_zero, List.set_cons_succ, List.map_cons, List.map_nil, opens]
                        have E8 := hid (E7.out.tr he8)
                        have O8 := hid (owns_ext O7.out he8)
                        clear he8
                        go_wp2_with fail
                        go_ret
                        exact ⟨by first | rfl | (rw [hc]; rfl), E0.out.tr E8.out⟩
                      · have hkl : kl p.large.user f.small.user = false := by
                          have : ordF n p f = kl p.large.user f.small.user := by unfold ordF; rw [if_neg (by omega)]
                          rw [this] at ho
                          exact Bool.eq_false_iff.2 ho
                        have HZ0 := hid hz
                        clear ho hz
                        rw [hkl]
                        clear hkl
                        go_wp2_with fail
                        refine wp_draw (by kernel_rfl) (by kernel_rfl) ?_
                        refine rg_step 70 (ob_move (by rfl) (by rfl)) rfl (by rfl) ?_
                        refine rg_step 71 (ob_icmp false (by rfl) (by rfl) (by rfl) (by have := HZ0.out; unfold icmp; simp <;> omega)) rfl (by rfl) ?_
                        refine rg_step 72 (ob_move (by rfl) (by rfl)) rfl (by rfl) ?_
                        refine rg_step 73 (ob_skip (by rfl)) rfl (by rfl) ?_
                        refine rg_step 74 (ob_skip (by rfl)) rfl (by rfl) ?_
                        refine rg_step 75 (ob_skip (by rfl)) rfl (by rfl) ?_
                        refine rg_step 76 (ob_skip (by rfl)) rfl (by rfl) ?_
                        refine rg_step 77 (ob_skip (by rfl)) rfl (by rfl) ?_
                        refine rg_step 78 (ob_skip (by rfl)) rfl (by rfl) ?_
                        refine rg_step 79 (ob_skip (by rfl)) rfl (by rfl) ?_
                        refine rg_step 80 (ob_skip (by rfl)) rfl (by rfl) ?_
                        refine rg_step 81 (ob_skip (by rfl)) rfl (by rfl) ?_
                        refine rg_step 82 (ob_skip (by rfl)) rfl (by rfl) ?_
                        refine rg_step 83 (ob_skip (by rfl)) rfl (by rfl) ?_
                        refine rg_step 84 (ob_skip (by rfl)) rfl (by rfl) ?_
                        refine rg_step 85 (ob_pick false (by rfl) (by rfl) (by rfl)) rfl (by rfl) ?_
                        refine rg_step 86 (ob_move (by rfl) (by rfl)) rfl (by rfl) ?_
                        refine rg_step 87 (ob_move (by rfl) (by rfl)) rfl (by rfl) ?_
                        refine rg_step 88 (ob_icmp true (by rfl) (by rfl) (by rfl) (by have := HZ0.out; unfold icmp; simp <;> omega)) rfl (by rfl) ?_
                        refine rg_step 89 (ob_move (by rfl) (by rfl)) rfl (by rfl) ?_
                        refine rg_step 90 (ob_move (by rfl) (by rfl)) rfl (by rfl) ?_
                        refine rg_step 91 (ob_not false (by rfl) (by rfl)) rfl (by rfl) ?_
                        refine rg_step 92 (ob_pick true (by rfl) (by rfl) (by rfl)) rfl (by rfl) ?_
                        refine rg_step 93 (ob_pick false (by rfl) (by rfl) (by rfl)) rfl (by rfl) ?_
                        refine rg_end ?_
                        intro w8 he8
                        simp only [asg, List.set_cons_zero, List.set_cons_succ, List.map_cons, List.map_nil, opens]
                        have E8 := hid (E7.out.tr he8)
                        have O8 := hid (owns_ext O7.out he8)
                        clear he8
                        go_wp2_with fail
                        go_ret
                        exact ⟨by first | rfl | (rw [hc]; rfl), E0.out.tr E8.out⟩
            · have d2 : (f.level != (n : Int)) = true := by simpa using h2
              have hc : c = 140 := HBD.out fun h => h2 (HGA.out.1 h).1.1
              clear h1 h2
              go_wp2_with fail
              go_ret
              exact ⟨by first | rfl | (rw [hc]; rfl), E0.out.tr E3.out⟩
          · have d1 : (fileC f != 0) = true := by simpa using h1
            have hc : c = 140 := HBD.out fun h => h1 (HGA.out.1 h).1.2.2
            clear h1
            generalize fileC f = q at *
            go_wp2_with fail
            go_ret
            exact ⟨by first | rfl | (rw [hc]; rfl), E0.out.tr E3.out⟩
        · have : i = (V n).length := by omega
          subst this
          go_wp2_with fail
          go_roundw
          case rel => exact ⟨n + 1, by omega, by go_num, HE.out, by rw [seenL_level]; exact HO.out, fun m hm' q hq => by
            rcases Nat.lt_succ_iff_lt_or_eq.1 hm' with h1 | h1
            · exact HGD.out m h1 q hq
            · subst h1; exact HGJ.out q hq⟩
          case measure => simp [intOf]; omega
    · have : n = 4 := by omega
      subst this
      have hc : c = 0 := HOK.out fun n hn i hi => HGD.out n hn i hi
      go_wp2_with fail
      go_ret
      exact ⟨by first | rfl | (rw [hc]; rfl), E0.out.tr HE.out⟩
end Go.Proofs.Ytoonhcmeklmnlaa
