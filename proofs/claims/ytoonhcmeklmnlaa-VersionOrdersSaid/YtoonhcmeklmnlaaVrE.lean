/- The references' files: owned, without one, with one; two versions the same. -/
import Derived.Test.YtoonhcmeklmnlaaVrB
import Derived.Test.YtoonhcmeklmnlaaIn5
set_option linter.unusedSimpArgs false
set_option linter.unusedVariables false
set_option linter.unnecessarySimpa false
namespace Go.Proofs.Ytoonhcmeklmnlaa
open Go.RowKit Go.Rg Go.St

theorem run_app_none (a : Option Addr) (n c c' : Nat) (ty : TypeId) (w : World) (h : n ≤ c) :
    (Builtin.append_ #[64, 64] ty #[.slice a n c, .slice none 0 c']).run Try.prog w = .ok (.slice a n c) w := by
  obtain ⟨i, z, hi, hz, h2, h3, h4⟩ := elF_parts
  have ht := Try.underlying64
  cases a <;> simp [Builtin.append_, run_underlying ht, sizeOf, typeInfo, zeroValue, hi, hz, h2, h, Builtin.lenOf, Builtin.firstCells, storeCells]
/-- a slice that is read, as what is appended -/
theorem slF_src {w : World} {v : Value} {xs : List File} (h : SlFile w v xs) : (∃ ad c, v = .slice (some ad) xs.length c ∧ ∀ w', Ext w w' → ∀ j u, (xs.flatMap eFile)[j]? = some u → w'.cell? (ad.add j) = some u) ∨ (∃ c, v = .slice none 0 c ∧ xs = []) := by
  obtain ⟨a, cap, rfl, hcap, hm, hc⟩ := h.ex
  cases a with
  | none =>
    rcases Nat.eq_zero_or_pos xs.length with h0 | h0
    · exact .inr ⟨cap, by rw [h0], List.eq_nil_of_length_eq_zero h0⟩
    · obtain ⟨b, off, e, _⟩ := hc h0
      cases e
  | some ad =>
    refine .inl ⟨ad, cap, rfl, ?_⟩
    rcases Nat.eq_zero_or_pos xs.length with h0 | h0
    · obtain rfl := List.eq_nil_of_length_eq_zero h0
      intro w' he j u hu
      simp at hu
    · obtain ⟨b, off, e, hcell⟩ := hc h0
      simp only [Option.some.injEq] at e
      intro w' he
      exact slF_news e fun i hi j hj => ext_cellq he (hcell i hi j hj) hj rfl
theorem slF_zero (w : World) (a : Option Addr) (c : Nat) (hc : c ≤ maxLen) : SlFile w (.slice a 0 c) [] := ⟨a, c, rfl, Nat.zero_le _, hc, fun h => absurd h (Nat.lt_irrefl _)⟩
theorem setCell_size (w : World) (a : Addr) (v : Value) : (w.setCell a v).heap.size = w.heap.size := by simp [World.setCell]
def VerP (V : Lv) (w : World) (e : Ending) (w' : World) : Prop := ∃ u0 u1 u2 u3, e = .returned (.agg #[u0, u1, u2, u3]) ∧ Ver w' u0 u1 u2 u3 V ∧ Ext w w'
set_option maxRecDepth 100000 in
set_option maxHeartbeats 4000000 in
theorem own_in (v0 v1 v2 v3 : Value) (V : Lv) (w : World) (hV : Ver w v0 v1 v2 v3 V) (hn : ∀ n, n < 4 → (V n).length ≤ 1000000) :
    Calls Try.prog 38 #[.agg #[v0, v1, v2, v3]] w (VerP V w) := by
  have HV := hid hV
  have HN := hid hn
  clear hV hn
  go_enter Try.func38, Try.ntmps38
  go_wp2_with fail
  obtain ⟨B, HBX, HB0⟩ : ∃ B, Hid (∀ w', Below B w w' → Ext w w') ∧ Hid (B = w.heap.size) := ⟨_, fun _ h => h, rfl⟩
  have G0 := hid (row_at (w := w) (g := w.heap.size) (o := Obj.cells #[v0, v1, v2, v3] 67) (w' := (w.alloc (Obj.cells #[v0, v1, v2, v3] 67)).alloc (Obj.cells #[nilV, nilV, nilV, nilV] 67)) ((Ext.rfl _).al _) rfl)
  have G1 := hid (row_at (w := w.alloc (Obj.cells #[v0, v1, v2, v3] 67)) (g := w.heap.size + 1) (o := Obj.cells #[nilV, nilV, nilV, nilV] 67) (Ext.rfl _) (by rw [alloc_size]))
  have E1 := hid (show Below B w ((w.alloc (Obj.cells #[v0, v1, v2, v3] 67)).alloc (Obj.cells #[nilV, nilV, nilV, nilV] 67)) by rw [HB0.out]; exact ((Ext.rfl w).al _).al _)
  have HG := hid (show B ≤ w.heap.size + 1 by rw [HB0.out]; omega)
  have S0 := hid (setAt_new V ((w.alloc (Obj.cells #[v0, v1, v2, v3] 67)).alloc (Obj.cells #[nilV, nilV, nilV, nilV] 67)) 67)
  have hws : ((w.alloc (Obj.cells #[v0, v1, v2, v3] 67)).alloc (Obj.cells #[nilV, nilV, nilV, nilV] 67)).heap.size = w.heap.size + 1 + 1 := by rw [alloc_size, alloc_size]
  rw [hws] at S0
  have E3 := hid (show Below (w.heap.size + 1 + 1) ((w.alloc (Obj.cells #[v0, v1, v2, v3] 67)).alloc (Obj.cells #[nilV, nilV, nilV, nilV] 67)) (((w.alloc (Obj.cells #[v0, v1, v2, v3] 67)).alloc (Obj.cells #[nilV, nilV, nilV, nilV] 67)).alloc (Obj.cells #[nilV, nilV, nilV, nilV] 67)) by rw [← hws]; exact (Ext.rfl _).al _)
  generalize hw3 : ((w.alloc (Obj.cells #[v0, v1, v2, v3] 67)).alloc (Obj.cells #[nilV, nilV, nilV, nilV] 67)).alloc (Obj.cells #[nilV, nilV, nilV, nilV] 67) = w3 at *
  clear hw3
  generalize (w.alloc (Obj.cells #[v0, v1, v2, v3] 67)).alloc (Obj.cells #[nilV, nilV, nilV, nilV] 67) = w2 at *
  have m0 : w.heap.size < w2.heap.size := vblk_lt G0.out
  have m1 : w.heap.size + 1 < w2.heap.size := vblk_lt G1.out
  have HX2 := hid (show ∀ w', Below (w.heap.size + 1 + 1) w2 w' → Ext w2 w' by rw [← hws]; exact fun _ h => h)
  have HGS := hid (show B ≤ w.heap.size + 1 + 1 by rw [HB0.out]; omega)
  rw [hws] at m0 m1
  clear hws HB0
  generalize w.heap.size + 1 + 1 = sb at *
  generalize w.heap.size + 1 = g1 at *
  generalize w.heap.size = g0 at *
  go_loopw [4] (fun t wr => ∃ (n : Nat) (z : Int), z = n ∧ n ≤ 4 ∧ t = .int .i64 z ∧ Below sb w2 wr ∧ SetAt wr sb (partTo V n)) (fun t _ => 4 - (intOf t).toNat)
  case atStart => exact ⟨0, 0, rfl, by omega, rfl, E3.out, S0.out⟩
  case round =>
    clear S0 E3
    obtain ⟨n, z, hz, hn, rfl, he, hs⟩ := hrel
    have HE := hid he
    have HS := hid hs
    clear he hs
    by_cases hlt : n < 4
    · subst hz
      have dn : decide ((n : Int) < 4) = true := decide_eq_true (by omega)
      have hn0 : (0 : Int) ≤ (n : Int) := by omega
      have hn4 : (n : Int) < 4 := by omega
      have hln := HN.out n hlt
      have hsb := HS.out.lt
      have HVN := hid ((HV.out.at hlt).file (HBX.out _ (Below.trans E1.out (Below.mono HE.out HGS.out))))
      have hcell : wr.cell? ⟨g0, n, none⟩ = some (pick4 v0 v1 v2 v3 n) := by
        obtain ⟨c0, c1, c2, c3⟩ := ver_cells ((HE.out.block _ m0).trans G0.out)
        obtain rfl | rfl | rfl | rfl : n = 0 ∨ n = 1 ∨ n = 2 ∨ n = 3 := by omega
        · exact c0
        · exact c1
        · exact c2
        · exact c3
      have hgl : g0 < wr.heap.size := cell_lt hcell
      have hgn : wr.heap.size ≠ g0 := by omega
      generalize pick4 v0 v1 v2 v3 n = u at *
      rcases slF_src HVN.out with ⟨ad, c, rfl, hnews⟩ | ⟨c, rfl, hnil⟩
      · have HNW := hid hnews
        clear hnews
        go_wp2_with (at_builtin; refine wpList_app el_file rfl (owns_new wr #[] _ 0 9 _ rfl (Nat.le_refl _) (by decide)) rfl (flat_len _) (HNW.out _ ((Ext.rfl wr).al _)) (one_files _) (by omega) ((Ext.rfl wr).al _).size ?_; intro v' w4 hown4 hg4 hb4; have O4 := hid hown4; have E4 := hid (Below.trans ((Ext.rfl wr).al (Obj.cells #[] 80)) hb4); clear hown4 hg4 hb4; obtain ⟨a', n', c', hv'⟩ := isSl_of (OwnFiles.sl (owns_n O4.out (Nat.zero_add _))); subst hv'; have S4 := hid ((HS.out.ext E4.out).set hlt (OwnFiles.sl (owns_n O4.out (Nat.zero_add _)))); obtain ⟨v, cv, fv, _⟩ := (HS.out.ext E4.out).at hlt)
        go_roundw
        case rel => exact ⟨n + 1, _, rfl, by omega, by go_num, Below.setCell (Below.trans HE.out (Below.mono E4.out (Nat.le_of_lt hsb))) (Nat.le_refl _) _, (partTo_succ V n) ▸ S4.out⟩
        case measure => simp [intOf]; omega
      · have HNI := hid hnil
        clear hnil
        have S4 := hid (((HS.out.set hlt (slF_zero wr (some ⟨wr.heap.size, 0, none⟩) 0 (by decide)))).ext ((Ext.rfl _).al (Obj.cells #[] 80)))
        obtain ⟨v, cv, fv, _⟩ := (HS.out.ext ((Ext.rfl wr).al (Obj.cells #[] 80))).at hlt
        go_wp2_with (at_builtin; refine wpList_appF rfl _ _ _ _ rfl _ _ rfl rfl (run_app_none _ _ _ _ _ _ (Nat.le_refl _)) ?_)
        go_roundw
        case rel => exact ⟨n + 1, _, rfl, by omega, by go_num, Below.trans (Below.setCell HE.out (Nat.le_refl _) _) (Below.mono ((Ext.rfl _).al _) (by rw [setCell_size]; exact Nat.le_of_lt hsb)), by rw [← partTo_succ V n, HNI.out]; exact S4.out⟩
        case measure => simp [intOf]; omega
    · obtain rfl : n = 4 := by omega
      obtain rfl : z = 4 := hz
      replace HS := hid (HS.out.cong (S' := V) (fun n hn => by simp [partTo, hn]))
      obtain ⟨u0, u1, u2, u3, s0, s1, s2, s3, hver⟩ := HS.out.ver
      obtain ⟨x0, y0, z0', rfl⟩ := isSl_of hver.s0
      obtain ⟨x1, y1, z1', rfl⟩ := isSl_of hver.s1
      obtain ⟨x2, y2, z2', rfl⟩ := isSl_of hver.s2
      obtain ⟨x3, y3, z3', rfl⟩ := isSl_of hver.s3
      have HVR := hid hver
      have D1 := hid ((HE.out.block _ m1).trans G1.out)
      have HBW := hid (show Below B w wr from Below.trans E1.out (Below.mono HE.out HGS.out))
      clear hver
      have HZ := hid (set4_heap D1.out (.slice x0 y0 z0') (.slice x1 y1 z1') (.slice x2 y2 z2') (.slice x3 y3 z3'))
      have HX := hid (set4_ext HBW.out HG.out (.slice x0 y0 z0') (.slice x1 y1 z1') (.slice x2 y2 z2') (.slice x3 y3 z3'))
      obtain ⟨f0, f1, f2, f3⟩ := ver_cells D1.out
      have ff : ∀ i, wr.frozen? ⟨g1, i, none⟩ = false := fun i => frozen_of_row _ _ _ _ _ D1.out
      go_wp2_with fail
      generalize hwz : (((wr.setCell ⟨g1, 0, none⟩ (.slice x0 y0 z0')).setCell ⟨g1, 1, none⟩ (.slice x1 y1 z1')).setCell ⟨g1, 2, none⟩ (.slice x2 y2 z2')).setCell ⟨g1, 3, none⟩ (.slice x3 y3 z3') = wz
      replace HZ : Hid (wz.heap[g1]? = some (.cells #[.slice x0 y0 z0', .slice x1 y1 z1', .slice x2 y2 z2', .slice x3 y3 z3'] 67 (0, 0))) := by rw [← hwz]; exact HZ
      replace HX : Hid (Below B w wz) := by rw [← hwz]; exact HX
      have HVZ := hid (ver_set4 HVR.out ⟨_, _, _, rfl⟩ ⟨_, _, _, rfl⟩ ⟨_, _, _, rfl⟩ ⟨_, _, _, rfl⟩ D1.out ⟨_, _, _, rfl⟩ ⟨_, _, _, rfl⟩ ⟨_, _, _, rfl⟩ ⟨_, _, _, rfl⟩ hwz)
      clear hwz
      obtain ⟨z0, z1, z2, z3⟩ := ver_cells HZ.out
      refine bodyPost_ret (v := .agg #[.slice x0 y0 z0', .slice x1 y1 z1', .slice x2 y2 z2', .slice x3 y3 z3']) ?_ rfl ⟨_, _, _, _, rfl, HVZ.out, HBX.out _ HX.out⟩
      simp [results, Try.results38, go_sem, z0, z1, z2, z3]
end Go.Proofs.Ytoonhcmeklmnlaa
