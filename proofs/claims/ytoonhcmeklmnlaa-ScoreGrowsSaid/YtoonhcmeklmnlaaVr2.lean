/- What is wrong with a file, with an edit: the walks. -/
import Derived.Test.YtoonhcmeklmnlaaVr1
set_option linter.unusedSimpArgs false
set_option linter.unusedVariables false
set_option linter.unnecessarySimpa false
namespace Go.Proofs.Ytoonhcmeklmnlaa
open Go.RowKit Go.Rg Go.St

def fileC (f : File) : Int :=
  if placeC f.level f.num ≠ 0 then placeC f.level f.num else if f.size < 1 ∨ 2147483647 < f.size then 132 else if keyC f.small ≠ 0 then keyC f.small else if keyC f.large ≠ 0 then keyC f.large else if cmpV f.large f.small < 0 then 132 else 0
def FitF (f : File) : Prop := f.small.user.size ≤ 9223372036854775807 ∧ f.large.user.size ≤ 9223372036854775807
theorem file_cells {w : World} {g : Nat} {l n s : Int} {a b : IKey} {ty : TypeId} {fr : Nat × Nat} (h : w.heap[g]? = some (.cells #[.int .i64 l, .int .u64 n, .int .i64 s, .string a.user, .int .u64 a.seq, .int .i64 a.kind, .string b.user, .int .u64 b.seq, .int .i64 b.kind] ty fr)) :
    w.cell? ⟨g, 0, none⟩ = some (.int .i64 l) ∧ w.cell? ⟨g, 1, none⟩ = some (.int .u64 n) ∧ w.cell? ⟨g, 2, none⟩ = some (.int .i64 s) ∧ w.cell? ⟨g, 3, none⟩ = some (.string a.user) ∧ w.cell? ⟨g, 4, none⟩ = some (.int .u64 a.seq) ∧ w.cell? ⟨g, 5, none⟩ = some (.int .i64 a.kind) ∧ w.cell? ⟨g, 6, none⟩ = some (.string b.user) ∧ w.cell? ⟨g, 7, none⟩ = some (.int .u64 b.seq) ∧ w.cell? ⟨g, 8, none⟩ = some (.int .i64 b.kind) := by
  refine ⟨?_, ?_, ?_, ?_, ?_, ?_, ?_, ?_, ?_⟩
  all_goals
    rw [cell_of_row _ _ _ _ _ _ h]
    rfl

set_option maxRecDepth 100000 in
set_option maxHeartbeats 2000000 in
theorem rfile_in (f : File) (hf : FitF f) (w : World) : Calls Try.prog 81 #[aFile f] w (IntV (fileC f) w) := by
  obtain ⟨hs, hl⟩ := hf
  have HD := hid (show fileC f = if placeC f.level f.num ≠ 0 then placeC f.level f.num else if f.size < 1 ∨ 2147483647 < f.size then 132 else if keyC f.small ≠ 0 then keyC f.small else if keyC f.large ≠ 0 then keyC f.large else if cmpV f.large f.small < 0 then 132 else 0 from rfl)
  generalize fileC f = c at *
  obtain ⟨lev, num, sz, sm, la⟩ := f
  simp only at *
  go_enter Try.func81, Try.ntmps81
  go_wp2_with fail
  refine (rplace_in lev num _).mono ?_
  rintro e w1 ⟨rfl, he1⟩
  have E1 := hid (((Ext.rfl w).al _).tr he1)
  have HB := hid (row_at he1 rfl)
  obtain ⟨c0, c1, c2, c3, c4, c5, c6, c7, c8⟩ := file_cells HB.out
  clear he1
  generalize w.heap.size = g at *
  by_cases hp : placeC lev num = 0
  · rw [hp]
    by_cases hz : sz < 1 ∨ 2147483647 < sz
    · have hc : c = 132 := by rw [HD.out, if_neg (by rw [hp]; decide), if_pos hz]
      clear hp
      by_cases hz1 : sz < 1
      · have hd : decide (sz < 1) = true := decide_eq_true hz1
        go_wp2_with fail
        go_ret
        exact ⟨by rw [hc]; rfl, E1.out⟩
      · have hd : decide (sz < 1) = false := decide_eq_false hz1
        have hd2 : decide (2147483647 < sz) = true := decide_eq_true (by omega)
        go_wp2_with fail
        go_ret
        exact ⟨by rw [hc]; rfl, E1.out⟩
    · have hd : decide (sz < 1) = false := decide_eq_false (by omega)
      have hd2 : decide (2147483647 < sz) = false := decide_eq_false (by omega)
      go_wp2_with fail
      refine (rkeyC_in sm hs _).mono ?_
      rintro e w2 ⟨rfl, he2⟩
      have E2 := hid (E1.out.tr he2)
      have HB2 := hid ((he2.block _ (vblk_lt HB.out)).trans HB.out)
      obtain ⟨d0, d1, d2, d3, d4, d5, d6, d7, d8⟩ := file_cells HB2.out
      clear he2 c0 c1 c2 c3 c4 c5 c6 c7 c8
      by_cases hk : keyC sm = 0
      · rw [hk]
        go_wp2_with fail
        refine (rkeyC_in la hl _).mono ?_
        rintro e w3 ⟨rfl, he3⟩
        have E3 := hid (E2.out.tr he3)
        have HB3 := hid ((he3.block _ (vblk_lt HB2.out)).trans HB2.out)
        clear d0 d1 d2 d3 d4 d5 d6 d7 d8
        obtain ⟨d0, d1, d2, d3, d4, d5, d6, d7, d8⟩ := file_cells HB3.out
        clear he3
        by_cases hk2 : keyC la = 0
        · rw [hk2]
          go_wp2_with fail
          refine (rcompareV_in la sm _).mono ?_
          rintro e w4 ⟨rfl, he4⟩
          have E4 := hid (E3.out.tr he4)
          clear he4 d0 d1 d2 d3 d4 d5 d6 d7 d8
          by_cases hm : cmpV la sm < 0
          · have hc : c = 132 := by rw [HD.out, if_neg (by rw [hp]; decide), if_neg hz, if_neg (by rw [hk]; decide), if_neg (by rw [hk2]; decide), if_pos hm]
            have hdm : decide (cmpV la sm < 0) = true := decide_eq_true hm
            clear hm
            generalize cmpV la sm = m at *
            go_wp2_with fail
            go_ret
            exact ⟨by rw [hc]; rfl, E4.out⟩
          · have hc : c = 0 := by rw [HD.out, if_neg (by rw [hp]; decide), if_neg hz, if_neg (by rw [hk]; decide), if_neg (by rw [hk2]; decide), if_neg hm]
            have hdm : decide (cmpV la sm < 0) = false := decide_eq_false hm
            clear hm
            generalize cmpV la sm = m at *
            go_wp2_with fail
            go_ret
            exact ⟨by rw [hc]; rfl, E4.out⟩
        · have hc : keyC la = c := by rw [HD.out, if_neg (by rw [hp]; decide), if_neg hz, if_neg (by rw [hk]; decide), if_pos hk2]
          rw [hc] at hk2 ⊢
          have hne : (c != 0) = true := by simpa using hk2
          clear hc
          go_wp2_with fail
          go_ret
          exact ⟨rfl, E3.out⟩
      · have hc : keyC sm = c := by rw [HD.out, if_neg (by rw [hp]; decide), if_neg hz, if_pos hk]
        rw [hc] at hk ⊢
        have hne : (c != 0) = true := by simpa using hk
        clear hc
        go_wp2_with fail
        go_ret
        exact ⟨rfl, E2.out⟩
  · have hc : placeC lev num = c := by rw [HD.out, if_pos hp]
    rw [hc] at hp ⊢
    have hne : (c != 0) = true := by simpa using hp
    clear hc
    go_wp2_with fail
    go_ret
    exact ⟨rfl, E1.out⟩

theorem keys_cells {w : World} {g : Nat} {a b : IKey} {ty : TypeId} {fr : Nat × Nat} (h : w.heap[g]? = some (.cells #[.string a.user, .int .u64 a.seq, .int .i64 a.kind, .string b.user, .int .u64 b.seq, .int .i64 b.kind] ty fr)) :
    w.cell? ⟨g, 0, none⟩ = some (.string a.user) ∧ w.cell? ⟨g, 1, none⟩ = some (.int .u64 a.seq) ∧ w.cell? ⟨g, 2, none⟩ = some (.int .i64 a.kind) ∧ w.cell? ⟨g, 3, none⟩ = some (.string b.user) ∧ w.cell? ⟨g, 4, none⟩ = some (.int .u64 b.seq) ∧ w.cell? ⟨g, 5, none⟩ = some (.int .i64 b.kind) := by
  refine ⟨?_, ?_, ?_, ?_, ?_, ?_⟩
  all_goals
    rw [cell_of_row _ _ _ _ _ _ h]
    rfl
set_option maxRecDepth 100000 in
set_option maxHeartbeats 2000000 in
theorem file_in (f : File) (hf : FitF f) (w : World) : Calls Try.prog 95 #[aFile f] w (IntV (fileC f) w) := by
  obtain ⟨hs, hl⟩ := hf
  have HD := hid (show fileC f = if placeC f.level f.num ≠ 0 then placeC f.level f.num else if f.size < 1 ∨ 2147483647 < f.size then 132 else if keyC f.small ≠ 0 then keyC f.small else if keyC f.large ≠ 0 then keyC f.large else if cmpV f.large f.small < 0 then 132 else 0 from rfl)
  generalize fileC f = c at *
  obtain ⟨lev, num, sz, sm, la⟩ := f
  simp only at *
  go_enter Try.func95, Try.ntmps95
  go_wp2_with fail
  refine (place_in lev num _).mono ?_
  rintro e w1 ⟨rfl, he1⟩
  have E1 := hid (((Ext.rfl w).al _).tr he1)
  have HB := hid (row_at he1 rfl)
  obtain ⟨c0, c1, c2, c3, c4, c5, c6, c7, c8⟩ := file_cells HB.out
  clear he1
  generalize w.heap.size = g at *
  by_cases hp : placeC lev num = 0
  · rw [hp]
    by_cases hz : sz < 1 ∨ 2147483647 < sz
    · have hc : c = 132 := by rw [HD.out, if_neg (by rw [hp]; decide), if_pos hz]
      clear hp
      by_cases hz1 : sz < 1
      · have hd : decide (sz < 1) = true := decide_eq_true hz1
        go_wp2_with fail
        go_ret
        exact ⟨by rw [hc]; rfl, E1.out⟩
      · have hd : decide (sz < 1) = false := decide_eq_false hz1
        have hd2 : decide (2147483647 < sz) = true := decide_eq_true (by omega)
        go_wp2_with fail
        go_ret
        exact ⟨by rw [hc]; rfl, E1.out⟩
    · have hd : decide (sz < 1) = false := decide_eq_false (by omega)
      have hd2 : decide (2147483647 < sz) = false := decide_eq_false (by omega)
      go_wp2_with fail
      have hx : Ext w1 (w1.alloc (Obj.cells #[.string sm.user, .int .u64 sm.seq, .int .i64 sm.kind, .string la.user, .int .u64 la.seq, .int .i64 la.kind] 42)) := (Ext.rfl w1).al _
      have E2 := hid (E1.out.tr hx)
      have HB2 := hid ((hx.block _ (vblk_lt HB.out)).trans HB.out)
      have HK2 := hid (heap_alloc_new w1 (Obj.cells #[.string sm.user, .int .u64 sm.seq, .int .i64 sm.kind, .string la.user, .int .u64 la.seq, .int .i64 la.kind] 42))
      clear hx c0 c1 c2 c3 c4 c5 c6 c7 c8 hd hd2
      generalize w1.heap.size = gk at *
      generalize w1.alloc (Obj.cells #[.string sm.user, .int .u64 sm.seq, .int .i64 sm.kind, .string la.user, .int .u64 la.seq, .int .i64 la.kind] 42) = w2 at *
      go_loopw [29] (fun t wr => ∃ k : Nat, k ≤ 2 ∧ t = .int .i64 k ∧ Ext w2 wr ∧ (0 < k → keyC sm = 0) ∧ (1 < k → keyC la = 0)) (fun t _ => 2 - (intOf t).toNat)
      case atStart => exact ⟨0, by omega, rfl, Ext.rfl _, fun h => absurd h (Nat.lt_irrefl _), fun h => absurd h (by omega)⟩
      case round =>
        obtain ⟨k, hk, rfl, he, hk0, hk1⟩ := hrel
        have HE := hid he
        have HK0 := hid hk0
        have HK1 := hid hk1
        have HB3 := hid ((he.block _ (vblk_lt HB2.out)).trans HB2.out)
        have HK3 := hid ((he.block _ (vblk_lt HK2.out)).trans HK2.out)
        clear he hk0 hk1
        obtain rfl | rfl | rfl : k = 0 ∨ k = 1 ∨ k = 2 := by omega
        · obtain ⟨d0, d1, d2, d3, d4, d5⟩ := keys_cells HK3.out
          go_wp2_with fail
          refine (keyC_in sm hs _).mono ?_
          rintro e w3 ⟨rfl, he3⟩
          have E3 := hid ((HE.out.al _).tr he3)
          clear he3 d0 d1 d2 d3 d4 d5
          by_cases hk : keyC sm = 0
          · rw [hk]
            go_wp2_with fail
            go_roundw
            case rel => exact ⟨1, by omega, rfl, E3.out, fun _ => hk, fun h => absurd h (by omega)⟩
            case measure => simp [intOf]
          · have hc : keyC sm = c := by rw [HD.out, if_neg (by rw [hp]; decide), if_neg hz, if_pos hk]
            rw [hc] at hk ⊢
            have hne : (c != 0) = true := by simpa using hk
            clear hc
            go_wp2_with fail
            go_ret
            exact ⟨rfl, E2.out.tr E3.out⟩
        · obtain ⟨d0, d1, d2, d3, d4, d5⟩ := keys_cells HK3.out
          go_wp2_with fail
          refine (keyC_in la hl _).mono ?_
          rintro e w3 ⟨rfl, he3⟩
          have E3 := hid ((HE.out.al _).tr he3)
          clear he3 d0 d1 d2 d3 d4 d5
          by_cases hk : keyC la = 0
          · rw [hk]
            go_wp2_with fail
            go_roundw
            case rel => exact ⟨2, by omega, rfl, E3.out, fun _ => HK0.out (by omega), fun _ => hk⟩
            case measure => simp [intOf]
          · have hc : keyC la = c := by rw [HD.out, if_neg (by rw [hp]; decide), if_neg hz, if_neg (by rw [HK0.out (by omega)]; decide), if_pos hk]
            rw [hc] at hk ⊢
            have hne : (c != 0) = true := by simpa using hk
            clear hc
            go_wp2_with fail
            go_ret
            exact ⟨rfl, E2.out.tr E3.out⟩
        · obtain ⟨d0, d1, d2, d3, d4, d5, d6, d7, d8⟩ := file_cells HB3.out
          go_wp2_with fail
          refine (icompare_in sm la _).mono ?_
          rintro e w4 ⟨rfl, he4⟩
          have E4 := hid (HE.out.tr he4)
          have hk := HK0.out (by omega)
          have hk2 := HK1.out (by omega)
          have han := cmpV_anti sm la
          clear he4 d0 d1 d2 d3 d4 d5 d6 d7 d8
          by_cases hm : cmpV la sm < 0
          · have hc : c = 132 := by rw [HD.out, if_neg (by rw [hp]; decide), if_neg hz, if_neg (by rw [hk]; decide), if_neg (by rw [hk2]; decide), if_pos hm]
            have hdm : decide (0 < cmpV sm la) = true := decide_eq_true (han.2 hm)
            clear hm han hk hk2
            generalize cmpV sm la = m at *
            go_wp2_with fail
            go_ret
            exact ⟨by rw [hc]; rfl, E2.out.tr E4.out⟩
          · have hc : c = 0 := by rw [HD.out, if_neg (by rw [hp]; decide), if_neg hz, if_neg (by rw [hk]; decide), if_neg (by rw [hk2]; decide), if_neg hm]
            have hdm : decide (0 < cmpV sm la) = false := decide_eq_false fun h => hm (han.1 h)
            clear hm han hk hk2
            generalize cmpV sm la = m at *
            go_wp2_with fail
            go_ret
            exact ⟨by rw [hc]; rfl, E2.out.tr E4.out⟩
  · have hc : placeC lev num = c := by rw [HD.out, if_pos hp]
    rw [hc] at hp ⊢
    have hne : (c != 0) = true := by simpa using hp
    clear hc
    go_wp2_with fail
    go_ret
    exact ⟨rfl, E1.out⟩
end Go.Proofs.Ytoonhcmeklmnlaa
