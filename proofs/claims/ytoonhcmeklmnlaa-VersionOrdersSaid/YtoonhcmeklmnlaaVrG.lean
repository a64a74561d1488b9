/- Two versions the same; how many files. -/
import Derived.Test.YtoonhcmeklmnlaaVrF
set_option linter.unusedSimpArgs false
set_option linter.unusedVariables false
set_option linter.unnecessarySimpa false
namespace Go.Proofs.Ytoonhcmeklmnlaa
open Go.RowKit Go.Rg Go.St

theorem cf_samefiles (args : Array Value) (w : World) : (callFunc 49 args).run Try.prog w = .ok (.enter 49 args) w := by kernel_rfl
theorem ver_at {w : World} {g : Nat} {u0 u1 u2 u3 : Value} {ty : TypeId} (h : w.heap[g]? = some (.cells #[u0, u1, u2, u3] ty (0, 0))) {n : Nat} (hn : n < 4) : w.cell? ⟨g, n, none⟩ = some (pick4 u0 u1 u2 u3 n) := by
  obtain ⟨c0, c1, c2, c3⟩ := ver_cells h
  obtain rfl | rfl | rfl | rfl : n = 0 ∨ n = 1 ∨ n = 2 ∨ n = 3 := by omega
  · exact c0
  · exact c1
  · exact c2
  · exact c3
def SayP (b : Bool) (w : World) (e : Ending) (w' : World) : Prop := e = .returned (.bool b) ∧ Ext w w'
set_option maxRecDepth 100000 in
set_option maxHeartbeats 2000000 in
theorem same_in (v0 v1 v2 v3 u0 u1 u2 u3 : Value) (V U : Lv) (w : World) (hV : Ver w v0 v1 v2 v3 V) (hU : Ver w u0 u1 u2 u3 U) (hs : ∀ n, n < 4 → U n = V n) :
    Calls Try.prog 41 #[.agg #[v0, v1, v2, v3], .agg #[u0, u1, u2, u3]] w (SayP true w) := by
  have HV := hid hV
  have HU := hid hU
  have HQ := hid hs
  clear hV hU hs
  go_enter Try.func41, Try.ntmps41
  go_wp2_with fail
  have A0 := hid (row_at (w := w) (g := w.heap.size) (o := Obj.cells #[v0, v1, v2, v3] 67) (w' := (w.alloc (Obj.cells #[v0, v1, v2, v3] 67)).alloc (Obj.cells #[u0, u1, u2, u3] 67)) ((Ext.rfl _).al _) rfl)
  have A1 := hid (row_at (w := w.alloc (Obj.cells #[v0, v1, v2, v3] 67)) (g := w.heap.size + 1) (o := Obj.cells #[u0, u1, u2, u3] 67) (Ext.rfl _) (by rw [alloc_size]))
  have E1 := hid (show Ext w ((w.alloc (Obj.cells #[v0, v1, v2, v3] 67)).alloc (Obj.cells #[u0, u1, u2, u3] 67)) from ((Ext.rfl w).al _).al _)
  generalize (w.alloc (Obj.cells #[v0, v1, v2, v3] 67)).alloc (Obj.cells #[u0, u1, u2, u3] 67) = w1 at *
  generalize w.heap.size + 1 = g1 at *
  generalize w.heap.size = g0 at *
  go_loopw [5] (fun t wr => ∃ n : Nat, n ≤ 4 ∧ t = .int .i64 n ∧ Ext w1 wr) (fun t _ => 4 - (intOf t).toNat)
  case atStart => exact ⟨0, by omega, rfl, Ext.rfl _⟩
  case round =>
    obtain ⟨n, hn, rfl, he⟩ := hrel
    have HE := hid he
    clear he
    by_cases hlt : n < 4
    · have hn0 : (0 : Int) ≤ (n : Int) := by omega
      have hn4 : (n : Int) < 4 := by omega
      have hca := ver_at ((HE.out.block _ (vblk_lt A0.out)).trans A0.out) hlt
      have hcb := ver_at ((HE.out.block _ (vblk_lt A1.out)).trans A1.out) hlt
      have HAN := hid ((HV.out.go (E1.out.tr HE.out)).at hlt)
      have HBN := hid (show SlFile wr (pick4 u0 u1 u2 u3 n) (V n) by rw [← HQ.out n hlt]; exact (HU.out.go (E1.out.tr HE.out)).at hlt)
      go_wp2_with fail
      refine wp_draw (by kernel_rfl) (by kernel_rfl) ?_
      refine rg_step 10 (ob_move (by rfl) (by rfl)) rfl (by rfl) ?_
      refine rg_step 11 (ob_field (n := 3) 0 0 65 (by rfl) (by rfl) Try.underlying67 (by rfl) (by kernel_rfl) rfl) rfl (by rfl) ?_
      refine rg_step 12 (ob_arr 1 n (by rfl) (by rfl) (by rfl) Try.underlying65 (by kernel_rfl) hn0 hn4 (by simp)) rfl (by rfl) ?_
      refine rg_step 13 (ob_load (v := pick4 v0 v1 v2 v3 n) (by rfl) (by rfl) (by kernel_rfl) (fun w' he => ext_cell he hca)) rfl (by rfl) ?_
      refine rg_step 14 (ob_move (by rfl) (by rfl)) rfl (by rfl) ?_
      refine rg_step 15 (ob_field (n := 3) 0 0 65 (by rfl) (by rfl) Try.underlying67 (by rfl) (by kernel_rfl) rfl) rfl (by rfl) ?_
      refine rg_step 16 (ob_arr 1 n (by rfl) (by rfl) (by rfl) Try.underlying65 (by kernel_rfl) hn0 hn4 (by simp)) rfl (by rfl) ?_
      refine rg_step 17 (ob_load (v := pick4 u0 u1 u2 u3 n) (by rfl) (by rfl) (by kernel_rfl) (fun w' he => ext_cell he hcb)) rfl (by rfl) ?_
      refine rg_step 18 (ob_call (.ex (.bool true)) (by rfl) cf_samefiles (fun w' he => gives_ex ((samefiles_yes _ _ (V n) w' (HAN.out.file he) (HBN.out.file he)).mono fun _ _ h => h))) rfl (by rfl) ?_
      refine rg_step 19 (ob_not true (by rfl) (by rfl)) rfl (by rfl) ?_
      refine rg_end ?_
      intro w4 he4
      simp only [asg, List.set_cons_zero, List.set_cons_succ, List.map_cons, List.map_nil, opens]
      have HE4 := hid (HE.out.tr he4)
      clear he4 hca hcb
      go_wp2_with fail
      go_roundw
      case rel => exact ⟨n + 1, by omega, by go_num, HE4.out⟩
      case measure => simp [intOf]; omega
    · obtain rfl : n = 4 := by omega
      go_wp2_with fail
      go_ret
      exact ⟨rfl, E1.out.tr HE.out⟩

def sumL (V : Lv) : Nat → Nat
  | 0 => 0
  | k + 1 => sumL V k + (V k).length
theorem sumL_le {V : Lv} (h : ∀ i, i < 4 → (V i).length ≤ 140737488351232) : ∀ k, k ≤ 4 → sumL V k ≤ k * 140737488351232
  | 0, _ => by simp [sumL]
  | k + 1, hk => by
    have h1 := sumL_le h k (by omega)
    have h2 := h k (by omega)
    unfold sumL; omega
theorem sumL_each {V : Lv} (h : sumL V 4 ≤ 1000) : ∀ n, n < 4 → (V n).length ≤ 1000 := by
  intro n hn
  simp [sumL] at h
  obtain rfl | rfl | rfl | rfl : n = 0 ∨ n = 1 ∨ n = 2 ∨ n = 3 := by omega
  all_goals omega
set_option maxRecDepth 100000 in
set_option maxHeartbeats 1000000 in
theorem many14_in (v0 v1 v2 v3 : Value) (V : Nat → List File) (w : World) (hV : Ver w v0 v1 v2 v3 V) (hn : ∀ i, i < 4 → (V i).length ≤ 140737488351232) :
    Calls Try.prog 37 #[.agg #[v0, v1, v2, v3]] w (SayP (decide (1000 < sumL V 4)) w) := by
  have HV := hid hV
  have HN := hid hn
  have HL := hid (sumL_le hn)
  clear hV hn
  go_enter Try.func37, Try.ntmps37
  go_wp2
  go_loop [3, 4] (fun s t => ∃ k : Nat, k ≤ 4 ∧ t = .int .i64 k ∧ s = .int .i64 (sumL V k)) (fun _ t => 4 - (intOf t).toNat)
  case atStart => exact ⟨0, by omega, rfl, rfl⟩
  case round =>
    obtain ⟨k, hk, rfl, rfl⟩ := hrel
    by_cases hlt : k < 4
    · have hs := HV.out.at hlt
      obtain ⟨ad, cap, hp, _, _, _⟩ := hs.ex
      have c0 : (w.alloc (.cells #[v0, v1, v2, v3] 67)).cell? ⟨w.heap.size, k, none⟩ = some (.slice ad (V k).length cap) := by
        rw [ver_at (heap_alloc_new w _) hlt, hp]
      have h1 := HL.out k (by omega)
      have h2 := HN.out k hlt
      have hsuc : sumL V (k + 1) = sumL V k + (V k).length := rfl
      have HS := hid hsuc
      clear hs hp hsuc
      go_wp2
      go_round
      case rel => exact ⟨k + 1, by omega, by go_num, int_val (by rw [HS.out]; omega)⟩
      case measure => simp [intOf]; omega
    · have : k = 4 := by omega
      subst this
      go_wp2
      go_ret
      refine ⟨?_, (Ext.rfl w).al _⟩
      show Ending.returned (.bool (decide ((1000 : Int) < (sumL V 4 : Nat)))) = _
      congr 2
      rw [decide_eq_decide]; omega
end Go.Proofs.Ytoonhcmeklmnlaa
