/- The walks of the reference's Same, and of awake, of package staddlelaw18. -/
import Derived.Test.YtoonhcmeklmnlaaSc2
set_option linter.unusedSimpArgs false
set_option linter.unusedVariables false
set_option linter.unnecessarySimpa false
namespace Go.Proofs.Ytoonhcmeklmnlaa
open Go.RowKit Go.Rg Go.St

def TruePost (w : World) (e : Ending) (w' : World) : Prop := e = .returned (.bool true) ∧ Ext w w'

theorem cf_pick (args : Array Value) (w : World) : (callFunc 85 args).run Try.prog w = .ok (.enter 85 args) w := by kernel_rfl
theorem cf_order (args : Array Value) (w : World) : (callFunc 55 args).run Try.prog w = .ok (.enter 55 args) w := by kernel_rfl
theorem pick_gives (l : List Nat) (n : Int) (h : pk l l.length = n) (v : Value) (w : World) (hv : SlFloat w v l) : Gives Try.prog 85 (.ex (.int .i64 n)) w [v] :=
  gives_ex ((pick_any l v w hv).mono fun _ _ hp => ⟨by rw [hp.1, h], hp.2⟩)
theorem order_gives (a b : Nat) (n : Int) (h : fOrd a b = n) (w : World) : Gives Try.prog 55 (.ex (.int .i64 n)) w [.float .f64 a, .float .f64 b] :=
  gives_ex ((order_any a b w).mono fun _ _ hp => ⟨by rw [hp.1, h], by rw [hp.2]; exact Ext.rfl _⟩)
theorem sl4_cells : ∀ i, i < 4 → (#[Value.float .f64 4606281698874543309, .float .f64 4607182418800017408, .float .f64 4609434218613702656, .float .f64 4609434218613702656]).getD i undef = .float .f64 (nth [4606281698874543309, 4607182418800017408, 4609434218613702656, 4609434218613702656] i) := by
  intro i hi
  obtain rfl | rfl | rfl | rfl : i = 0 ∨ i = 1 ∨ i = 2 ∨ i = 3 := by omega
  all_goals rfl
theorem sl1_cells : ∀ i, i < 1 → (#[Value.float .f64 4602678819172646912]).getD i undef = .float .f64 (nth [4602678819172646912] i) := by
  intro i hi
  obtain rfl : i = 0 := by omega
  rfl
def sl4 : List Nat := [4606281698874543309, 4607182418800017408, 4609434218613702656, 4609434218613702656]

theorem empty_ver (w : World) : Ver w (.slice none 0 0) (.slice none 0 0) (.slice none 0 0) (.slice none 0 0) (fun _ => []) := ⟨SlS.nil _ _ _, SlS.nil _ _ _, SlS.nil _ _ _, SlS.nil _ _ _⟩

set_option maxRecDepth 100000 in
set_option maxHeartbeats 400000 in
theorem awake18 (w : World) : Calls Try.prog 53 #[] w (TruePost w) := by
  go_enter Try.func53, Try.ntmps53
  go_wp2_with (go_at_call 54; refine (scores_any _ _ _ _ (fun _ => []) _ _ [] _ (empty_ver _) (Sl1.nil _ _)).mono ?_; rintro e w1 ⟨v, rs, rfl, hok, hsl, he⟩)
  obtain ⟨a, cap, hv, hcap, hm, hc⟩ := hsl.ex
  have hlen : rs.length = 4 := hok.1
  rw [hlen] at hv hc
  obtain ⟨b, off, rfl, hcell⟩ := hc (by omega)
  have hnan : fnan (nth rs 0) = true := fq_zero (hok.2 0 (by omega))
  subst hv
  clear hc hok hsl hlen hcap
  refine wp_draw (by kernel_rfl) (by kernel_rfl) ?_
  refine rg_step 6 (ob_build (SV.sl1 4 (fun i => .float .f64 (nth sl4 i))) _ #[.float .f64 4606281698874543309, .float .f64 4607182418800017408, .float .f64 4609434218613702656, .float .f64 4609434218613702656] 89 (by rfl) (by rfl) (fun _ => by kernel_rfl) (fun w => sl1_new w _ _ 4 _ rfl (by decide) sl4_cells)) rfl (by rfl) ?_
  refine rg_step 7 (ob_call (.ex (.int .i64 2)) (by rfl) cf_pick (fun w he v hv => pick_gives sl4 2 (by decide +kernel) v w hv)) rfl (by rfl) ?_
  refine rg_step 8 (ob_icmp true (by rfl) (by rfl) (by rfl) (by rfl)) rfl (by rfl) ?_
  refine rg_step 9 (ob_move (by rfl) (by rfl)) rfl (by rfl) ?_
  refine rg_step 10 (ob_build (SV.sl1 1 (fun i => .float .f64 (nth [4602678819172646912] i))) _ #[.float .f64 4602678819172646912] 89 (by rfl) (by rfl) (fun _ => by kernel_rfl) (fun w => sl1_new w _ _ 1 _ rfl (by decide) sl1_cells)) rfl (by rfl) ?_
  refine rg_step 11 (ob_call (.ex (.int .i64 (-1))) (by rfl) cf_pick (fun w he v hv => pick_gives [4602678819172646912] (-1) (by decide +kernel) v w hv)) rfl (by rfl) ?_
  refine rg_step 12 (ob_icmp true (by rfl) (by rfl) (by rfl) (by rfl)) rfl (by rfl) ?_
  refine rg_step 13 (ob_pick true (by rfl) (by rfl) (by rfl)) rfl (by rfl) ?_
  refine rg_step 14 (ob_move (by rfl) (by rfl)) rfl (by rfl) ?_
  refine rg_step 15 (ob_move (by rfl) (by rfl)) rfl (by rfl) ?_
  refine rg_step 16 (ob_move (by rfl) (by rfl)) rfl (by rfl) ?_
  refine rg_step 17 (ob_fquo (by rfl) (by rfl) (by rfl)) rfl (by rfl) ?_
  refine rg_step 18 (ob_call (.ex (.int .i64 (-1))) (by rfl) cf_order (fun w he v hv => by obtain ⟨r, rfl, hq⟩ := hv; exact order_gives _ _ _ (fOrd_nan (fq_zero hq) (by decide +kernel)) _)) rfl (by rfl) ?_
  refine rg_step 19 (ob_icmp true (by rfl) (by rfl) (by rfl) (by rfl)) rfl (by rfl) ?_
  refine rg_step 20 (ob_pick true (by rfl) (by rfl) (by rfl)) rfl (by rfl) ?_
  refine rg_step 21 (ob_move (by rfl) (by rfl)) rfl (by rfl) ?_
  refine rg_step 22 (ob_call (.ex (.int .i64 1)) (by rfl) cf_order (fun w he => order_gives _ _ _ (by decide +kernel) _)) rfl (by rfl) ?_
  refine rg_step 23 (ob_icmp true (by rfl) (by rfl) (by rfl) (by rfl)) rfl (by rfl) ?_
  refine rg_step 24 (ob_pick true (by rfl) (by rfl) (by rfl)) rfl (by rfl) ?_
  refine rg_step 25 (ob_move (by rfl) (by rfl)) rfl (by rfl) ?_
  refine rg_step 26 (ob_move (by rfl) (by rfl)) rfl (by rfl) ?_
  refine rg_step 27 (ob_len (by rfl) (by rfl) Try.underlying90) rfl (by rfl) ?_
  refine rg_step 28 (ob_icmp true (by rfl) (by rfl) (by rfl) (by rfl)) rfl (by rfl) ?_
  refine rg_step 29 (ob_pick true (by rfl) (by rfl) (by rfl)) rfl (by rfl) ?_
  refine rg_step 30 (ob_move (by rfl) (by rfl)) rfl (by rfl) ?_
  refine rg_step 31 (ob_move (by rfl) (by rfl)) rfl (by rfl) ?_
  refine rg_step 32 (ob_index 1 _ (by rfl) (by rfl) (by rfl) Try.underlying90 (by kernel_rfl) (by decide) (by decide) rfl) rfl (by rfl) ?_
  refine rg_step 33 (ob_load (by rfl) (by rfl) (by kernel_rfl) (fun w he => ext_cell he (hcell 0 (by omega)))) rfl (by rfl) ?_
  refine rg_step 34 (ob_move (by rfl) (by rfl)) rfl (by rfl) ?_
  refine rg_step 35 (ob_index 1 _ (by rfl) (by rfl) (by rfl) Try.underlying90 (by kernel_rfl) (by decide) (by decide) rfl) rfl (by rfl) ?_
  refine rg_step 36 (ob_load (by rfl) (by rfl) (by kernel_rfl) (fun w he => ext_cell he (hcell 0 (by omega)))) rfl (by rfl) ?_
  refine rg_step 37 (ob_fcmp (.bool true) (by rfl) (by rfl) (by rfl) rfl (by rw [floatCmp_neq, hnan])) rfl (by rfl) ?_
  refine rg_step 38 (ob_pick true (by rfl) (by rfl) (by rfl)) rfl (by rfl) ?_
  refine rg_step 0 (ob_assign (by rfl) (by rfl)) rfl (by rfl) ?_
  refine rg_end ?_
  intro w2 he2
  simp only [asg, List.set_cons_zero, List.set_cons_succ, List.map_cons, List.map_nil, SV.sl1, opens]
  intros
  go_wp2
  go_ret
  exact ⟨rfl, he.tr he2⟩
end Go.Proofs.Ytoonhcmeklmnlaa
