/- The walks of the laws ScoreOrders, ScorePicks, ScoreTells. -/
import Derived.Test.YtkoakneibonjhaaSc3
import Derived.Test.YtkoakneibonjhaaFltO
set_option linter.unusedSimpArgs false
set_option linter.unusedVariables false
namespace Go.Proofs.Ytkoakneibonjhaa
open Go.RowKit Go.Rg Go.St

theorem cf_rpick (args : Array Value) (w : World) : (callFunc 19 args).run Try.prog w = .ok (.enter 19 args) w := by kernel_rfl

set_option maxHeartbeats 1000000 in
theorem scoreOrders_walk (a b c : Nat) (v : Value) (l : List Nat) (w : World) (hv : SlFloat w v l) :
    Calls Try.prog 3 #[.float .f64 a, .float .f64 b, .float .f64 c, v] w (TruePost w) := by
  have r1 := fOrd_rev a b
  have r2 := fOrd_self a
  have r3 := fOrd_tri a b
  have r4 := hid (fOrd_trans a b c)
  have hv' := hid (fun w' (he : Ext w w') => hv.go he)
  clear hv
  go_enter Try.func3, Try.ntmps3
  go_wp2_with (first | (go_at_call 15; refine (awake18 _).mono ?_; rintro e w1 ⟨rfl, he1⟩) | (go_at_call 16; refine (order_any _ _ _).mono ?_; rintro e w' ⟨rfl, rfl⟩) | (go_at_call 17; refine (rorder_any _ _ _).mono ?_; rintro e w' ⟨rfl, rfl⟩) | (go_at_call 18; refine (pick_any l v _ (hv'.out _ he1)).mono ?_; rintro e w2 ⟨rfl, he2⟩) | (go_at_call 19; refine (rpick_any l v _ (hv'.out _ (he1.tr he2))).mono ?_; rintro e w3 ⟨rfl, he3⟩))
  all_goals first | (exfalso; have h9 := r4.out (by assumption) (by assumption); omega) | (go_ret; exact ⟨by simp, (he1.tr he2).tr he3⟩)
end Go.Proofs.Ytkoakneibonjhaa
