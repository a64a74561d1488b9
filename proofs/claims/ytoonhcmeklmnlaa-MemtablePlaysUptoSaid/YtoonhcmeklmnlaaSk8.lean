/- The walks of package skip: an operation's steps to its end; what is sought. -/
import Derived.Test.YtoonhcmeklmnlaaSk7
import Derived.Test.YtoonhcmeklmnlaaSkQ
set_option linter.unusedSimpArgs false
set_option linter.unusedVariables false
set_option linter.unnecessarySimpa false
namespace Go.Proofs.Ytoonhcmeklmnlaa
open Go.RowKit Go.Rg Go.St

def WholePost (w : World) (L : Loc) (K : SK) (i d : Nat) (e : Ending) (w' : World) : Prop :=
  e = .returned (.int .i64 ((d : Int) + 1)) ∧ Rep w' L (runK K i (d + 1)) ∧ Ch (Foot L K.n) w w'

theorem step_run {w : World} {L : Loc} {K : SK} {i m : Nat} (hI : Inv K) (hi : i < K.n) (h : Rep w L (runK K i m)) {b : Bool} (hb : b = true ↔ (runK K i (m + 1)).lv i = K.ht i) :
    Calls Try.prog 18 #[.pointer (some ⟨L.lb, 0, none⟩), .int .i64 i] w (fun e w' => e = .returned (.tuple #[.bool b, .int .i64 0]) ∧ Rep w' L (runK K i (m + 1)) ∧ Ch (Foot L K.n) w w') := by
  obtain ⟨h1, h2, h3, h4, h5⟩ := runK_inv hI hi m
  refine (step_rep h h1 (by rw [h2]; exact hi)).mono ?_
  rintro e w' ⟨rfl, k1, k2⟩
  rw [h2] at k2
  refine ⟨?_, k1, k2⟩
  rw [h4]
  have : decide ((stepK (runK K i m) i).lv i = K.ht i) = b := by
    cases hbb : b with
    | true => exact decide_eq_true (hb.1 hbb)
    | false => exact decide_eq_false fun h => by rw [hb.2 h] at hbb; cases hbb
  rw [this]

set_option maxHeartbeats 400000 in
theorem whole_rep {w : World} {L : Loc} {K : SK} (h : Rep w L K) (hI : Inv K) {i : Nat} (hi : i < K.n) {d : Nat} (hd : (runK K i (d + 1)).lv i = K.ht i) (hno : ∀ m, m < d → (runK K i (m + 1)).lv i ≠ K.ht i) (most : Int) (hm : d ≤ most) (hmm : most ≤ 1000000000) :
    Calls Try.prog 58 #[.pointer (some ⟨L.lb, 0, none⟩), .int .i64 i, .int .i64 most] w (WholePost w L K i d) := by
  have HH := hid h
  have HI := hid hI
  have HN := hid hno
  have HD := hid hd
  clear h hI hno hd
  go_enter Try.func58, Try.ntmps58
  go_wp2
  go_loopw [7] (fun t wr => ∃ m : Nat, m ≤ d ∧ t = .int .i64 m ∧ Rep wr L (runK K i m) ∧ Ch (Foot L K.n) w wr) (fun t _ => d - (intOf t).toNat)
  case atStart => exact ⟨0, Nat.zero_le _, rfl, HH.out, Ch.rfl _ _⟩
  case round =>
    obtain ⟨m, hmd, rfl, hr, hc⟩ := hrel
    have HR := hid hr
    have HC := hid hc
    clear hr hc
    by_cases hlt : m < d
    · have hb := hid (HN.out m hlt)
      go_wp2_with (go_at_call 18; refine (step_run (b := false) HI.out hi HR.out ⟨fun h => (by cases h), fun h => absurd h hb.out⟩).mono ?_; rintro e w2 ⟨rfl, k1, k2⟩; have K1 := hid k1; have K2 := hid k2; clear k1 k2)
      go_roundw
      case rel => exact ⟨m + 1, by omega, by go_num, K1.out, HC.out.tr K2.out⟩
      case measure => simp [intOf]; omega
    · have : m = d := by omega
      subst this
      go_wp2_with (go_at_call 18; refine (step_run (b := true) HI.out hi HR.out ⟨fun _ => HD.out, fun _ => rfl⟩).mono ?_; rintro e w2 ⟨rfl, k1, k2⟩; have K1 := hid k1; have K2 := hid k2; clear k1 k2)
      go_ret
      exact ⟨rfl, K1.out, HC.out.tr K2.out⟩
end Go.Proofs.Ytoonhcmeklmnlaa
