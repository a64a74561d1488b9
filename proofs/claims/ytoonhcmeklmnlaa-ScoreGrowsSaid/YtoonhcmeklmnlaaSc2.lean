/- The walks of Scores, of package score and of its reference. -/
import Derived.Test.YtoonhcmeklmnlaaSc
set_option linter.unusedSimpArgs false
set_option linter.unusedVariables false
set_option linter.unnecessarySimpa false
namespace Go.Proofs.Ytoonhcmeklmnlaa
open Go.RowKit Go.Rg Go.St

theorem el_float : ElT Try.prog 90 89 1 8 := ⟨Try.underlying90, by kernel_rfl, by decide, by decide⟩

def scN (V : Nat → List File) (i : Nat) : Int := if i = 0 then ((V 0).length : Int) else sumTo (V i) (V i).length
def scT (tr : Nat) (tg : List Nat) (i : Nat) : Nat := if i = 0 then tr else if i ≤ tg.length then nth tg (i - 1) else 0
def ScOk (V : Nat → List File) (tr : Nat) (tg : List Nat) (rs : List Nat) (k : Nat) : Prop := rs.length = k ∧ ∀ i, i < k → FQ (floatOfInt .f64 (scN V i)) (scT tr tg i) (nth rs i)
theorem ScOk.snoc {V : Nat → List File} {tr : Nat} {tg : List Nat} {rs : List Nat} {k r : Nat} (h : ScOk V tr tg rs k) (hr : FQ (floatOfInt .f64 (scN V k)) (scT tr tg k) r) : ScOk V tr tg (rs ++ [r]) (k + 1) := by
  refine ⟨by simp [h.1], fun i hi => ?_⟩
  by_cases hik : i < k
  · have := h.2 i hik
    rwa [show nth (rs ++ [r]) i = nth rs i by simp [nth, List.getElem?_append_left (show i < rs.length by rw [h.1]; exact hik)]]
  · obtain rfl : i = k := by omega
    rwa [show nth (rs ++ [r]) i = r by simp [nth, ← h.1]]
def ScoresPost (V : Nat → List File) (tr : Nat) (tg : List Nat) (w : World) (e : Ending) (w' : World) : Prop :=
  ∃ v rs, e = .returned v ∧ ScOk V tr tg rs 4 ∧ SlFloat w' v rs ∧ Ext w w'

theorem owns_float {w : World} {base : Nat} {e : TypeId} {v : Value} {rs : List Nat} {n : Nat} (h : w.ownsRow base e 1 v n (rs.map (Value.float .f64))) (hn : rs.length = n) : SlFloat w v rs := by
  subst hn
  exact (owns_sl1 h).cong fun i hi => by simp [nth, hi]

def ScRel (V : Nat → List File) (tr : Nat) (tg : List Nat) (w1 : World) (t i : Value) (wr : World) : Prop :=
  ∃ k rs, 1 ≤ k ∧ k ≤ 4 ∧ i = .int .i64 (k : Nat) ∧ ScOk V tr tg rs k ∧ wr.ownsRow w1.heap.size 89 1 t k (rs.map (Value.float .f64)) ∧ Ext w1 wr

set_option maxHeartbeats 1000000 in
theorem scores_any (v0 v1 v2 v3 : Value) (V : Nat → List File) (tr : Nat) (vt : Value) (tg : List Nat) (w : World) (hV : Ver w v0 v1 v2 v3 V) (ht : SlFloat w vt tg) :
    Calls Try.prog 54 #[.agg #[v0, v1, v2, v3], .float .f64 tr, vt] w (ScoresPost V tr tg w) := by
  obtain ⟨a0, cap0, rfl, hcap0, hm0, hc0⟩ := hV.s0.ex
  obtain ⟨at', capt, rfl, hcapt, hmt, hct⟩ := ht.ex
  have hV' : ∀ w', Ext w w' → Ver w' (.slice a0 (V 0).length cap0) v1 v2 v3 V := fun w' => hV.go
  unfold maxLen at hm0 hmt
  go_enter Try.func54, Try.ntmps54
  go_wp2_with (go_at_call 86; refine (of_any _ _ _).mono ?_; rintro e w1 ⟨r, rfl, hq, he1⟩)
  have hbox : Ext (w.alloc (.cells #[_, _, _, _] 67)) w1 := he1
  have HQ := hid hq
  have HE := hid he1
  clear hq he1
  go_loopw [7, 8] (ScRel V tr tg (w.alloc (.cells #[.slice a0 (V 0).length cap0, v1, v2, v3] 67))) (fun _ i _ => 4 - (intOf i).toNat)
  case atStart =>
    refine ⟨1, [r], by omega, by omega, rfl, ⟨rfl, fun i hi => ?_⟩, ?_, HE.out.al _⟩
    · obtain rfl : i = 0 := by omega
      exact HQ.out
    · exact owns_new w1 #[.float .f64 r] _ 1 1 _ rfl HE.out.size (by decide)
  case round =>
    obtain ⟨k, rs, hk1, hk4, rfl, hok, hown, hb⟩ := hrel
    have q0 := ext_new hb 0 rfl
    have q1 := ext_new hb 1 rfl
    have q2 := ext_new hb 2 rfl
    have q3 := ext_new hb 3 rfl
    have hww := ext_of_new hb
    by_cases hlt : k < 4
    · have HB := hid hb
      have HO := hid hown
      have HK := hid hok
      have HW := hid hww
      clear hb hown hok hww
      by_cases htl : k ≤ tg.length
      · obtain ⟨bt, offt, rfl, hcell⟩ := hct (by omega)
        have hck := ext_cell HW.out (hcell (k - 1) (by omega))
        have e1 : ((k : Int) - 1).toNat = k - 1 := by omega
        have HV := hid hV'
        clear hct hcell hV' hV ht hc0
        go_wp2_with (first | (go_at_call 51; refine (size_in _ _ _ _ V k hlt _ (HV.out _ HW.out)).mono ?_; rintro e w2 ⟨rfl, he2⟩) | (go_at_call 86; refine (of_any _ _ _).mono ?_; rintro e w3 ⟨r, rfl, hq, he3⟩) | (at_builtin; refine wpList_app el_float rfl (owns_ext HO.out ((he2.tr he3).al _)) rfl rfl (news_one _ _ _) (by simp [Value.oneCell']) (by omega) (((HB.out.tr he2).tr he3).al _).size ?_; intro v' w4 hown4 hg4 hb4))
        go_roundw
        case rel => exact ⟨k + 1, rs ++ [r], by omega, by omega, by go_num, HK.out.snoc (by simp only [scN, scT]; rw [if_neg (by omega), if_neg (by omega), if_pos htl]; exact hq), by simpa using hown4, ext_via HB.out ((he2.tr he3).al _) hb4⟩
        case measure => simp [intOf]; omega
      · have HV := hid hV'
        clear hct hV' hV ht hc0
        go_wp2_with (first | (go_at_call 51; refine (size_in _ _ _ _ V k hlt _ (HV.out _ HW.out)).mono ?_; rintro e w2 ⟨rfl, he2⟩) | (go_at_call 86; refine (of_any _ _ _).mono ?_; rintro e w3 ⟨r, rfl, hq, he3⟩) | (at_builtin; refine wpList_app el_float rfl (owns_ext HO.out ((he2.tr he3).al _)) rfl rfl (news_one _ _ _) (by simp [Value.oneCell']) (by omega) (((HB.out.tr he2).tr he3).al _).size ?_; intro v' w4 hown4 hg4 hb4))
        go_roundw
        case rel => exact ⟨k + 1, rs ++ [r], by omega, by omega, by go_num, HK.out.snoc (by simp only [scN, scT]; rw [if_neg (by omega), if_neg (by omega), if_neg htl]; exact hq), by simpa using hown4, ext_via HB.out ((he2.tr he3).al _) hb4⟩
        case measure => simp [intOf]; omega
    · have : k = 4 := by omega
      subst this
      have HB := hid hb
      clear hb
      go_wp2
      go_ret
      exact ⟨_, rs, rfl, hok, owns_float hown hok.1, ext_of_new HB.out⟩
end Go.Proofs.Ytoonhcmeklmnlaa
