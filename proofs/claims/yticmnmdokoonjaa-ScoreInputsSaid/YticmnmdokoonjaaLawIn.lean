/- The walk of the law ScoreInputs. -/
import Derived.Test.YticmnmdokoonjaaIn9
import Derived.Test.YticmnmdokoonjaaSc3
set_option linter.unusedSimpArgs false
set_option linter.unusedVariables false
set_option linter.unnecessarySimpa false
namespace Go.Proofs.Yticmnmdokoonjaa
open Go.RowKit Go.Rg Go.St

theorem sumLen_one {V : Nat → List File} (h : ¬ 1000 < sumLen V 4) (i : Nat) (hi : i < 4) : (V i).length ≤ 1000000 := by
  have e : sumLen V 4 = 0 + (V 0).length + (V 1).length + (V 2).length + (V 3).length := rfl
  obtain rfl | rfl | rfl | rfl : i = 0 ∨ i = 1 ∨ i = 2 ∨ i = 3 := by omega
  all_goals omega

/-- the same files, of the program and of the reference -/
theorem inputs_both (v0 v1 v2 v3 : Value) (V : Nat → List File) (k : Int) (from_ : ByteArray) (hn : ∀ i, i < 4 → (V i).length ≤ 1000000) :
    ∃ xs ys, (∀ w, Ver w v0 v1 v2 v3 V → Calls Try.prog 24 #[.agg #[v0, v1, v2, v3], .int .i64 k, .string from_] w (TwoFiles xs ys w)) ∧
      ∀ w, Ver w v0 v1 v2 v3 V → Calls Try.prog 25 #[.agg #[v0, v1, v2, v3], .int .i64 k, .string from_] w (TwoFiles xs ys w) := by
  have hnil : ∀ w e w', NilTwo w e w' → TwoFiles [] [] w e w' := fun w e w' h => ⟨_, _, h.1, SlS.nil _ _ _, SlS.nil _ _ _, h.2⟩
  by_cases hk : k < 0 ∨ 2 < k
  · exact ⟨[], [], fun w _ => (inputs_out v0 v1 v2 v3 _ k hk w).mono (hnil w), fun w _ => (rinputs_out v0 v1 v2 v3 _ k hk w).mono (hnil w)⟩
  · obtain ⟨n, rfl⟩ : ∃ n : Nat, k = n := ⟨k.toNat, by omega⟩
    have hn3 : n < 3 := by omega
    by_cases hl : (V n).length = 0
    · exact ⟨[], [], fun w hV => (inputs_none v0 v1 v2 v3 V from_ n _ rfl hn3 w hV hl).mono (hnil w), fun w hV => (rinputs_none v0 v1 v2 v3 V from_ n _ rfl hn3 w hV hl).mono (hnil w)⟩
    · by_cases h0 : n = 0
      · subst h0
        by_cases hx : ∃ xs, Low0 (V 0) xs
        · obtain ⟨xs, q, h1, h2, rfl⟩ := hx
          have key : ∀ w e w', Two0 (V 0) (V 1) w e w' → TwoFiles (sel (V 0) q) (ovs (span (sel (V 0) q)).1 (span (sel (V 0) q)).2 (V 1)) w e w' := by
            rintro w e w' ⟨ys, ⟨q', h3, h4, rfl⟩, h5⟩
            rwa [least_one h1 h3 h2 h4]
          exact ⟨_, _, fun w hV => (inputs_0 v0 v1 v2 v3 V from_ w hV hn (by omega)).mono (key w), fun w hV => (rinputs_0 v0 v1 v2 v3 V from_ w hV hn (by omega)).mono (key w)⟩
        · exact ⟨[], [], fun w hV => (inputs_0 v0 v1 v2 v3 V from_ w hV hn (by omega)).mono fun e w' h => absurd ⟨_, h.choose_spec.1⟩ hx, fun w hV => (rinputs_0 v0 v1 v2 v3 V from_ w hV hn (by omega)).mono fun e w' h => absurd ⟨_, h.choose_spec.1⟩ hx⟩
      · exact ⟨_, _, fun w hV => inputs_up v0 v1 v2 v3 V from_ n _ rfl ⟨by omega, hn3⟩ w hV hn (by omega), fun w hV => rinputs_up v0 v1 v2 v3 V from_ n _ rfl ⟨by omega, hn3⟩ w hV hn (by omega)⟩

set_option maxHeartbeats 1000000 in
theorem scoreInputs_walk (v0 v1 v2 v3 : Value) (V : Nat → List File) (k : Int) (from_ : ByteArray) (w : World) (hV : Ver w v0 v1 v2 v3 V) (hn : ∀ i, i < 4 → (V i).length ≤ 140737488351232) :
    Calls Try.prog 6 #[.agg #[v0, v1, v2, v3], .int .i64 k, .string from_] w (TruePost w) := by
  have HV := hid hV
  have HN := hid hn
  clear hV hn
  go_enter Try.func6, Try.ntmps6
  go_wp2_with fail
  refine (awake18 _).mono ?_
  rintro e w1 ⟨rfl, he1⟩
  have E1 := hid he1
  have q0 := ext_new he1 0 rfl
  have q1 := ext_new he1 1 rfl
  have q2 := ext_new he1 2 rfl
  have q3 := ext_new he1 3 rfl
  clear he1
  go_wp2_with fail
  refine (many_in v0 v1 v2 v3 V _ (HV.out.go (ext_of_new E1.out)) HN.out).mono ?_
  rintro e w2 ⟨rfl, he2⟩
  have E2 := hid (E1.out.tr he2)
  clear he2 E1 q0 q1 q2 q3
  have q0 := ext_new E2.out 0 rfl
  have q1 := ext_new E2.out 1 rfl
  have q2 := ext_new E2.out 2 rfl
  have q3 := ext_new E2.out 3 rfl
  by_cases hm : 1000 < sumLen V 4
  · rw [decide_eq_true hm]
    have HM := hid hm
    clear hm
    go_wp2
    go_ret
    exact ⟨rfl, ext_of_new E2.out⟩
  · rw [decide_eq_false hm]
    obtain ⟨xs, ys, hA, hB⟩ := inputs_both v0 v1 v2 v3 V k from_ (sumLen_one hm)
    have HA := hid hA
    have HB := hid hB
    clear hm hA hB
    go_wp2_with fail
    refine (HA.out _ (HV.out.go (ext_of_new E2.out))).mono ?_
    rintro e w3 ⟨a, b, rfl, ha, hb, he3⟩
    have E3 := hid (E2.out.tr he3)
    have SA := hid ha
    have SB := hid hb
    clear ha hb he3 E2 q0 q1 q2 q3
    have q0 := ext_new E3.out 0 rfl
    have q1 := ext_new E3.out 1 rfl
    have q2 := ext_new E3.out 2 rfl
    have q3 := ext_new E3.out 3 rfl
    go_wp2_with fail
    refine (HB.out _ (HV.out.go (ext_of_new E3.out))).mono ?_
    rintro e w4 ⟨c, d, rfl, hc, hd, he4⟩
    have E4 := hid (E3.out.tr he4)
    have SC := hid hc
    have SD := hid hd
    have SA4 := hid (SA.out.file he4)
    have SB4 := hid (SB.out.file he4)
    clear hc hd he4 E3 q0 q1 q2 q3 SA SB
    go_wp2_with fail
    refine (samefiles_yes _ _ xs _ SA4.out SC.out).mono ?_
    rintro e w5 ⟨rfl, he5⟩
    go_wp2_with fail
    refine (samefiles_yes _ _ ys _ (SB4.out.file he5) (SD.out.file he5)).mono ?_
    rintro e w6 ⟨rfl, he6⟩
    have E6 := hid ((E4.out.tr he5).tr he6)
    clear he5 he6
    go_wp2
    go_ret
    exact ⟨rfl, ext_of_new E6.out⟩
end Go.Proofs.Yticmnmdokoonjaa
