/- The walks of the laws of package skip: awake, SkipNames, SkipNil. -/
import Derived.Test.YtoonhcmeklmnlaaSk11
set_option linter.unusedSimpArgs false
set_option linter.unusedVariables false
set_option linter.unnecessarySimpa false
namespace Go.Proofs.Ytoonhcmeklmnlaa
open Go.RowKit Go.Rg Go.St

def TrueExt (w : World) (e : Ending) (w' : World) : Prop := e = .returned (.bool true) ∧ Ext w w'

theorem runK_lv {K : SK} {i : Nat} : ∀ m j, j ≠ i → (runK K i m).lv j = K.lv j
  | 0, _, _ => rfl
  | m + 1, j, hj => ((stepK_lv (runK K i m) i).1 j hj).trans (runK_lv m j hj)

/-- what is sought stands in level 0 -/
theorem sought {K : SK} (hI : Inv K) {p : ByteArray → Bool} (hp : ∀ a b, kl a b = true → p b = true → p a = true) {r : Option Nat} (hs : Stop K p r) {js : List Nat} (hl : Lvl K 0 js) :
    ∃ us vs, js = us ++ vs ∧ (∀ j, j ∈ us → p (K.key j) = true) ∧ (∀ j, j ∈ vs → p (K.key j) = false) ∧ r = us.getLast? ∧ K.nxt r 0 = vs.head? := by
  obtain ⟨us, vs, rfl, he⟩ := chain_split (js := js) r (fun j hj => (hl.mem j).2 ⟨(hs.at_ j hj).1, (hs.at_ j hj).2.1⟩)
  have hr : r = us.getLast? := by rw [← he]; cases us.getLast? <;> rfl
  have hc := Chain.cut hl.ch
  rw [he] at hc
  have hn := hc.head
  have hup := List.pairwise_append.1 hl.up
  refine ⟨us, vs, rfl, fun j hj => ?_, fun j hj => ?_, hr, hn⟩
  · cases hg : us.getLast? with
    | none => rw [List.getLast?_eq_none_iff] at hg; subst hg; cases hj
    | some z =>
      have hz := (hs.at_ z (by rw [hr, hg])).2.2
      obtain ⟨pre, rfl⟩ := List.getLast?_eq_some_iff.1 hg
      rcases List.mem_append.1 hj with h | h
      · exact hp _ _ ((List.pairwise_append.1 hup.1).2.2 j h z (by simp)) hz
      · simp at h; subst h; exact hz
  · cases vs with
    | nil => cases hj
    | cons b vs =>
      have hb := (hs.nx b (by rw [hn]; rfl)).2
      rcases List.mem_cons.1 hj with rfl | h
      · exact hb
      · have := (List.pairwise_cons.1 hup.2.1).1 j h
        cases hq : p (K.key j) with
        | false => rfl
        | true => rw [hp _ _ this hq] at hb; cases hb

theorem kl_down (key : ByteArray) : ∀ a b, kl a b = true → kl b key = true → kl a key = true := fun a b h1 h2 => kl_trans h1 h2

def Kb : SK := beginK (SK.new 2) ⟨#[98]⟩ 2
def Ka : SK := beginK Kb ⟨#[97]⟩ 1

theorem awake_seek {K : SK} (hI : Inv K) (hn : K.n = 2) (h0 : K.key 0 = ⟨#[98]⟩) (h1 : K.key 1 = ⟨#[97]⟩) (l0 : K.lv 0 = 2) (l1 : K.lv 1 = 1) {r : Option Nat} (hs : Stop K (fun k => kl k ⟨#[97, 97]⟩) r) : tellO K (K.nxt r 0) = (⟨#[98]⟩, true) := by
  obtain ⟨js, hc, hr, hm⟩ := hI.ch 0 (by omega)
  obtain ⟨us, vs, rfl, ha, hb, _, hx⟩ := sought hI (kl_down _) hs ⟨hc, hr, hm⟩
  have k0 : kl (K.key 0) ⟨#[97, 97]⟩ = false := by rw [h0]; simp [kl, ByteArray.toList_eq, Op.bytesLess]
  have k1 : kl (K.key 1) ⟨#[97, 97]⟩ = true := by rw [h1]; simp [kl, ByteArray.toList_eq, Op.bytesLess]
  have m0 : 0 ∈ vs := by
    rcases List.mem_append.1 ((hm 0).2 ⟨by omega, by omega⟩) with h | h
    · have := ha 0 h; rw [k0] at this; cases this
    · exact h
  cases vs with
  | nil => cases m0
  | cons b vs =>
    have hbm := (hm b).1 (by simp)
    have hbb := hb b (by simp)
    have : b = 0 := by
      by_cases h : b = 1
      · subst h; rw [k1] at hbb; cases hbb
      · omega
    subst this
    rw [hx]
    simp [tellO, h0]

theorem kb_a : ∀ i, i < Kb.n → Kb.key i ≠ ⟨#[97]⟩ := fun i hi => by
  obtain rfl : i = 0 := by have : i < 1 := hi; omega
  decide
theorem ka_c : ∀ i, i < Ka.n → Ka.key i ≠ ⟨#[99]⟩ := fun i hi => by
  obtain rfl | rfl : i = 0 ∨ i = 1 := by have : i < 2 := hi; omega
  · decide
  · decide

theorem len_of {w : World} {base : Nat} {e : TypeId} {sz : Nat} {v : Value} {n : Nat} {xs : List Value} (h : w.ownsRow base e sz v n xs) : ∃ a cap, v = .slice a n cap ∧ n ≤ maxLen := by
  rcases h.2 with ⟨h1, h0⟩ | ⟨g, cap, cur, h1, _, hg, hn, hm, hcs, htk⟩
  · exact ⟨none, 0, by rw [h1, h0], by rw [h0]; exact Nat.zero_le _⟩
  · exact ⟨_, cap, h1, Nat.le_trans hn hm⟩

set_option maxRecDepth 20000 in
set_option maxHeartbeats 1000000 in
theorem awake07 (w : World) : Calls Try.prog 16 #[] w (TrueExt w) := by
  go_enter Try.func16, Try.ntmps16
  go_wp2_with fail
  refine (new_ls 2 (by decide) (by decide) _).mono ?_
  rintro e w1 ⟨lb, rfl, hl1, he1⟩
  have L1 := hid hl1
  have E1 := hid he1
  clear hl1 he1
  go_wp2_with fail
  refine (begin_ls L1.out E1.out.size ⟨#[98]⟩ 2 (by omega) (by omega) (fun i hi => absurd hi (Nat.not_lt_zero _)) (by decide) (by decide)).mono ?_
  rintro e w2 ⟨rfl, hl2, hk2⟩
  have L2 : Hid (ListAt w.heap.size lb w2 Kb) := hid hl2
  have E2 := hid (E1.out.trans (hk2.below E1.out.size))
  clear hl2 hk2
  rw [show (((SK.new 2).n : Nat) : Int) = 0 from rfl]
  go_wp2_with fail
  refine (begin_ls L2.out E2.out.size ⟨#[97]⟩ 1 (by omega) (by omega) kb_a (by decide) (by decide)).mono ?_
  rintro e w3 ⟨rfl, hl3, hk3⟩
  have L3 : Hid (ListAt w.heap.size lb w3 Ka) := hid hl3
  have E3 := hid (E2.out.trans (hk3.below E2.out.size))
  clear hl3 hk3 L1 E1 L2 E2
  rw [show ((Kb.n : Nat) : Int) = 1 from rfl]
  go_wp2_with fail
  refine (begin_same_ls L3.out ⟨#[97]⟩ 1 (by omega) (by omega) ⟨1, by decide, rfl⟩).mono ?_
  rintro e w4 ⟨rfl, he4⟩
  have L4 := hid (L3.out.ext he4)
  have E4 := hid (E3.out.trans (ext_below he4 E3.out.size))
  clear he4 L3 E3
  go_wp2_with fail
  refine (begin_full_ls L4.out ⟨#[99]⟩ 1 (by omega) (by omega) ka_c (by decide)).mono ?_
  rintro e w5 ⟨rfl, he5⟩
  have L5 := hid (L4.out.ext he5)
  have E5 := hid (E4.out.trans (ext_below he5 E4.out.size))
  clear he5 L4 E4
  go_wp2_with fail
  refine (whole_ls L5.out (i := 0) (by decide) 60 (by decide) (by decide)).mono ?_
  rintro e w6 ⟨d, hd, hdn, rfl, hl6, hk6⟩
  have L6 := hid hl6
  have E6 := hid (E5.out.trans (hk6.below E5.out.size))
  obtain ⟨R1, R2, R3, R4, R5⟩ := runK_inv (i := 0) L5.out.1 (by decide) (d + 1)
  have RL := runK_lv (K := Ka) (i := 0) (d + 1) 1 (by decide)
  have hd' : (d : Int) ≤ 60 := by have : d ≤ 26 := hd; omega
  clear hl6 hk6 L5 E5 hd
  generalize runK Ka 0 (d + 1) = K6 at *
  have X6 := hid (And.intro R1 (And.intro R2 (And.intro R3 (And.intro R4 (And.intro R5 (And.intro RL hdn))))))
  clear R1 R2 R3 R4 R5 RL hdn
  go_wp2_with fail
  refine (whole_ls L6.out (i := 1) (by rw [X6.out.2.1]; decide) 40 (by rw [X6.out.2.1, X6.out.2.2.2.1]; decide) (by decide)).mono ?_
  rintro e w7 ⟨d2, hd2, hdn2, rfl, hl7, hk7⟩
  have L7 := hid hl7
  have E7 := hid (E6.out.trans (hk7.below E6.out.size))
  obtain ⟨R1, R2, R3, R4, R5⟩ := runK_inv (i := 1) L6.out.1 (by rw [X6.out.2.1]; decide) (d2 + 1)
  have RL := runK_lv (K := K6) (i := 1) (d2 + 1) 0 (by decide)
  have hd2' : (d2 : Int) ≤ 60 := by rw [X6.out.2.1, X6.out.2.2.2.1] at hd2; have : d2 ≤ 14 := hd2; omega
  clear hl7 hk7 L6 E6 hd2
  generalize runK K6 1 (d2 + 1) = K7 at *
  have n7 : K7.n = 2 := R2.trans X6.out.2.1
  have key7 : K7.key = Ka.key := R3.trans X6.out.2.2.1
  have l0 : K7.lv 0 = 2 := RL.trans X6.out.2.2.2.2.2.2
  have l1 : K7.lv 1 = 1 := by rw [hdn2, X6.out.2.2.2.1]; rfl
  have hsk := hid (fun (r : Option Nat) (h : Stop K7 (fun k => kl k ⟨#[97, 97]⟩) r) => awake_seek R1 n7 (by rw [key7]; rfl) (by rw [key7]; rfl) l0 l1 h)
  have c0 : cnt K7 0 = 2 := by unfold cnt; rw [n7]; simp [List.range_succ, l0, l1]
  have c1 : cnt K7 1 = 1 := by unfold cnt; rw [n7]; simp [List.range_succ, l0, l1]
  have N7 := hid n7
  clear R1 R2 R3 R4 R5 RL hdn2 X6 key7 l0 l1 n7
  go_wp2_with fail
  refine (seek_ls L7.out _).mono ?_
  rintro e w8 ⟨r, hs, rfl, he8⟩
  have hx := hsk.out _ hs
  simp only [hx]
  have L8 := hid (L7.out.ext he8)
  have E8 := hid (E7.out.trans (ext_below he8 E7.out.size))
  clear hx hs hsk he8 L7 E7
  go_wp2_with fail
  refine (keys_ls L8.out (by rw [N7.out]; decide) (l := 0) (by decide)).mono ?_
  rintro e w9 ⟨js, v, hl, rfl, ho, he9⟩
  obtain ⟨a, cap, rfl, _⟩ := len_of ho
  rw [hl.len, c0]
  have L9 := hid (L8.out.ext he9)
  have E9 := hid (E8.out.trans (ext_below he9 E8.out.size))
  clear he9 hl ho L8 E8
  go_wp2_with fail
  refine (keys_ls L9.out (by rw [N7.out]; decide) (l := 1) (by decide)).mono ?_
  rintro e w10 ⟨js2, v2, hl2, rfl, ho2, he10⟩
  obtain ⟨a2, cap2, rfl, _⟩ := len_of ho2
  rw [hl2.len, c1]
  have E10 := hid (E9.out.trans (ext_below he10 E9.out.size))
  clear he10 hl2 ho2 L9 E9
  go_wp2
  go_ret
  exact ⟨rfl, E10.out⟩

set_option maxRecDepth 20000 in
theorem skipNil_walk (key : ByteArray) (n : Int) (w : World) : Calls Try.prog 3 #[.string key, .int .i64 n] w (TrueExt w) := by
  go_enter Try.func3, Try.ntmps3
  go_wp2_with fail
  refine (awake07 w).mono ?_
  rintro e w1 ⟨rfl, he1⟩
  go_wp2_with fail
  refine (begin_nil _ _ _).mono ?_
  rintro e w2 ⟨rfl, he2⟩
  go_wp2_with fail
  refine (step_nil _ _).mono ?_
  rintro e w3 ⟨rfl, he3⟩
  go_wp2_with fail
  refine (seek_nil _ _).mono ?_
  rintro e w4 ⟨rfl, he4⟩
  go_wp2_with fail
  refine (before_nil _ _).mono ?_
  rintro e w5 ⟨rfl, he5⟩
  go_wp2_with fail
  refine (last_nil _).mono ?_
  rintro e w6 ⟨rfl, he6⟩
  go_wp2_with fail
  refine (keys_nil _ _).mono ?_
  rintro e w7 ⟨v, rfl, ho, he7⟩
  obtain ⟨a, cap, rfl, _⟩ := len_of ho
  clear ho
  go_wp2
  go_ret
  exact ⟨rfl, (((((he1.tr he2).tr he3).tr he4).tr he5).tr he6).tr he7⟩
end Go.Proofs.Ytoonhcmeklmnlaa
