/- The walks of the references' spans and files. -/
import Derived.Test.YticmnmdokoonjaaIn3
import Derived.Laws.StructEq
set_option linter.unusedSimpArgs false
set_option linter.unusedVariables false
set_option linter.unnecessarySimpa false
namespace Go.Proofs.Yticmnmdokoonjaa
open Go.RowKit Go.Rg Go.St

theorem span_one {l : List File} (h : 0 < l.length) : spanTo ((nth l 0).small.user, (nth l 0).large.user) (l.take 1) = ((nth l 0).small.user, (nth l 0).large.user) := by
  rw [take_succ_nth l 0 h]
  simp only [List.take_zero, List.nil_append, spanTo, List.foldl_cons, List.foldl_nil]
  unfold mnB mxB
  rw [if_pos (kle_refl _), if_pos (kle_refl _)]

theorem tri (x y : ByteArray) : (Op.bytesLess x.toList y.toList = true ∧ kl y x = false) ∨ (Op.bytesLess x.toList y.toList = false ∧ (x.toList == y.toList) = true ∧ kl y x = false) ∨ (Op.bytesLess x.toList y.toList = false ∧ (x.toList == y.toList) = false ∧ kl y x = true) := by
  rcases kl_total x y with h | h | h
  · exact .inl ⟨h, kl_asymm h⟩
  · subst h; exact .inr (.inl ⟨kl_irrefl x, by simp, kl_irrefl x⟩)
  · refine .inr (.inr ⟨kl_asymm h, ?_, h⟩)
    cases e : (x.toList == y.toList) with
    | false => rfl
    | true =>
      have := ba_ext (eq_of_beq e)
      subst this; rw [kl_irrefl] at h; cases h

def TwoPost (a b : ByteArray) (w : World) (e : Ending) (w' : World) : Prop := e = .returned (.tuple #[.string a, .string b]) ∧ w = w'

set_option maxHeartbeats 1000000 in
theorem rspan_in (v : Value) (l : List File) (w : World) (h : SlFile w v l) (hl : 0 < l.length) :
    Calls Try.prog 49 #[v] w (TwoPost (span l).1 (span l).2 w) := by
  obtain ⟨a, cap, rfl, hcap, hm, hc⟩ := h.ex
  obtain ⟨b, off, rfl, hcell⟩ := hc hl
  unfold maxLen at hm
  obtain ⟨c0, c1, c2, c3, c4, c5, c6, c7, c8⟩ := SlS.at9 (w := w) (enc := eFile) (xs := l) (k := 0) (fun j hj => hcell 0 hl j hj) rfl
  rw [Nat.zero_mul, Nat.add_zero] at c3 c6
  have HC := hid hcell
  have H1 := hid (span_one hl)
  clear hcell hc h c0 c1 c2 c4 c5 c7 c8
  go_enter Try.func49, Try.ntmps49
  go_wp2
  clear c3 c6
  go_loop [4, 5, 6] (fun p q t => ∃ k : Nat, 1 ≤ k ∧ k ≤ l.length ∧ t = .int .i64 k ∧ p = .string (spanTo ((nth l 0).small.user, (nth l 0).large.user) (l.take k)).1 ∧ q = .string (spanTo ((nth l 0).small.user, (nth l 0).large.user) (l.take k)).2) (fun _ _ t => l.length - (intOf t).toNat)
  case atStart => exact ⟨1, by omega, by omega, rfl, by rw [H1.out], by rw [H1.out]⟩
  case round =>
    obtain ⟨k, hk1, hk, rfl, rfl, rfl⟩ := hrel
    by_cases hlt : k < l.length
    · obtain ⟨c0, c1, c2, c3, c4, c5, c6, c7, c8⟩ := SlS.at9 (w := w) (enc := eFile) (xs := l) (k := k) (fun j hj => HC.out k hlt j hj) rfl
      clear c0 c1 c2 c4 c5 c7 c8
      have hsn := spanTo_snoc ((nth l 0).small.user, (nth l 0).large.user) (l.take k) (nth l k)
      rw [← take_succ_nth l k hlt, mnB_kl, mxB_kl] at hsn
      have HSN := hid hsn
      clear hsn
      generalize spanTo ((nth l 0).small.user, (nth l 0).large.user) (l.take k) = s at *
      rcases hb1 : kl (nth l k).small.user s.1 with _ | _
      all_goals
        have hb1' : Op.bytesLess (nth l k).small.user.toList s.1.toList = _ := hb1
        have HB := hid hb1
        clear hb1
        rcases tri (nth l k).large.user s.2 with ⟨h1, h2⟩ | ⟨h1, h2, h3⟩ | ⟨h1, h2, h3⟩
        · have HK := hid h2
          clear h2
          go_wp2
          go_round
          case rel => exact ⟨k + 1, by omega, by omega, by go_num, by rw [HSN.out, HB.out]; simp, by rw [HSN.out, HK.out]; simp⟩
          case measure => simp [intOf]; omega
        · have HK := hid h3
          clear h3
          go_wp2
          go_round
          case rel => exact ⟨k + 1, by omega, by omega, by go_num, by rw [HSN.out, HB.out]; simp, by rw [HSN.out, HK.out]; simp⟩
          case measure => simp [intOf]; omega
        · have HK := hid h3
          clear h3
          go_wp2
          go_round
          case rel => exact ⟨k + 1, by omega, by omega, by go_num, by rw [HSN.out, HB.out]; simp, by rw [HSN.out, HK.out]; simp⟩
          case measure => simp [intOf]; omega
    · have : k = l.length := by omega
      subst this
      rw [List.take_length]
      go_wp2
      go_ret2
      exact ⟨rfl, rfl⟩

theorem leq_of (x y : ByteArray) {c : Bool} (h : kle x y = c) : (Op.bytesLess x.toList y.toList || x.toList == y.toList) = c := by rw [kle_eq]; exact h
theorem geq_of (x y : ByteArray) {c : Bool} (h : kle y x = c) : Op.bytesLess x.toList y.toList = !c := by
  unfold kle at h
  rw [← h, Bool.not_not]; rfl

set_option maxHeartbeats 1000000 in
theorem rhas_in (f : File) (a b : ByteArray) (w : World) :
    Calls Try.prog 50 #[aFile f, .string a, .string b] w (ValExt (.bool (ov a b f)) w) := by
  rw [ov_eq]
  rcases h1 : kle a b with _ | _ <;> rcases h2 : kle f.small.user f.large.user with _ | _ <;> rcases h3 : kle f.small.user b with _ | _ <;> rcases h4 : kle a f.large.user with _ | _
  all_goals
    have g1 := leq_of _ _ h1
    have g2 := leq_of _ _ h2
    have g3 := leq_of _ _ h3
    have g4 := geq_of _ _ h4
    clear h1 h2 h3 h4
    go_enter Try.func50, Try.ntmps50
    go_wp2
    go_ret
    exact ⟨rfl, (Ext.rfl w).al _⟩
end Go.Proofs.Yticmnmdokoonjaa
