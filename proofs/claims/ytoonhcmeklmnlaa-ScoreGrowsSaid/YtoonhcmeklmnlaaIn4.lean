/- The walks of the references' spans and files. -/
import Derived.Test.YtoonhcmeklmnlaaIn3
import Derived.Laws.StructEq
set_option linter.unusedSimpArgs false
set_option linter.unusedVariables false
set_option linter.unnecessarySimpa false
namespace Go.Proofs.Ytoonhcmeklmnlaa
open Go.RowKit Go.Rg Go.St

theorem span_one {l : List File} (h : 0 < l.length) : spanTo ((nth l 0).small.user, (nth l 0).large.user) (l.take 1) = ((nth l 0).small.user, (nth l 0).large.user) := by
  rw [take_succ_nth l 0 h]
  simp only [List.take_zero, List.nil_append, spanTo, List.foldl_cons, List.foldl_nil]
  unfold mnB mxB
  rw [if_pos (kle_refl _), if_pos (kle_refl _)]

theorem tri (x y : ByteArray) : (Op.bytesLess x.toList y.toList = true ∧ kl y x = false) ∨ (Op.bytesLess x.toList y.toList = false ∧ (x.toList == y.toList) = true ∧ kl y x = false) ∨ (Op.bytesLess x.toList y.toList = false ∧ (x.toList == y.toList) = false ∧ kl y x = true) := by
  rcases kl_total x y with h | h | h
  · exact .inl ⟨h, kl_asymm h⟩
  · subst h; exact .inr (.inl ⟨kl_irrefl x, by simp, kl_irrefl x⟩)
  · refine .inr (.inr ⟨kl_asymm h, ?_, h⟩)
    cases e : (x.toList == y.toList) with
    | false => rfl
    | true =>
      have := ba_ext (eq_of_beq e)
      subst this; rw [kl_irrefl] at h; cases h

def TwoPost (a b : ByteArray) (w : World) (e : Ending) (w' : World) : Prop := e = .returned (.tuple #[.string a, .string b]) ∧ w = w'


theorem leq_of (x y : ByteArray) {c : Bool} (h : kle x y = c) : (Op.bytesLess x.toList y.toList || x.toList == y.toList) = c := by rw [kle_eq]; exact h
theorem geq_of (x y : ByteArray) {c : Bool} (h : kle y x = c) : Op.bytesLess x.toList y.toList = !c := by
  unfold kle at h
  rw [← h, Bool.not_not]; rfl

set_option maxHeartbeats 1000000 in
theorem rhas_in (f : File) (a b : ByteArray) (w : World) :
    Calls Try.prog 79 #[aFile f, .string a, .string b] w (ValExt (.bool (ov a b f)) w) := by
  rw [ov_eq]
  rcases h1 : kle a b with _ | _ <;> rcases h2 : kle f.small.user f.large.user with _ | _ <;> rcases h3 : kle f.small.user b with _ | _ <;> rcases h4 : kle a f.large.user with _ | _
  all_goals
    have g1 := leq_of _ _ h1
    have g2 := leq_of _ _ h2
    have g3 := leq_of _ _ h3
    have g4 := geq_of _ _ h4
    clear h1 h2 h3 h4
    go_enter Try.func79, Try.ntmps79
    go_wp2
    go_ret
    exact ⟨rfl, (Ext.rfl w).al _⟩
end Go.Proofs.Ytoonhcmeklmnlaa
