/- VersionPlays holds: for every Version and all edits the law returns true. No condition beyond the given row. -/
import Derived.Test.YtoonhcmeklmnlaaLawVp
import Derived.Test.YtoonhcmeklmnlaaOpenEd
import Derived.Test.YtoonhcmeklmnlaaLiftU
set_option linter.unusedSimpArgs false
set_option linter.unusedVariables false
set_option linter.unnecessarySimpa false
namespace Go.Proofs.Ytoonhcmeklmnlaa
open Go.ChangeShapes Go.WideShapes Go.ChangeAt Go.RowKit Go.Rg Go.St

theorem versionPlays_own : ownKnob Try.prog.godebug = none := by kernel_rfl
theorem versionPlays_laid : laidOutB Try.prog = true := by kernel_rfl

set_option maxRecDepth 100000 in
theorem versionPlays_lifted (os : Os) (started : os.Started) (H : Type) (enc : TypeId × Value → H) :
    ReturnsInHanded {} Try.checked os 11 .any (Rows.versionPlaysSpec.pre6 enc Try.prog Try.f11 Rows.versionPlaysRow.domain false) (Rows.versionPlaysSpec.post enc Try.prog Try.f11 false true false false) := by
  refine law_lifted (C := Try.checked) (bt := 4) versionPlays_own started (by kernel_rfl) Try.func11
    (ChangeSpec.witness6 (enc := enc) (C := Try.checked) false ⟨#[], #[.agg #[.slice none 0 0, .slice none 0 0, .slice none 0 0, .slice none 0 0], .slice none 0 0], []⟩ 8 (by kernel_rfl) (by kernel_rfl) (by kernel_rfl) (by kernel_rfl))
    versionPlays_laid rfl Try.underlying4 rfl (by kernel_rfl) (fun ds h => by match ds, h with | [_, _], _ => rfl) ?_
  intro W base args ds p hval0 hA0 hsz0
  have hval : ∀ (j : Nat) t v, Try.f11.params[j]? = some t → args[j]? = some v → Value.okWide Try.prog W .any base t v := hval0
  have hA : DataW.TrodAll enc Try.prog W 0 (fun _ => true) true Try.f11.params.toList args.toList ds p := hA0
  have hsz : (DataW.weightsEach Try.prog Try.f11.params.toList ds).all (· ≤ reachBytes) = true := hsz0
  rw [Try.params11] at hA hval hsz
  clear hA0 hval0 hsz0
  obtain ⟨v0, v1, d0, d1, p0, p1, rfl, rfl, rfl, h0, h1⟩ := trodAll_two hA
  obtain ⟨cs0, rfl⟩ := open_agg Try.underlying67 (hval 0 67 v0 rfl rfl)
  obtain ⟨fuel0, hf0⟩ := h0
  obtain ⟨a0, a1, a2, a3, V0, hcs0, s0, s1, s2, s3, hgood0, hbig0⟩ := ver_sized Try.underlying67 rfl (by kernel_rfl) Try.underlying65 (by kernel_rfl) (by kernel_rfl) Try.underlying64 (by kernel_rfl) (tells_file Try.underlying80 rfl (by kernel_rfl) (tells_key Try.underlying42 rfl (by kernel_rfl) Try.underlying9 (by kernel_rfl) Try.underlying36 (by kernel_rfl) Try.underlying3 (by kernel_rfl)) (by kernel_rfl) Try.underlying36 (by kernel_rfl) Try.underlying3 (by kernel_rfl)) hf0
  obtain rfl : cs0 = #[a0, a1, a2, a3] := by apply Array.toList_inj.1; simpa [Value.cells] using hcs0
  have hw0 : (d0.weights Try.prog 67).all (· ≤ reachBytes) = true := List.all_eq_true.2 fun n hn => List.all_eq_true.1 hsz n (DataW.weights_mem_each (j := 0) rfl rfl n hn)
  have hlen0 : ∀ i, i < 4 → (V0 i).length ≤ 140737488351232 := fun i hi => by
    have h1 := hbig0 hw0 i hi
    have h2 : Try.prog.bytesOf 80 = 88 := by kernel_rfl
    rw [h2] at h1; omega
  obtain ⟨l1, hl1, hg1, _⟩ := open_slS (α := EdS) Try.underlying68 (by kernel_rfl) (by omega) (tells_edit (W := W) Try.underlying75 rfl (by kernel_rfl) Try.underlying36 (by kernel_rfl) Try.underlying73 (by kernel_rfl) Try.underlying64 (by kernel_rfl) (tells_gone Try.underlying97 rfl (by kernel_rfl) Try.underlying3 (by kernel_rfl) Try.underlying36 (by kernel_rfl)) (by kernel_rfl) (tells_file Try.underlying80 rfl (by kernel_rfl) (tells_key Try.underlying42 rfl (by kernel_rfl) Try.underlying9 (by kernel_rfl) Try.underlying36 (by kernel_rfl) Try.underlying3 (by kernel_rfl)) (by kernel_rfl) Try.underlying36 (by kernel_rfl) Try.underlying3 (by kernel_rfl)) (by kernel_rfl)) eEdS_length (hval 1 68 v1 rfl rfl) h1
  exact versionPlays_walk a0 a1 a2 a3 v1 V0 l1 W ⟨s0, s1, s2, s3⟩ hlen0 (fun n hn f hf => fit_of_good (hgood0 n hn f hf)) hl1 hg1

theorem versionPlays_holds : Rows.VersionPlaysSaid :=
  OpenClaim.holds_of_wide 11 Try.f11 rfl rfl rfl rfl rfl rfl rfl ⟨rfl, rfl, rfl, rfl, rfl⟩ rfl rfl rfl rfl rfl (by kernel_rfl) Try.func11 (by kernel_rfl)
    (of_decide_eq_true (by kernel_rfl)) (by unfold Func.isWrapper; rw [if_neg (of_decide_eq_false (by kernel_rfl))]; exact ⟨rfl, rfl⟩)
    (fun os started H enc _ => versionPlays_lifted os started H enc)
#print axioms versionPlays_holds
end Go.Proofs.Ytoonhcmeklmnlaa
