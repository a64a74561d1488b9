/- VersionAsks holds: for all files, levels and users the law returns true. No condition beyond the given row. -/
import Derived.Test.YtoonhcmeklmnlaaLawVa
import Derived.Test.YtoonhcmeklmnlaaOpenVer
import Derived.Test.YtoonhcmeklmnlaaLiftU
set_option linter.unusedSimpArgs false
set_option linter.unusedVariables false
set_option linter.unnecessarySimpa false
namespace Go.Proofs.Ytoonhcmeklmnlaa
open Go.ChangeShapes Go.WideShapes Go.ChangeAt Go.RowKit Go.Rg Go.St

theorem versionAsks_own : ownKnob Try.prog.godebug = none := by kernel_rfl
theorem versionAsks_laid : laidOutB Try.prog = true := by kernel_rfl

set_option maxRecDepth 100000 in
theorem versionAsks_lifted (os : Os) (started : os.Started) (H : Type) (enc : TypeId × Value → H) :
    ReturnsInHanded {} Try.checked os 13 .any (Rows.versionAsksSpec.pre6 enc Try.prog Try.f13 Rows.versionAsksRow.domain false) (Rows.versionAsksSpec.post enc Try.prog Try.f13 false true false false) := by
  refine law_lifted (C := Try.checked) (bt := 4) versionAsks_own started (by kernel_rfl) Try.func13
    (ChangeSpec.witness6 (enc := enc) (C := Try.checked) false ⟨#[], #[.agg #[.slice none 0 0, .slice none 0 0, .slice none 0 0, .slice none 0 0], .int .i64 0, .string ByteArray.empty, .string ByteArray.empty], []⟩ 8 (by kernel_rfl) (by kernel_rfl) (by kernel_rfl) (by kernel_rfl))
    versionAsks_laid rfl Try.underlying4 rfl (by kernel_rfl) (fun ds h => by match ds, h with | [_, _, _, _], _ => rfl) ?_
  intro W base args ds p hval0 hA0 hsz0
  have hval : ∀ (j : Nat) t v, Try.f13.params[j]? = some t → args[j]? = some v → Value.okWide Try.prog W .any base t v := hval0
  have hA : DataW.TrodAll enc Try.prog W 0 (fun _ => true) true Try.f13.params.toList args.toList ds p := hA0
  have hsz : (DataW.weightsEach Try.prog Try.f13.params.toList ds).all (· ≤ reachBytes) = true := hsz0
  rw [Try.params13] at hA hval hsz
  clear hA0 hval0 hsz0
  obtain ⟨v0, v1, v2, v3, d0, d1, d2, d3, p0, p1, p2, p3, rfl, rfl, rfl, h0, h1, h2, h3⟩ := trodAll_four hA
  obtain ⟨cs0, rfl⟩ := open_agg Try.underlying67 (hval 0 67 v0 rfl rfl)
  obtain ⟨fuel0, hf0⟩ := h0
  obtain ⟨a0, a1, a2, a3, V0, hcs0, s0, s1, s2, s3, hgood0, hbig0⟩ := ver_sized Try.underlying67 rfl (by kernel_rfl) Try.underlying65 (by kernel_rfl) (by kernel_rfl) Try.underlying64 (by kernel_rfl) (tells_file Try.underlying80 rfl (by kernel_rfl) (tells_key Try.underlying42 rfl (by kernel_rfl) Try.underlying9 (by kernel_rfl) Try.underlying36 (by kernel_rfl) Try.underlying3 (by kernel_rfl)) (by kernel_rfl) Try.underlying36 (by kernel_rfl) Try.underlying3 (by kernel_rfl)) hf0
  obtain rfl : cs0 = #[a0, a1, a2, a3] := by apply Array.toList_inj.1; simpa [Value.cells] using hcs0
  have hw0 : (d0.weights Try.prog 67).all (· ≤ reachBytes) = true := List.all_eq_true.2 fun n hn => List.all_eq_true.1 hsz n (DataW.weights_mem_each (j := 0) rfl rfl n hn)
  have hlen0 : ∀ i, i < 4 → (V0 i).length ≤ 140737488351232 := fun i hi => by
    have h1 := hbig0 hw0 i hi
    have h2 : Try.prog.bytesOf 80 = 88 := by kernel_rfl
    rw [h2] at h1; omega
  obtain ⟨x1, rfl⟩ := okWide_int Try.underlying3 (hval 1 3 v1 rfl rfl)
  obtain ⟨x2, rfl⟩ := okWide_string Try.underlying9 (hval 2 9 v2 rfl rfl)
  obtain ⟨x3, rfl⟩ := okWide_string Try.underlying9 (hval 3 9 v3 rfl rfl)
  exact versionAsks_walk a0 a1 a2 a3 V0 x1 x2 x3 W ⟨s0, s1, s2, s3⟩ hlen0

theorem versionAsks_holds : Rows.VersionAsksSaid :=
  OpenClaim.holds_of_wide 13 Try.f13 rfl rfl rfl rfl rfl rfl rfl ⟨rfl, rfl, rfl, rfl, rfl⟩ rfl rfl rfl rfl rfl (by kernel_rfl) Try.func13 (by kernel_rfl)
    (of_decide_eq_true (by kernel_rfl)) (by unfold Func.isWrapper; rw [if_neg (of_decide_eq_false (by kernel_rfl))]; exact ⟨rfl, rfl⟩)
    (fun os started H enc _ => versionAsks_lifted os started H enc)
#print axioms versionAsks_holds
end Go.Proofs.Ytoonhcmeklmnlaa
