/- SimfsNil holds: for every call the law returns true. No condition beyond the given row. -/
import Derived.Test.YtjekfifnhdoamaaLawSl4
import Derived.Test.YtjekfifnhdoamaaOpenFc
set_option linter.unusedSimpArgs false
set_option linter.unusedVariables false
set_option linter.unnecessarySimpa false
namespace Go.Proofs.Ytjekfifnhdoamaa
open Go.ChangeShapes Go.WideShapes Go.ChangeAt Go.RowKit Go.Rg Go.St

theorem simfsNil_own : ownKnob Try.prog.godebug = none := by kernel_rfl
theorem simfsNil_laid : laidOutB Try.prog = true := by kernel_rfl

set_option maxRecDepth 100000 in
theorem simfsNil_lifted (os : Os) (started : os.Started) (H : Type) (enc : TypeId × Value → H) :
    ReturnsInHanded {} Try.checked os 12 .any (Rows.simfsNilSpec.pre6 enc Try.prog Try.f12 Rows.simfsNilRow.domain false) (Rows.simfsNilSpec.post enc Try.prog Try.f12 false true false false) := by
  refine law_lifted (C := Try.checked) (bt := 4) simfsNil_own started (by kernel_rfl) Try.func12
    (ChangeSpec.witness6 (enc := enc) (C := Try.checked) false ⟨#[], #[.agg #[.int .i64 0, .string ByteArray.empty, .string ByteArray.empty, .slice none 0 0, .int .i64 0, .slice none 0 0]], []⟩ 8 (by kernel_rfl) (by kernel_rfl) (by kernel_rfl) (by kernel_rfl))
    simfsNil_laid rfl Try.underlying4 rfl (by kernel_rfl) (fun ds h => by match ds, h with | [_], _ => rfl) ?_
  intro W base args ds p hval0 hA0 hsz0
  have hval : ∀ (j : Nat) t v, Try.f12.params[j]? = some t → args[j]? = some v → Value.okWide Try.prog W .any base t v := hval0
  have hA : DataW.TrodAll enc Try.prog W 0 (fun _ => true) true Try.f12.params.toList args.toList ds p := hA0
  have hsz : (DataW.weightsEach Try.prog Try.f12.params.toList ds).all (· ≤ reachBytes) = true := hsz0
  rw [Try.params12] at hA hval hsz
  clear hA0 hval0 hsz0
  obtain ⟨v0, d0, rfl, rfl, h0⟩ := trodAll_one hA
  obtain ⟨cs0, rfl⟩ := open_agg Try.underlying73 (hval 0 73 v0 rfl rfl)
  obtain ⟨fuel0, hf0⟩ := h0
  obtain ⟨c0, hcs0, hgood0⟩ := (tells_fcall Try.underlying73 rfl (by kernel_rfl) Try.underlying3 (by kernel_rfl) Try.underlying9 (by kernel_rfl) Try.underlying53 (by kernel_rfl) Try.underlying5 (by kernel_rfl) Try.underlying43 (by kernel_rfl) Try.underlying3 (by kernel_rfl)) _ _ _ hf0
  obtain rfl : cs0 = (eFCall c0).toArray := by apply Array.toList_inj.1; simpa [Value.cells] using hcs0
  obtain ⟨kd, nm, nt, bb, nn, pk⟩ := c0
  obtain ⟨_, _, ⟨lb, hlb, _⟩, lp, hlp, _⟩ := hgood0
  have hlb' : SlS W bb 1 (fun n => [Value.int .u8 n]) lb := hlb
  have hlp' : SlS W pk 1 (fun n => [Value.int .i64 n]) lp := hlp
  obtain ⟨xa, xc, rfl, _⟩ := hlb'.ex
  obtain ⟨ya, yc, rfl, _⟩ := hlp'.ex
  exact simfsNil_walk kd nn nm nt xa ya lb.length xc lp.length yc W

theorem simfsNil_holds : Rows.SimfsNilSaid :=
  OpenClaim.holds_of_wide 12 Try.f12 rfl rfl rfl rfl rfl rfl rfl ⟨rfl, rfl, rfl, rfl, rfl⟩ rfl rfl rfl rfl rfl (by kernel_rfl) Try.func12 (by kernel_rfl)
    (of_decide_eq_true (by kernel_rfl)) (by unfold Func.isWrapper; rw [if_neg (of_decide_eq_false (by kernel_rfl))]; exact ⟨rfl, rfl⟩)
    (fun os started H enc _ => simfsNil_lifted os started H enc)
#print axioms simfsNil_holds
end Go.Proofs.Ytjekfifnhdoamaa
