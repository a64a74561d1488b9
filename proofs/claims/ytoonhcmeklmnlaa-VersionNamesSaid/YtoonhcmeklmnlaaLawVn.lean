/- The walk of the law VersionNames. -/
import Derived.Test.YtoonhcmeklmnlaaVrC
set_option linter.unusedSimpArgs false
set_option linter.unusedVariables false
set_option linter.unnecessarySimpa false
namespace Go.Proofs.Ytoonhcmeklmnlaa
open Go.RowKit Go.Rg Go.St

set_option maxHeartbeats 1000000 in
theorem versionNames_walk (w : World) : Calls Try.prog 10 #[] w (AwakeP w) := by
  go_enter Try.func10, Try.ntmps10
  go_wp2_with fail
  refine (awake14 _).mono ?_
  rintro e w1 ⟨rfl, he1⟩
  have E1 := hid he1
  clear he1
  go_wp2_with fail
  go_ret
  exact ⟨rfl, E1.out⟩
end Go.Proofs.Ytoonhcmeklmnlaa
