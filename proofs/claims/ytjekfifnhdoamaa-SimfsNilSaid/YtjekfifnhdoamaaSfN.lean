/- Files that a crash cuts: calls on no file system. -/
import Derived.Test.YtjekfifnhdoamaaSf0
import Derived.Test.YtjekfifnhdoamaaSf1
set_option linter.unusedSimpArgs false
set_option linter.unusedVariables false
set_option linter.unnecessarySimpa false
namespace Go.Proofs.Ytjekfifnhdoamaa
open Go.RowKit Go.Rg Go.St

set_option maxRecDepth 100000 in
set_option maxHeartbeats 1000000 in
theorem nil_ask  (w : World) : Calls Try.prog 47 #[.pointer none] w (fun e w' => e = .returned (.int .i64 1) ∧ w = w') := by
  go_enter Try.func47, Try.ntmps47
  go_wp2_with fail
  go_ret
  exact ⟨rfl, rfl⟩
set_option maxRecDepth 100000 in
set_option maxHeartbeats 1000000 in
theorem nil_find (n : ByteArray) (w : World) : Calls Try.prog 50 #[.pointer none, .string n] w (fun e w' => e = .returned (.tuple #[.pointer none, .int .i64 1]) ∧ w = w') := by
  go_enter Try.func50, Try.ntmps50
  go_wp2_with fail
  refine (nil_ask w).mono ?_
  rintro e w1 ⟨rfl, rfl⟩
  go_wp2_with fail
  go_ret2
  exact ⟨rfl, rfl⟩
set_option maxRecDepth 100000 in
set_option maxHeartbeats 1000000 in
theorem nil_Read (n : ByteArray) (w : World) : Calls Try.prog 29 #[.pointer none, .string n] w (fun e w' => e = .returned (.tuple #[.slice none 0 0, .int .i64 1]) ∧ w = w') := by
  go_enter Try.func29, Try.ntmps29
  go_wp2_with fail
  go_ret2
  exact ⟨rfl, rfl⟩
set_option maxRecDepth 100000 in
set_option maxHeartbeats 1000000 in
theorem nil_List  (w : World) : Calls Try.prog 35 #[.pointer none] w (fun e w' => e = .returned (.tuple #[.slice none 0 0, .int .i64 1]) ∧ w = w') := by
  go_enter Try.func35, Try.ntmps35
  go_wp2_with fail
  go_ret2
  exact ⟨rfl, rfl⟩
set_option maxRecDepth 100000 in
set_option maxHeartbeats 1000000 in
theorem nil_Fuse (n : Int) (w : World) : Calls Try.prog 27 #[.pointer none, .int .i64 n] w (fun e w' => e = .returned (.tuple #[]) ∧ w = w') := by
  go_enter Try.func27, Try.ntmps27
  go_wp2_with fail
  go_end0
  exact ⟨rfl, rfl⟩
set_option maxRecDepth 100000 in
set_option maxHeartbeats 1000000 in
theorem nil_Fail (n : Int) (w : World) : Calls Try.prog 41 #[.pointer none, .int .i64 n] w (fun e w' => e = .returned (.tuple #[]) ∧ w = w') := by
  go_enter Try.func41, Try.ntmps41
  go_wp2_with fail
  go_end0
  exact ⟨rfl, rfl⟩
set_option maxRecDepth 100000 in
set_option maxHeartbeats 1000000 in
theorem nil_Crash (a : Option Addr) (l c : Nat) (w : World) : Calls Try.prog 33 #[.pointer none, .slice a l c] w (fun e w' => e = .returned (.tuple #[]) ∧ w = w') := by
  go_enter Try.func33, Try.ntmps33
  go_wp2_with fail
  refine bodyPost_ret (results_none rfl _ _ _) rfl ?_
  exact ⟨rfl, rfl⟩
set_option maxRecDepth 100000 in
set_option maxHeartbeats 1000000 in
theorem nil_Create (n : ByteArray) (w : World) : Calls Try.prog 26 #[.pointer none, .string n] w (fun e w' => e = .returned (.int .i64 1) ∧ w = w') := by
  go_enter Try.func26, Try.ntmps26
  go_wp2_with fail
  refine (nil_ask w).mono ?_
  rintro e w1 ⟨rfl, rfl⟩
  go_wp2_with fail
  go_ret
  exact ⟨rfl, rfl⟩
set_option maxRecDepth 100000 in
set_option maxHeartbeats 1000000 in
theorem nil_Append (n : ByteArray) (a : Option Addr) (l c : Nat) (w : World) : Calls Try.prog 28 #[.pointer none, .string n, .slice a l c] w (fun e w' => e = .returned (.int .i64 1) ∧ w = w') := by
  go_enter Try.func28, Try.ntmps28
  go_wp2_with fail
  refine (nil_find n w).mono ?_
  rintro e w1 ⟨rfl, rfl⟩
  go_wp2_with fail
  go_ret
  exact ⟨rfl, rfl⟩
set_option maxRecDepth 100000 in
set_option maxHeartbeats 1000000 in
theorem nil_Sync (n : ByteArray) (w : World) : Calls Try.prog 30 #[.pointer none, .string n] w (fun e w' => e = .returned (.int .i64 1) ∧ w = w') := by
  go_enter Try.func30, Try.ntmps30
  go_wp2_with fail
  refine (nil_find n w).mono ?_
  rintro e w1 ⟨rfl, rfl⟩
  go_wp2_with fail
  go_ret
  exact ⟨rfl, rfl⟩
set_option maxRecDepth 100000 in
set_option maxHeartbeats 1000000 in
theorem nil_Rename (n m : ByteArray) (w : World) : Calls Try.prog 32 #[.pointer none, .string n, .string m] w (fun e w' => e = .returned (.int .i64 1) ∧ w = w') := by
  go_enter Try.func32, Try.ntmps32
  go_wp2_with fail
  refine (nil_find n w).mono ?_
  rintro e w1 ⟨rfl, rfl⟩
  go_wp2_with fail
  go_ret
  exact ⟨rfl, rfl⟩
set_option maxRecDepth 100000 in
set_option maxHeartbeats 1000000 in
theorem nil_Remove (n : ByteArray) (w : World) : Calls Try.prog 42 #[.pointer none, .string n] w (fun e w' => e = .returned (.int .i64 1) ∧ w = w') := by
  go_enter Try.func42, Try.ntmps42
  go_wp2_with fail
  refine (nil_find n w).mono ?_
  rintro e w1 ⟨rfl, rfl⟩
  go_wp2_with fail
  go_ret
  exact ⟨rfl, rfl⟩
set_option maxRecDepth 100000 in
set_option maxHeartbeats 1000000 in
theorem nil_SyncDir  (w : World) : Calls Try.prog 31 #[.pointer none] w (fun e w' => e = .returned (.int .i64 1) ∧ w = w') := by
  go_enter Try.func31, Try.ntmps31
  go_wp2_with fail
  refine (nil_ask w).mono ?_
  rintro e w1 ⟨rfl, rfl⟩
  go_wp2_with fail
  go_ret
  exact ⟨rfl, rfl⟩
set_option maxRecDepth 100000 in
set_option maxHeartbeats 1000000 in
theorem nil_Damage (n : ByteArray) (i t : Int) (w : World) : Calls Try.prog 43 #[.pointer none, .string n, .int .i64 i, .int .u8 t] w (fun e w' => e = .returned (.int .i64 1) ∧ w = w') := by
  go_enter Try.func43, Try.ntmps43
  go_wp2_with fail
  go_ret
  exact ⟨rfl, rfl⟩
set_option maxRecDepth 100000 in
set_option maxHeartbeats 1000000 in
theorem nil_Ops  (w : World) : Calls Try.prog 44 #[.pointer none] w (fun e w' => e = .returned (.int .i64 0) ∧ w = w') := by
  go_enter Try.func44, Try.ntmps44
  go_wp2_with fail
  go_ret
  exact ⟨rfl, rfl⟩
set_option maxRecDepth 100000 in
set_option maxHeartbeats 1000000 in
theorem nil_Copy  (w : World) : Calls Try.prog 34 #[.pointer none] w (fun e w' => e = .returned (.pointer none) ∧ w = w') := by
  go_enter Try.func34, Try.ntmps34
  go_wp2_with fail
  go_ret
  exact ⟨rfl, rfl⟩
end Go.Proofs.Ytjekfifnhdoamaa
