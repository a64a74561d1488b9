/- The walk of the law SimfsNil. -/
import Derived.Test.YtjekfifnhdoamaaLawSf
import Derived.Test.YtjekfifnhdoamaaSfN
set_option linter.unusedSimpArgs false
set_option linter.unusedVariables false
set_option linter.unnecessarySimpa false
namespace Go.Proofs.Ytjekfifnhdoamaa
open Go.RowKit Go.Rg Go.St

set_option maxRecDepth 100000 in
set_option maxHeartbeats 8000000 in
theorem simfsNil_walk (kind n : Int) (name to_ : ByteArray) (a a2 : Option Addr) (l c l2 c2 : Nat) (w : World) :
    Calls Try.prog 12 #[.agg #[.int .i64 kind, .string name, .string to_, .slice a l c, .int .i64 n, .slice a2 l2 c2]] w (TrueExt w) := by
  go_enter Try.func12, Try.ntmps12
  go_wp2_with fail
  refine (awake04 _).mono ?_
  rintro e w1 ⟨rfl, he1⟩
  have hb := (he1.block _ (by show w.heap.size < (w.heap.push _).size; simp)).trans (heap_alloc_new w (.cells #[.int .i64 kind, .string name, .string to_, .slice a l c, .int .i64 n, .slice a2 l2 c2] 73))
  have E1 := hid (show Ext w w1 from ((Ext.rfl w).al _).tr he1)
  obtain ⟨g, hg⟩ : ∃ g, g = w.heap.size := ⟨_, rfl⟩
  rw [← hg] at hb ⊢
  have c0 : w1.cell? ⟨g, 1, none⟩ = some (.string name) := (cell_of_row _ _ 1 _ _ _ hb).trans rfl
  have c1 : w1.cell? ⟨g, 2, none⟩ = some (.string to_) := (cell_of_row _ _ 2 _ _ _ hb).trans rfl
  have c3 : w1.cell? ⟨g, 3, none⟩ = some (.slice a l c) := (cell_of_row _ _ 3 _ _ _ hb).trans rfl
  have c4 : w1.cell? ⟨g, 4, none⟩ = some (.int .i64 n) := (cell_of_row _ _ 4 _ _ _ hb).trans rfl
  have c5 : w1.cell? ⟨g, 5, none⟩ = some (.slice a2 l2 c2) := (cell_of_row _ _ 5 _ _ _ hb).trans rfl
  clear he1 hb hg
  go_wp2_with fail
  refine (nil_Read name w1).mono ?_
  rintro e w2 ⟨rfl, rfl⟩
  go_wp2_with fail
  refine (nil_List w1).mono ?_
  rintro e w2 ⟨rfl, rfl⟩
  go_wp2_with fail
  refine (nil_Fuse n w1).mono ?_
  rintro e w2 ⟨rfl, rfl⟩
  go_wp2_with fail
  refine (nil_Fail n w1).mono ?_
  rintro e w2 ⟨rfl, rfl⟩
  go_wp2_with fail
  refine (nil_Crash a2 l2 c2 w1).mono ?_
  rintro e w2 ⟨rfl, rfl⟩
  go_wp2_with fail
  refine (nil_Create name w1).mono ?_
  rintro e w2 ⟨rfl, rfl⟩
  go_wp2_with fail
  refine (nil_Append name a l c w1).mono ?_
  rintro e w2 ⟨rfl, rfl⟩
  go_wp2_with fail
  refine (nil_Sync name w1).mono ?_
  rintro e w2 ⟨rfl, rfl⟩
  go_wp2_with fail
  refine (nil_Rename name to_ w1).mono ?_
  rintro e w2 ⟨rfl, rfl⟩
  go_wp2_with fail
  refine (nil_Remove name w1).mono ?_
  rintro e w2 ⟨rfl, rfl⟩
  go_wp2_with fail
  refine (nil_SyncDir w1).mono ?_
  rintro e w2 ⟨rfl, rfl⟩
  go_wp2_with fail
  refine (nil_Damage name n 1 w1).mono ?_
  rintro e w2 ⟨rfl, rfl⟩
  go_wp2_with fail
  refine (nil_Ops w1).mono ?_
  rintro e w2 ⟨rfl, rfl⟩
  go_wp2_with fail
  refine (nil_Copy w1).mono ?_
  rintro e w2 ⟨rfl, rfl⟩
  go_wp2_with fail
  go_ret
  exact ⟨rfl, E1.out⟩
end Go.Proofs.Ytjekfifnhdoamaa
