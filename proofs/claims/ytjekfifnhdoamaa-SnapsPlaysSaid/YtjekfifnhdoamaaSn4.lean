/- Snapshots: the calls at all statements' head; calls of none; the walks of SnapsNames and SnapsNil. -/
import Derived.Test.YtjekfifnhdoamaaSn3
set_option linter.unusedSimpArgs false
set_option linter.unusedVariables false
set_option linter.unnecessarySimpa false
namespace Go.Proofs.Ytjekfifnhdoamaa
open Go.RowKit Go.Rg Go.St

def AwakeS (w : World) (e : Ending) (w' : World) : Prop := e = .returned (.bool true) ∧ Ext w w'
set_option maxRecDepth 100000 in
set_option maxHeartbeats 4000000 in
theorem awake20 (w : World) : Calls Try.prog 13 #[] w (AwakeS w) := by
  go_enter Try.func13, Try.ntmps13
  go_wp2_with fail
  refine (new_in _).mono ?_
  rintro e w1 ⟨sb, mb, rfl, h1, he1⟩
  have H1 := hid h1
  have E1 := hid he1
  have HBX := hid (show ∀ w', Below w.heap.size w w' → Ext w w' from fun _ h => h)
  clear h1 he1
  go_wp2_with fail
  refine (take_in w.heap.size sb mb [] 0 0 5 _ H1.out (by decide) (by decide) (by decide)).mono ?_
  rintro e w2 ⟨rfl, h2, he2⟩
  have H2 := hid h2
  have E2 := hid (show Below w.heap.size w w2 from Below.trans E1.out he2)
  clear h2 he2
  go_wp2_with fail
  refine (take_in w.heap.size sb mb [(0, 5, 0)] 1 1 3 _ H2.out (by decide) (by decide) (by decide)).mono ?_
  rintro e w3 ⟨rfl, h3, he3⟩
  have H3 := hid (show SnAt w.heap.size sb mb [(0, 5, 0), (1, 3, 1)] 2 2 w3 from h3)
  have E3 := hid (show Below w.heap.size w w3 from Below.trans E2.out he3)
  clear h3 he3
  go_wp2_with fail
  refine (list2_in w.heap.size sb mb 0 1 5 3 0 1 2 2 _ H3.out (by decide)).mono ?_
  rintro e w4 ⟨g, rfl, ht, he4⟩
  have T4 := hid (show Two g 2 3 5 w4 from ht)
  have H4 := hid (H3.out.go he4)
  have E4 := hid (show Below w.heap.size w w4 from Below.trans E3.out (Below.mono he4 E3.out.size))
  clear ht he4
  go_wp2_with fail
  refine (seq_in w.heap.size sb mb _ 2 2 0 _ H4.out).mono ?_
  rintro e w5 ⟨rfl, rfl⟩
  rw [show numS [(0, 5, 0), (1, 3, 1)] 0 = some 5 from by decide, show seqC [(0, 5, 0), (1, 3, 1)] 0 = 0 from by decide]
  simp only [Option.getD_some]
  obtain ⟨c0, c1⟩ := T4.out.cells
  go_wp2_with fail
  refine (release_none w.heap.size sb mb _ 2 2 9 _ H4.out (by decide)).mono ?_
  rintro e w5 ⟨rfl, rfl⟩
  go_wp2_with fail
  go_ret
  exact ⟨rfl, HBX.out _ E4.out⟩

theorem snapsNames_walk (w : World) : Calls Try.prog 3 #[] w (AwakeS w) := by
  go_enter Try.func3, Try.ntmps3
  go_wp2_with fail
  refine (awake20 _).mono ?_
  rintro e w1 ⟨rfl, he1⟩
  have E1 := hid he1
  clear he1
  go_wp2_with fail
  go_ret
  exact ⟨rfl, E1.out⟩

theorem take_nil (seq : Int) (w : World) : Calls Try.prog 15 #[.pointer none, .int .u64 seq] w (fun e w' => e = .returned (.tuple #[.int .i64 0, .int .i64 1]) ∧ w = w') := by
  go_enter Try.func15, Try.ntmps15
  go_wp2
  go_ret2
  exact ⟨rfl, rfl⟩
theorem seq_nil (id : Int) (w : World) : Calls Try.prog 17 #[.pointer none, .int .i64 id] w (fun e w' => e = .returned (.tuple #[.int .u64 0, .int .i64 1]) ∧ w = w') := by
  go_enter Try.func17, Try.ntmps17
  go_wp2
  go_ret2
  exact ⟨rfl, rfl⟩
theorem release_nil (id : Int) (w : World) : Calls Try.prog 19 #[.pointer none, .int .i64 id] w (fun e w' => e = .returned (.int .i64 1) ∧ w = w') := by
  go_enter Try.func19, Try.ntmps19
  go_wp2_with (go_at_call 17; refine (seq_nil _ _).mono ?_; rintro e w' ⟨rfl, rfl⟩)
  go_ret
  exact ⟨rfl, rfl⟩
theorem list_nil (w : World) : Calls Try.prog 21 #[.pointer none] w (fun e w' => e = .returned (.slice none 0 0) ∧ w = w') := by
  go_enter Try.func21, Try.ntmps21
  go_wp2
  go_ret
  exact ⟨rfl, rfl⟩
set_option maxRecDepth 100000 in
set_option maxHeartbeats 2000000 in
theorem snapsNil_walk (kind seq id : Int) (w : World) : Calls Try.prog 6 #[.agg #[.int .i64 kind, .int .u64 seq, .int .i64 id]] w (AwakeS w) := by
  go_enter Try.func6, Try.ntmps6
  go_wp2_with fail
  have EA := hid ((Ext.rfl w).al (.cells #[.int .i64 kind, .int .u64 seq, .int .i64 id] 32))
  have G := hid (heap_alloc_new w (.cells #[.int .i64 kind, .int .u64 seq, .int .i64 id] 32))
  generalize w.alloc (.cells #[.int .i64 kind, .int .u64 seq, .int .i64 id] 32) = w1 at *
  have HBX := hid (show ∀ w', Below w.heap.size w w' → Ext w w' from fun _ h => h)
  generalize hb : w.heap.size = cb at *
  refine (awake20 _).mono ?_
  rintro e w2 ⟨rfl, he2⟩
  have G2 := hid ((he2.block _ (lt_of_at G.out)).trans G.out)
  have E2 := hid (EA.out.tr he2)
  have c0 : w2.cell? ⟨cb, 0, none⟩ = some (.int .i64 kind) := by rw [cell_of_row _ _ _ _ _ _ G2.out]; rfl
  have c1 : w2.cell? ⟨cb, 1, none⟩ = some (.int .u64 seq) := by rw [cell_of_row _ _ _ _ _ _ G2.out]; rfl
  have c2 : w2.cell? ⟨cb, 2, none⟩ = some (.int .i64 id) := by rw [cell_of_row _ _ _ _ _ _ G2.out]; rfl
  have HB := hid hb
  clear he2 hb
  go_wp2_with (first | (go_at_call 15; refine (take_nil _ _).mono ?_; rintro e w' ⟨rfl, rfl⟩) | (go_at_call 17; refine (seq_nil _ _).mono ?_; rintro e w' ⟨rfl, rfl⟩) | (go_at_call 19; refine (release_nil _ _).mono ?_; rintro e w' ⟨rfl, rfl⟩) | (go_at_call 21; refine (list_nil _).mono ?_; rintro e w' ⟨rfl, rfl⟩))
  go_ret
  exact ⟨rfl, E2.out⟩
end Go.Proofs.Ytjekfifnhdoamaa
