/- The walks of the reference's Over, of SameFiles, of many. -/
import Derived.Test.YtoonhcmeklmnlaaIn4
set_option linter.unusedSimpArgs false
set_option linter.unusedVariables false
set_option linter.unnecessarySimpa false
namespace Go.Proofs.Ytoonhcmeklmnlaa
open Go.RowKit Go.Rg Go.St

theorem ext_alloc_of {w a b : World} {o : Obj} (h : Ext (w.alloc o) a) (k : Below (w.heap.size + 1) a b) : Ext (w.alloc o) b := Below.trans h (by rw [alloc_size]; exact k)
theorem ext_alloc_size {w a : World} {o : Obj} (h : Ext (w.alloc o) a) : w.heap.size + 1 ≤ a.heap.size := by have := h.size; rwa [alloc_size] at this

set_option maxHeartbeats 1000000 in
theorem rover_in (v0 v1 v2 v3 : Value) (V : Nat → List File) (k : Nat) (kk : Int) (hkk : kk = k) (hk : k < 4) (a b : ByteArray) (w : World) (hV : Ver w v0 v1 v2 v3 V) (hn : (V k).length ≤ 1000000) :
    Calls Try.prog 46 #[.agg #[v0, v1, v2, v3], .int .i64 kk, .string a, .string b] w (FilesExt (ovs a b (V k)) w) := by
  have hs := hV.at hk
  clear hV
  generalize V k = l at *
  obtain ⟨rfl, rfl⟩ | ⟨rfl, rfl⟩ | ⟨rfl, rfl⟩ | ⟨rfl, rfl⟩ : (k = 0 ∧ kk = 0) ∨ (k = 1 ∧ kk = 1) ∨ (k = 2 ∧ kk = 2) ∨ (k = 3 ∧ kk = 3) := by omega
  all_goals
    simp only [pick4] at hs
    clear hkk
    obtain ⟨ad, cap, rfl, hcap, hm, hc⟩ := hs.ex
    have HC := hid hc
    clear hs hc
    unfold maxLen at hm
    go_enter Try.func46, Try.ntmps46
    go_wp2
    go_loopw [9, 10] (fun o t wr => ∃ j : Nat, j ≤ l.length ∧ t = .int .i64 j ∧ Ext (w.alloc (.cells #[_, _, _, _] 67)) wr ∧ OwnFiles wr (w.heap.size + 1) o (ovs a b (l.take j))) (fun _ t _ => l.length - (intOf t).toNat)
    case atStart => exact ⟨0, Nat.zero_le _, rfl, Ext.rfl _, World.ownsRow_nil _ _ _ _⟩
    case round =>
      obtain ⟨j, hj, rfl, he, hown⟩ := hrel
      have q0 := ext_new he 0 rfl
      have q1 := ext_new he 1 rfl
      have q2 := ext_new he 2 rfl
      have q3 := ext_new he 3 rfl
      have HE := hid he
      have HO := hid hown
      clear he hown
      by_cases hlt : j < l.length
      · obtain ⟨b1, off, rfl, hcell⟩ := HC.out (by omega)
        obtain ⟨c0, c1, c2, c3, c4, c5, c6, c7, c8⟩ := SlS.at9 (w := wr) (enc := eFile) (xs := l) (k := j) (fun i hi => ext_cellq (ext_of_new HE.out) (hcell j hlt i hi) hi rfl) rfl
        have hsucc := hid (ovs_succ a b l j hlt)
        have hle := ovs_le a b l j
        clear hcell
        cases hov : ov a b (nth l j)
        · have HV := hid hov
          clear hov
          go_wp2_with fail
          refine (rhas_in (nth l j) a b _).mono ?_
          rintro e w1 ⟨rfl, he1⟩
          rw [HV.out]
          have E1 := hid (HE.out.tr he1)
          have O1 := hid (owns_ext HO.out he1)
          clear he1
          go_wp2
          go_roundw
          case rel => exact ⟨j + 1, by omega, by go_num, E1.out, by rw [hsucc.out, if_neg (by rw [HV.out]; decide), List.append_nil]; exact O1.out⟩
          case measure => simp [intOf]; omega
        · have HV := hid hov
          clear hov
          go_wp2_with fail
          refine (rhas_in (nth l j) a b _).mono ?_
          rintro e w1 ⟨rfl, he1⟩
          rw [HV.out]
          have E1 := hid (HE.out.tr he1)
          have O1 := hid (owns_ext HO.out he1)
          have q0 := ext_cell he1 q0
          have q1 := ext_cell he1 q1
          have q2 := ext_cell he1 q2
          have q3 := ext_cell he1 q3
          have c0 := ext_cell he1 c0
          have c1 := ext_cell he1 c1
          have c2 := ext_cell he1 c2
          have c3 := ext_cell he1 c3
          have c4 := ext_cell he1 c4
          have c5 := ext_cell he1 c5
          have c6 := ext_cell he1 c6
          have c7 := ext_cell he1 c7
          have c8 := ext_cell he1 c8
          clear he1
          go_wp2_with (at_builtin; refine wpList_app el_file rfl (owns_ext O1.out ((Ext.rfl w1).al _)) rfl rfl (news_block w1 (eFile (nth l j)).toArray _) (one_file _) (by omega) (ext_alloc_size (E1.out.al _)) ?_; intro v' w4 hown4 hg4 hb4; have O4 := hid (OwnFiles.snoc hown4); have E4 := hid (ext_alloc_of (E1.out.al _) hb4); clear hown4 hg4 hb4)
          go_roundw
          case rel => exact ⟨j + 1, by omega, by go_num, E4.out, by rw [hsucc.out, if_pos HV.out]; exact O4.out⟩
          case measure => simp [intOf]; omega
      · have : j = l.length := by omega
        subst this
        rw [List.take_length] at HO
        go_wp2
        go_ret
        exact ⟨_, rfl, owns_base HO.out (Nat.le_succ _), ext_of_new HE.out⟩

theorem file_neq (f : File) (w : World) : (binOp .neq 80 (aFile f) (aFile f)).run Try.prog w = .ok (.bool false) w := by
  have hS : Try.prog.underlying 80 = some (.struct (Try.prog.fieldsOf 80)) := by kernel_rfl
  have hp : Try.prog.stoodInHeld 80 = false := by kernel_rfl
  have hS2 : Try.prog.underlying 42 = some (.struct (Try.prog.fieldsOf 42)) := by kernel_rfl
  have hp2 : Try.prog.stoodInHeld 42 = false := by kernel_rfl
  have u1 := Try.underlying3
  have u2 := Try.underlying36
  have u3 := Try.underlying9
  have a1 := Try.isAgg3
  have a2 := Try.isAgg36
  have a3 := Try.isAgg9
  have z1 := Try.sizeOf3
  have z2 := Try.sizeOf36
  have z3 := Try.sizeOf9
  have a4 := Try.isAgg42
  have z4 := Try.sizeOf42
  have e4 := fun (xs ys : Array Value) (w : World) => run_equalIn_agg (P := Try.prog) w 9998 42 xs ys hS2 hp2
  rw [run_neq_struct, show (10000 : Nat) = 9999 + 1 from rfl, run_equalIn_agg w 9999 80 _ _ hS hp]
  simp only [Program.fieldsOf, Try.underlying80, Try.underlying42] at e4 ⊢
  go_simp

def TrueP (w : World) (e : Ending) (w' : World) : Prop := e = .returned (.bool true) ∧ Ext w w'
set_option maxHeartbeats 1000000 in
theorem samefiles_yes (va vb : Value) (xs : List File) (w : World) (ha : SlFile w va xs) (hb : SlFile w vb xs) :
    Calls Try.prog 49 #[va, vb] w (TrueP w) := by
  obtain ⟨a, cap, rfl, hcap, hm, hc⟩ := ha.ex
  obtain ⟨b, cap', rfl, hcap', hm', hc'⟩ := hb.ex
  clear hb ha
  unfold maxLen at hm hm'
  have HC := hid hc
  have HC' := hid hc'
  clear hc hc'
  have hne := file_neq
  go_enter Try.func49, Try.ntmps49
  go_wp2
  go_loopw [5] (fun i wr => ∃ k : Nat, k ≤ xs.length ∧ i = .int .i64 k ∧ Ext w wr) (fun i _ => xs.length - (intOf i).toNat)
  case atStart => exact ⟨0, Nat.zero_le _, rfl, Ext.rfl _⟩
  case round =>
    obtain ⟨k, hk, rfl, he⟩ := hrel
    have HE := hid he
    clear he
    by_cases hlt : k < xs.length
    · obtain ⟨b1, off, rfl, hcell⟩ := HC.out (by omega)
      obtain ⟨b2, off', rfl, hcell'⟩ := HC'.out (by omega)
      obtain ⟨c0, c1, c2, c3, c4, c5, c6, c7, c8⟩ := SlS.at9 (w := wr) (enc := eFile) (xs := xs) (k := k) (fun i hi => ext_cellq HE.out (hcell k hlt i hi) hi rfl) rfl
      obtain ⟨d0, d1, d2, d3, d4, d5, d6, d7, d8⟩ := SlS.at9 (w := wr) (enc := eFile) (xs := xs) (k := k) (fun i hi => ext_cellq HE.out (hcell' k hlt i hi) hi rfl) rfl
      clear hcell hcell'
      go_wp2_with fail
      go_quiet (fail)
      go_wp2
      go_roundw
      case rel => exact ⟨k + 1, by omega, by go_num, HE.out.drN _⟩
      case measure => simp [intOf]; omega
    · have : k = xs.length := by omega
      subst this
      go_wp2
      go_ret
      exact ⟨rfl, HE.out⟩
end Go.Proofs.Ytoonhcmeklmnlaa
