/- The walks of a text that is built byte by byte. -/
import Derived.Test.YtoonhcmeklmnlaaMt1
import Derived.Test.YtoonhcmeklmnlaaShelf
import Derived.Test.YtoonhcmeklmnlaaSk11
import Derived.WalkSpells
set_option linter.unusedSimpArgs false
set_option linter.unusedVariables false
set_option linter.unnecessarySimpa false
namespace Go.Proofs.Ytoonhcmeklmnlaa
open Go.RowKit Go.Rg Go.St

abbrev Bld (B b : Nat) (p : Value) (l : List UInt8) (w : World) : Prop := Lib.BuilderAt 154 5 B b p (Lib.byteCells l) w
theorem Bld.cells {B b : Nat} {p : Value} {l : List UInt8} {w : World} (h : Bld B b p l w) : ∃ v, w.cell? ⟨b, 0, none⟩ = some p ∧ w.cell? ⟨b, 1, none⟩ = some v ∧ (∀ i, w.frozen? ⟨b, i, none⟩ = false) ∧ w.heap[b]? = some (.cells #[p, v] 154 (0, 0)) ∧ w.ownsRow B 5 1 v l.length (Lib.byteCells l) ∧ v.ownBlock ≠ some b := by
  obtain ⟨h1, v, h2, h3, h4⟩ := h
  exact ⟨v, cell_of_row _ _ _ _ _ _ h2, cell_of_row _ _ _ _ _ _ h2, fun i => frozen_of_row _ _ _ _ _ h2, h2, by simpa [Lib.byteCells_length] using h3, h4⟩

theorem bld_info : ∃ j, Try.prog.info? 154 = some j ∧ j.size = 2 := Option.map_eq_some_iff.1 (by kernel_rfl)
theorem bld_lies : liesAt Try.prog Try.prog.depth 154 (2 / Try.prog.cellsOf 154) 0 154 1 = true := by kernel_rfl

set_option maxRecDepth 100000 in
set_option maxHeartbeats 1000000 in
theorem copy_fresh {b : Nat} {w : World} (h0 : w.cell? ⟨b, 0, none⟩ = some (.pointer none)) (hsh : w.shape? b = some (154, 2)) (hfz : w.frozen? ⟨b, 0, none⟩ = false) :
    Calls Try.prog 109 #[.pointer (some ⟨b, 0, none⟩)] w (fun e w' => e = .returned (.tuple #[]) ∧ w' = w.setCell ⟨b, 0, none⟩ (.pointer (some ⟨b, 0, none⟩))) := by
  obtain ⟨j, hj, hjs⟩ := bld_info
  go_enter Try.func109, Try.ntmps109
  go_wp2
  rw [Lib.run_to_unsafe w ⟨b, 0, none⟩ Try.underlying152 Try.underlying189 hj (by rw [hjs]; decide) hsh (Nat.zero_lt_succ 1)]
  simp only [Result.andThen]
  rw [Oper.upon_value]
  go_wp2
  rw [run_callFunc_extern Try.func128 (by kernel_rfl) (by kernel_rfl) (by kernel_rfl) (e := Extern.AbiNoEscape.same) (by kernel_rfl)]
  rw [Lib.run_noEscape]
  simp only [Result.andThen]
  rw [Oper.upon_value]
  go_wp2
  rw [Lib.run_from_unsafe w ⟨b, 0, none⟩ Try.underlying189 Try.underlying152 hj hsh bld_lies]
  simp only [Result.andThen]
  rw [Oper.upon_value]
  go_wp2
  go_end0
  exact ⟨rfl, rfl⟩

set_option maxRecDepth 100000 in
set_option maxHeartbeats 1000000 in
theorem copy_used {b : Nat} {w : World} (h0 : w.cell? ⟨b, 0, none⟩ = some (.pointer (some ⟨b, 0, none⟩))) :
    Calls Try.prog 109 #[.pointer (some ⟨b, 0, none⟩)] w (fun e w' => e = .returned (.tuple #[]) ∧ w' = w) := by
  obtain ⟨j, hj, hjs⟩ := bld_info
  have hne := fun (w : World) => Lib.run_neq_ptr_same (w := w) (j := j) ⟨b, 0, none⟩ Try.underlying152 hj
  clear hj
  go_enter Try.func109, Try.ntmps109
  go_wp2
  go_end0
  exact ⟨rfl, rfl⟩

theorem copy_frame {b : Nat} {p v : Value} {w : World} (hb : w.heap[b]? = some (.cells #[p, v] 154 (0, 0))) (hp : p = .pointer none ∨ p = .pointer (some ⟨b, 0, none⟩)) :
    Calls Try.prog 109 #[.pointer (some ⟨b, 0, none⟩)] w (fun e w' => e = .returned (.tuple #[]) ∧ w'.heap[b]? = some (.cells #[.pointer (some ⟨b, 0, none⟩), v] 154 (0, 0)) ∧ Ch (· = b) w w') := by
  have c0 : w.cell? ⟨b, 0, none⟩ = some p := cell_of_row _ _ _ _ _ _ hb
  rcases hp with rfl | rfl
  · refine (copy_fresh c0 (by simp [World.shape?, hb]) (frozen_of_row _ _ _ _ _ hb)).mono ?_
    rintro e w' ⟨rfl, rfl⟩
    exact ⟨rfl, (heap_setCell_same w b 0 _ _ _ hb).trans rfl, (Ch.rfl (· = b) w).setC rfl⟩
  · refine (copy_used c0).mono ?_
    rintro e w' ⟨rfl, rfl⟩
    exact ⟨rfl, hb, Ch.rfl _ _⟩
theorem byteE : ElT Try.prog 125 5 1 1 := ⟨by kernel_rfl, by kernel_rfl, by decide, by decide⟩
theorem slice_of {w : World} {base : Nat} {e : TypeId} {sz : Nat} {v : Value} {n : Nat} {xs : List Value} (h : w.ownsRow base e sz v n xs) : ∃ a cap, v = .slice a n cap ∧ n ≤ maxLen := by
  rcases h.2 with ⟨rfl, rfl⟩ | ⟨g, cap, cur, rfl, _, hg, hnc, hcm, hcs, htk⟩
  · exact ⟨_, _, rfl, Nat.zero_le _⟩
  · exact ⟨_, _, rfl, Nat.le_trans hnc hcm⟩

/-- a builder of the call's own, from which so many blocks are apart -/
structure BW (w : World) (b B : Nat) (l : List UInt8) (G : Nat → Prop) : Prop where
  ex : ∃ p v, (p = .pointer none ∨ p = .pointer (some ⟨b, 0, none⟩)) ∧ w.heap[b]? = some (.cells #[p, v] 154 (0, 0)) ∧ w.ownsRow B 5 1 v l.length (Lib.byteCells l) ∧ ∀ g, G g → g < w.heap.size ∧ g ≠ b ∧ v.ownBlock ≠ some g
  hB : B ≤ b
  hs : B ≤ w.heap.size
theorem BW.is {w : World} {b B : Nat} {l : List UInt8} {G : Nat → Prop} (h : BW w b B l G) : Lib.IsBuilder 154 5 B b (Lib.byteCells l) w := by
  obtain ⟨p, v, hp, hb, hown, _⟩ := h.ex
  have hh : Lib.BuilderAt 154 5 B b p (Lib.byteCells l) w := ⟨h.hB, v, hb, by simpa [Lib.byteCells_length] using hown, own_ne' hown hb (by decide)⟩
  rcases hp with rfl | rfl
  · exact .inl hh
  · exact .inr hh

theorem bw_put {B b : Nat} {v v' : Value} {l : List UInt8} {c : UInt8} {w0 w1 w4 : World} {o : Obj} {G : Nat → Prop} (hb : w1.heap[b]? = some (.cells #[.pointer (some ⟨b, 0, none⟩), v] 154 (0, 0))) (hB : B ≤ b) (hs : B ≤ w0.heap.size) (hv : w1.ownsRow B 5 1 v l.length (Lib.byteCells l))
    (hc : Ch (· = b) w0 w1) (hG : ∀ g, G g → g < w0.heap.size ∧ g ≠ b ∧ v.ownBlock ≠ some g)
    (hown : w4.ownsRow B 5 1 v' (l.length + 1) (Lib.byteCells l ++ [.int .u8 c.toNat])) (hg : (w1.alloc o).grownBy w4 v.ownBlock) (hat : v'.ownBlock = v.ownBlock ∨ v'.ownBlock = some (w1.alloc o).heap.size) :
    w4.cell? ⟨b, 1, none⟩ = some v ∧ (∀ i, w4.frozen? ⟨b, i, none⟩ = false) ∧ BW (w4.setCell ⟨b, 1, none⟩ v') b B (l ++ [c]) G ∧ Below B w0 (w4.setCell ⟨b, 1, none⟩ v') ∧ ∀ g, G g → (w4.setCell ⟨b, 1, none⟩ v').heap[g]? = w0.heap[g]? := by
  have hlt := blk_lt hb
  have hne := own_ne' hv hb (by decide)
  have h4 : w4.heap[b]? = some (.cells #[.pointer (some ⟨b, 0, none⟩), v] 154 (0, 0)) := keep_grown hg hb hne
  have hne' : v'.ownBlock ≠ some b := own_ne' hown h4 (by decide)
  have hsz : w0.heap.size ≤ w1.heap.size := hc.size
  have hsa : (w1.alloc o).heap.size = w1.heap.size + 1 := by show (w1.heap.push o).size = _; simp
  have hsz4 := hg.size
  have hgb : ∀ g, g < w0.heap.size → g ≠ b → v.ownBlock ≠ some g → (w4.setCell ⟨b, 1, none⟩ v').heap[g]? = w0.heap[g]? := fun g h1 h2 h3 => by
    rw [heap_setCell_other _ _ _ _ h2, hg.block g (by omega) (fun e => h3 e.symm), heap_alloc_old w1 o (by omega)]
    exact hc.block g h1 h2
  refine ⟨cell_of_row _ _ _ _ _ _ h4, fun i => frozen_of_row _ _ _ _ _ h4, ⟨⟨_, v', .inr rfl, (heap_setCell_same w4 b 1 _ _ _ h4).trans rfl, ?_, fun g hgg => ?_⟩, hB, ?_⟩, ?_, fun g hgg => ?_⟩
  · have h5 := owns_ch (w' := w4.setCell ⟨b, 1, none⟩ v') hown (fun g hg' => heap_setCell_other _ _ _ _ (fun e => hne' (by rw [hg', e])))
    simpa [Lib.byteCells] using h5
  · obtain ⟨h1, h2, h3⟩ := hG g hgg
    refine ⟨by have : (w4.setCell ⟨b, 1, none⟩ v').heap.size = w4.heap.size := by simp [World.setCell]
               omega, h2, fun e => ?_⟩
    rcases hat with h | h
    · exact h3 (by rw [← h, e])
    · rw [h] at e; simp at e; omega
  · have : (w4.setCell ⟨b, 1, none⟩ v').heap.size = w4.heap.size := by simp [World.setCell]
    omega
  · refine ⟨?_, ?_, ?_, ?_, fun g h1 => ?_⟩
    · exact hg.os.trans hc.os
    · exact hg.tape.trans hc.tape
    · exact hg.output.trans hc.output
    · have : (w4.setCell ⟨b, 1, none⟩ v').heap.size = w4.heap.size := by simp [World.setCell]
      omega
    · refine hgb g (by omega) (by omega) (fun e => ?_)
      have := (World.ownsRow.lt hv g e).1
      omega
  · obtain ⟨h1, h2, h3⟩ := hG g hgg
    exact hgb g h1 h2 h3

set_option maxRecDepth 100000 in
set_option maxHeartbeats 1000000 in
theorem BW.put {B b : Nat} {l : List UInt8} {w : World} {G : Nat → Prop} (h : BW w b B l G) (c : UInt8) (hl : l.length < 140737488355328) :
    Calls Try.prog 90 #[.pointer (some ⟨b, 0, none⟩), .int .u8 c.toNat] w (fun e w' => e = .returned .nilIface ∧ BW w' b B (l ++ [c]) G ∧ Below B w w' ∧ ∀ g, G g → w'.heap[g]? = w.heap[g]?) := by
  obtain ⟨p, v, hp, hb, hown, hG⟩ := h.ex
  have H := hid h
  have HP := hid hp
  have HB := hid hb
  have HO := hid hown
  have HG := hid hG
  clear h hp hb hown hG
  go_enter Try.func90, Try.ntmps90
  go_wp2_with fail
  refine (copy_frame HB.out HP.out).mono ?_
  rintro e w1 ⟨rfl, hb1, hc1⟩
  have hv1 := owns_ch (w' := w1) HO.out (fun g hg' => hc1.block g (World.ownsRow.lt HO.out g hg').2 (fun e => own_ne' HO.out HB.out (by decide) (by rw [hg', e])))
  obtain ⟨av, cv, rfl, hmx⟩ := slice_of hv1
  have k1 : w1.cell? ⟨b, 1, none⟩ = some (.slice av l.length cv) := cell_of_row _ _ _ _ _ _ hb1
  have HB1 := hid hb1
  have HC1 := hid hc1
  have HV1 := hid hv1
  clear hb1 hc1 hv1 HB HO HP
  have t0 := Try.underlying154
  have a0 := Try.isAgg154
  have z0 := Try.sizeOf154
  have t1 := Try.underlying152
  have a1 := Try.isAgg152
  have z1 := Try.sizeOf152
  have t2 := Try.underlying125
  have a2 := Try.isAgg125
  have z2 := Try.sizeOf125
  have t3 := Try.underlying5
  have a3 := Try.isAgg5
  have z3 := Try.sizeOf5
  go_wp2_with (at_builtin; refine wpList_app_at byteE rfl (owns_ext HV1.out ((Ext.rfl w1).al _)) rfl rfl (news_one _ _ _) (by simp [Value.oneCell']) (by omega) (Nat.le_trans (Nat.le_trans H.out.hs HC1.out.size) (Nat.le_of_lt (by show w1.heap.size < (w1.heap.push _).size; simp))) ?_; intro v' w4 hown4 hg4 hat4; obtain ⟨av', cv', rfl, _⟩ := slice_of hown4; obtain ⟨j1, j2, j3, j4, j5⟩ := bw_put HB1.out H.out.hB H.out.hs HV1.out HC1.out HG.out hown4 hg4 hat4; have J3 := hid j3; have J4 := hid j4; have J5 := hid j5; clear hown4 hg4 hat4 j3 j4 j5)
  go_ret
  exact ⟨rfl, J3.out, J4.out, J5.out⟩
end Go.Proofs.Ytoonhcmeklmnlaa
