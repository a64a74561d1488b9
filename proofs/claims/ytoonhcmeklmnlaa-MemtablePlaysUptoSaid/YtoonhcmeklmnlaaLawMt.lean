/- The walks of the laws of package memtable: awake, MemtableNames, MemtableNil. -/
import Derived.Test.YtoonhcmeklmnlaaMt14
import Derived.Test.YtoonhcmeklmnlaaLawSk
set_option linter.unusedSimpArgs false
set_option linter.unusedVariables false
set_option linter.unnecessarySimpa false
namespace Go.Proofs.Ytoonhcmeklmnlaa
open Go.RowKit Go.Rg Go.St

def kA : IKey := ⟨⟨#[97]⟩, 1, 1⟩
def kB : IKey := ⟨⟨#[97]⟩, 3, 0⟩
def vX : ByteArray := ⟨#[120]⟩
def vE : ByteArray := ⟨#[]⟩
theorem add_kA : addC false [] kA vX = 0 := by decide
theorem add_kB : addC false [(kA, vX)] kB vE = 0 := by
  have h1 : kChk kB = 0 := by decide
  have h2 : badV kB vE = false := by simp [badV, vE, ByteArray.toList_eq, ByteArray.size]
  have h3 : ¬ ∃ e, e ∈ [(kA, vX)] ∧ e.1 = kB := by
    rintro ⟨e, he, hk⟩
    simp only [List.mem_cons, List.not_mem_nil, or_false] at he
    rw [he] at hk
    revert hk; decide
  unfold addC
  rw [if_neg (by decide), if_neg (by rw [h1]; decide), if_neg (by rw [h2]; decide), if_neg h3]
theorem sum_AB : sumE [(kA, vX), (kB, vE)] = 35 := by decide
theorem getA2 {M : MT} (hes : M.es = [(kA, vX), (kB, vE)]) {v : ByteArray} {n : Int} (h : GetOf M ⟨#[97]⟩ 2 v n) : v = vX ∧ n = 2 := by
  rcases h with ⟨h1, _⟩ | ⟨e, ⟨hm, hu, hs, hmax⟩, hk⟩
  · have := h1 (kA, vX) (by rw [hes]; simp) rfl
    exfalso; revert this; decide
  · rw [hes] at hm
    simp only [List.mem_cons, List.not_mem_nil, or_false] at hm
    rcases hm with rfl | rfl
    · rcases hk with ⟨hk, _⟩ | ⟨_, hk⟩
      · exfalso; revert hk; decide
      · exact hk
    · exfalso; revert hs; decide
theorem getA3 {M : MT} (hes : M.es = [(kA, vX), (kB, vE)]) {v : ByteArray} {n : Int} (h : GetOf M ⟨#[97]⟩ 3 v n) : n = 1 := by
  rcases h with ⟨h1, _⟩ | ⟨e, ⟨hm, hu, hs, hmax⟩, hk⟩
  · have := h1 (kA, vX) (by rw [hes]; simp) rfl
    exfalso; revert this; decide
  · rw [hes] at hm
    simp only [List.mem_cons, List.not_mem_nil, or_false] at hm
    rcases hm with rfl | rfl
    · have := hmax (kB, vE) (by rw [hes]; simp) rfl (by decide)
      exfalso; revert this; decide
    · rcases hk with ⟨_, hk⟩ | ⟨hk, _⟩
      · exact hk.2
      · exfalso; revert hk; decide
theorem getA0 {M : MT} (hes : M.es = [(kA, vX), (kB, vE)]) {v : ByteArray} {n : Int} (h : GetOf M ⟨#[97]⟩ 0 v n) : n = 0 := by
  rcases h with ⟨_, _, h1⟩ | ⟨e, ⟨hm, hu, hs, hmax⟩, hk⟩
  · exact h1
  · rw [hes] at hm
    simp only [List.mem_cons, List.not_mem_nil, or_false] at hm
    rcases hm with rfl | rfl
    · exfalso; revert hs; decide
    · exfalso; revert hs; decide

def AddOk (B : Nat) (w : World) (T : TLoc) (es : List (IKey × ByteArray)) (e : Ending) (w' : World) : Prop := e = .returned (.int .i64 0) ∧ ∃ T2 M2, T2.tb = T.tb ∧ Tab B w' T2 M2 ∧ M2.es = es ∧ M2.frozen = false ∧ Lo B w w'
theorem add_ok {B : Nat} {w : World} {T : TLoc} {M : MT} (h : Tab B w T M) (hB : B ≤ w.heap.size) (hl : M.es.length ≤ 3000000000000) (hf : M.frozen = false) (k : IKey) (v : ByteArray) (h0 : 0 ≤ k.seq) (hu : k.user.size ≤ 9223372036854775807) (hv : v.size ≤ 9223372036854775807) (hc : addC false M.es k v = 0) :
    Calls Try.prog 26 #[.pointer (some ⟨T.tb, 0, none⟩), aKey k, .string v] w (AddOk B w T (M.es ++ [(k, v)])) := by
  refine (add_tab h hB hl k v h0 hu hv).mono ?_
  rintro e w2 ⟨rfl, T2, M2, t2, hT2, hes2, hfr2, hlo2⟩
  rw [hf] at hes2 hfr2 ⊢
  unfold addE at hes2
  rw [if_pos hc] at hes2
  rw [hc]
  exact ⟨rfl, T2, M2, t2, hT2, hes2, hfr2, hlo2⟩
theorem add_B {B : Nat} {w : World} {T : TLoc} {M : MT} (h : Tab B w T M) (hB : B ≤ w.heap.size) (hes : M.es = [(kA, vX)]) (hfr : M.frozen = false) :
    Calls Try.prog 26 #[.pointer (some ⟨T.tb, 0, none⟩), .agg #[.string { data := #[97] }, .int .u64 3, .int .i64 0], .string { data := #[] }] w (AddOk B w T [(kA, vX), (kB, vE)]) := by
  have := add_ok h hB (by rw [hes]; decide) hfr kB vE (by decide) (by decide) (by decide) (by rw [hes]; exact add_kB)
  rw [hes] at this
  exact this
theorem add_A {B : Nat} {w : World} {T : TLoc} (h : Tab B w T MT.new) (hB : B ≤ w.heap.size) :
    Calls Try.prog 26 #[.pointer (some ⟨T.tb, 0, none⟩), .agg #[.string { data := #[97] }, .int .u64 1, .int .i64 1], .string { data := #[120] }] w (AddOk B w T [(kA, vX)]) :=
  add_ok h hB (by decide) rfl kA vX (by decide) (by decide) (by decide) add_kA
set_option maxRecDepth 20000 in
set_option maxHeartbeats 1000000 in
theorem awake08 (w : World) : Calls Try.prog 23 #[] w (TrueExt w) := by
  go_enter Try.func23, Try.ntmps23
  go_wp2_with fail
  refine (tnew_tab _).mono ?_
  rintro e w1 ⟨T, rfl, hT, he1⟩
  have H1 := hid hT
  have E1 := hid he1
  clear hT he1
  go_wp2_with fail
  refine (add_A H1.out E1.out.size).mono ?_
  rintro e w2 ⟨rfl, T2, M2, t2, hT2, hes2', hfr2', hlo2⟩
  have H2 := hid hT2
  have E2 := hid (ext_lo E1.out hlo2 (Nat.le_refl _))

  have HM2 := hid (And.intro hes2' hfr2')
  clear hT2 hlo2 hes2' hfr2'
  rw [← t2]
  clear t2
  go_wp2_with fail
  refine (add_B H2.out E2.out.size HM2.out.1 HM2.out.2).mono ?_
  rintro e w3 ⟨rfl, T3, M3, t3, hT3, hes3', _, hlo3⟩
  have H3 := hid hT3
  have E3 := hid (ext_lo E2.out hlo3 (Nat.le_refl _))
  have HE := hid hes3'
  clear hT3 hlo3 hes3'
  rw [← t3]
  clear t3
  go_wp2_with fail
  refine (get_tab H3.out ⟨#[97]⟩ 2 (by decide)).mono ?_
  rintro e w4 ⟨v4, n4, rfl, hg4, he4⟩
  obtain ⟨rfl, rfl⟩ := getA2 HE.out hg4
  have H4 := hid (H3.out.ext he4)
  have E4 := hid (E3.out.tr he4)
  clear hg4 he4
  go_wp2_with fail
  refine (get_tab H4.out ⟨#[97]⟩ 3 (by decide)).mono ?_
  rintro e w5 ⟨v5, n5, rfl, hg5, he5⟩
  obtain rfl := getA3 HE.out hg5
  have H5 := hid (H4.out.ext he5)
  have E5 := hid (E4.out.tr he5)
  clear hg5 he5
  go_wp2_with fail
  refine (get_tab H5.out ⟨#[97]⟩ 0 (by decide)).mono ?_
  rintro e w6 ⟨v6, n6, rfl, hg6, he6⟩
  obtain rfl := getA0 HE.out hg6
  have H6 := hid (H5.out.ext he6)
  have E6 := hid (E5.out.tr he6)
  clear hg6 he6
  have hx : (vX.toList == ByteArray.toList { data := #[120] }) = true := by simp [vX]
  unfold vX
  go_wp2_with fail
  refine (size_in H6.out.rep).mono ?_
  rintro e w7 ⟨rfl, he7⟩
  rw [H6.out.size, HE.out, sum_AB]
  go_wp2_with fail
  go_ret
  exact ⟨rfl, E6.out.tr he7⟩
set_option maxRecDepth 20000 in
theorem memtableNames_walk (w : World) : Calls Try.prog 4 #[] w (TrueExt w) := by
  go_enter Try.func4, Try.ntmps4
  go_wp2_with fail
  refine (awake08 w).mono ?_
  rintro e w1 ⟨rfl, he1⟩
  go_wp2
  go_ret
  exact ⟨rfl, he1⟩
set_option maxRecDepth 20000 in
theorem memtableNil_walk (kd : Int) (k : IKey) (v : ByteArray) (w : World) : Calls Try.prog 9 #[.agg #[.int .i64 kd, .string k.user, .int .u64 k.seq, .int .i64 k.kind, .string v]] w (TrueExt w) := by
  go_enter Try.func9, Try.ntmps9
  go_wp2_with fail
  refine (awake08 _).mono ?_
  rintro e w1 ⟨rfl, he1⟩
  have hbx := (he1.block w.heap.size (by show _ < (w.heap.push _).size; rw [Array.size_push]; exact Nat.lt_succ_self _)).trans (heap_alloc_new w _)
  have E1 := hid (((Ext.rfl w).al _).tr he1)
  have HB := hid hbx
  have hc := fun i => cell_of_row w1 w.heap.size i _ _ _ hbx
  have c1 : w1.cell? ⟨w.heap.size, 1, none⟩ = some (.string k.user) := hc 1
  have c2 : w1.cell? ⟨w.heap.size, 2, none⟩ = some (.int .u64 k.seq) := hc 2
  clear he1 hbx hc
  go_wp2_with fail
  refine (get_nil _ _ _).mono ?_
  rintro e w2 ⟨rfl, he2⟩
  have E2 := hid (E1.out.tr he2)
  have HB2 := hid ((he2.block _ (blk_lt HB.out)).trans HB.out)
  clear he2 c1 c2
  go_wp2_with fail
  refine (freeze_nil _).mono ?_
  rintro e w3 ⟨rfl, he3⟩
  have E3 := hid (E2.out.tr he3)
  have HB3 := hid ((he3.block _ (blk_lt HB2.out)).trans HB2.out)
  clear he3
  have hc := fun i => cell_of_row w3 w.heap.size i _ _ _ HB3.out
  have c1 : w3.cell? ⟨w.heap.size, 1, none⟩ = some (.string k.user) := hc 1
  have c2 : w3.cell? ⟨w.heap.size, 2, none⟩ = some (.int .u64 k.seq) := hc 2
  have c3 : w3.cell? ⟨w.heap.size, 3, none⟩ = some (.int .i64 k.kind) := hc 3
  have c4 : w3.cell? ⟨w.heap.size, 4, none⟩ = some (.string v) := hc 4
  clear hc
  go_wp2_with fail
  clear c1 c2 c3 c4
  refine (add_nil k v _).mono ?_
  rintro e w4 ⟨rfl, he4⟩
  have E4 := hid (E3.out.tr he4)
  clear he4
  go_wp2_with fail
  refine (all_nil _).mono ?_
  rintro e w5 ⟨rfl, he5⟩
  have E5 := hid (E4.out.tr he5)
  clear he5
  go_wp2_with fail
  refine (size_nil _).mono ?_
  rintro e w6 ⟨rfl, he6⟩
  go_wp2_with fail
  go_ret
  exact ⟨rfl, E5.out.tr he6⟩
end Go.Proofs.Ytoonhcmeklmnlaa
