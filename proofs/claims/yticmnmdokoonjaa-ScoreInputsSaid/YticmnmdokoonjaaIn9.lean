/- The walk of the reference's Inputs of the other levels. -/
import Derived.Test.YticmnmdokoonjaaIn8
set_option linter.unusedSimpArgs false
set_option linter.unusedVariables false
set_option linter.unnecessarySimpa false
namespace Go.Proofs.Yticmnmdokoonjaa
open Go.RowKit Go.Rg Go.St

set_option maxHeartbeats 1000000 in
theorem rinputs_out (v0 v1 v2 v3 from_ : Value) (k : Int) (hk : k < 0 ∨ 2 < k) (w : World) :
    Calls Try.prog 25 #[.agg #[v0, v1, v2, v3], .int .i64 k, from_] w (NilTwo w) := by
  rcases hk with hk | hk
  · go_enter Try.func25, Try.ntmps25
    go_wp2
    go_ret2
    exact ⟨rfl, (Ext.rfl w).al _⟩
  · have hk2 : ¬ k < 0 := by omega
    go_enter Try.func25, Try.ntmps25
    go_wp2
    go_ret2
    exact ⟨rfl, (Ext.rfl w).al _⟩

set_option maxHeartbeats 1000000 in
theorem rinputs_none (v0 v1 v2 v3 : Value) (V : Nat → List File) (from_ : ByteArray) (k : Nat) (kk : Int) (hkk : kk = k) (hk : k < 3) (w : World) (hV : Ver w v0 v1 v2 v3 V) (hl : (V k).length = 0) :
    Calls Try.prog 25 #[.agg #[v0, v1, v2, v3], .int .i64 kk, .string from_] w (NilTwo w) := by
  have hs := hV.at (show k < 4 by omega)
  clear hV
  generalize V k = l at *
  obtain ⟨rfl, rfl⟩ | ⟨rfl, rfl⟩ | ⟨rfl, rfl⟩ : (k = 0 ∧ kk = 0) ∨ (k = 1 ∧ kk = 1) ∨ (k = 2 ∧ kk = 2) := by omega
  all_goals
    simp only [pick4] at hs
    clear hkk
    obtain ⟨ad, cap, rfl, hcap, hm, hc⟩ := hs.ex
    rw [hl]
    clear hs hc hl hcap
    go_enter Try.func25, Try.ntmps25
    go_wp2
    go_ret2
    exact ⟨rfl, (Ext.rfl w).al _⟩

set_option maxRecDepth 100000 in
set_option maxHeartbeats 4000000 in
theorem rinputs_up (v0 v1 v2 v3 : Value) (V : Nat → List File) (from_ : ByteArray) (k : Nat) (kk : Int) (hkk : kk = k) (hk : 1 ≤ k ∧ k < 3) (w : World) (hV : Ver w v0 v1 v2 v3 V) (hn : ∀ i, i < 4 → (V i).length ≤ 1000000) (hl : 0 < (V k).length) :
    Calls Try.prog 25 #[.agg #[v0, v1, v2, v3], .int .i64 kk, .string from_] w (TwoFiles [nth (V k) (atDn (V k) from_ (V k).length)] (ovs (span [nth (V k) (atDn (V k) from_ (V k).length)]).1 (span [nth (V k) (atDn (V k) from_ (V k).length)]).2 (V (k + 1))) w) := by
  have hs := hV.at (show k < 4 by omega)
  have h00 := hn k (by omega)
  have hat := atDn_lt hl from_
  obtain ⟨k2, hk2⟩ : ∃ k2 : Int, k2 = kk + 1 := ⟨_, rfl⟩
  have hov := fun w' (he : Ext w w') a b => rover_in v0 v1 v2 v3 V (k + 1) k2 (by omega) (by omega) a b w' (hV.go he) (hn (k + 1) (by omega))
  clear hV hn
  generalize V k = l at *
  generalize V (k + 1) = m at *
  have HA := hid hat
  have hlb : ((l.length : Int) == 0) = false := by rw [beq_eq_false_iff_ne]; omega
  have HOV := hid hov
  clear hat hov
  obtain ⟨rfl, rfl, rfl⟩ | ⟨rfl, rfl, rfl⟩ : (k = 1 ∧ kk = 1 ∧ k2 = 2) ∨ (k = 2 ∧ kk = 2 ∧ k2 = 3) := by omega
  all_goals
    simp only [pick4] at hs
    clear hkk hk2
    obtain ⟨ad, cap, rfl, hcap, hm, hc⟩ := hs.ex
    unfold maxLen at hm
    obtain ⟨b, off, rfl, hcell⟩ := hc hl
    have HC := hid hcell
    clear hcell hc hs
    go_enter Try.func25, Try.ntmps25
    go_wp2
    go_loop [19, 20] (fun o t => ∃ j : Nat, j ≤ l.length ∧ t = .int .i64 ((l.length : Int) - 1 - j) ∧ o = .int .i64 (atDn l from_ j : Nat)) (fun _ t => (intOf t + 1).toNat)
    case atStart => exact ⟨0, Nat.zero_le _, by simp, rfl⟩
    case round =>
      obtain ⟨j, hj, rfl, rfl⟩ := hrel
      by_cases hlt : j < l.length
      · obtain ⟨i, hi⟩ : ∃ i, l.length = i + 1 + j := ⟨l.length - 1 - j, by omega⟩
        rw [show (l.length : Int) - 1 - j = (i : Int) by omega]
        have hil : i < l.length := by omega
        obtain ⟨c0, c1, c2, c3, c4, c5, c6, c7, c8⟩ := SlS.at9 (w := w) (enc := eFile) (xs := l) (k := i) (fun q hq => HC.out i hil q hq) rfl
        clear c0 c1 c2 c4 c5 c6 c7 c8
        have n5 := cell_lt c3
        have n6 : w.heap.size ≠ b := by omega
        have hsuc : atDn l from_ (j + 1) = if kl from_ (nth l i).small.user = true then i else atDn l from_ j := by
          rw [show i = l.length - 1 - j by omega]; rfl
        have HS := hid hsuc
        have HI := hid hi
        clear hsuc hi
        rcases tri (nth l i).small.user from_ with ⟨h1, h2⟩ | ⟨h1, h2, h3⟩ | ⟨h1, h2, h3⟩
        · have HK := hid h2
          clear h2
          go_wp2
          go_round
          case rel => exact ⟨j + 1, by omega, int_val (by have := HI.out; omega), by rw [HS.out, HK.out]; simp⟩
          case measure => simp [intOf]
        · have HK := hid h3
          clear h3
          go_wp2
          go_round
          case rel => exact ⟨j + 1, by omega, int_val (by have := HI.out; omega), by rw [HS.out, HK.out]; simp⟩
          case measure => simp [intOf]
        · have HK := hid h3
          clear h3
          go_wp2
          go_round
          case rel => exact ⟨j + 1, by omega, int_val (by have := HI.out; omega), by rw [HS.out, HK.out]; simp⟩
          case measure => simp [intOf]
      · have : j = l.length := by omega
        subst this
        rw [show (l.length : Int) - 1 - l.length = -1 by omega]
        have hA := HA.out l.length
        obtain ⟨c0, c1, c2, c3, c4, c5, c6, c7, c8⟩ := SlS.at9 (w := w) (enc := eFile) (xs := l) (k := atDn l from_ l.length) (fun q hq => HC.out _ hA q hq) rfl
        have n5 := cell_lt c3
        have n6 : w.heap.size ≠ b := by omega
        generalize atDn l from_ l.length = i at *
        go_wp2_with (at_builtin; refine wpList_app el_file rfl (World.ownsRow_nil _ (w.heap.size + 1) 53 9) rfl rfl (news_at (w := w.alloc _) (cs := (eFile (nth l i)).toArray) (alloc_size _ _)) (one_file _) (by omega) (by rw [alloc_size, alloc_size]; omega) ?_; intro v' w4 hown4 hg4 hb4; have O4 := hid hown4; have E4 := hid (ext_alloc_of ((Ext.rfl (w.alloc _)).al _) hb4); clear hown4 hg4 hb4)
        have SL4 : Hid (SlFile w4 v' [nth l i]) := hid (owns_slS (xs := [nth l i]) (n := 1) (by simpa using O4.out) rfl eFile_length (by decide))
        have q0 := ext_new E4.out 0 rfl
        have q1 := ext_new E4.out 1 rfl
        have q2 := ext_new E4.out 2 rfl
        have q3 := ext_new E4.out 3 rfl
        clear O4 c0 c1 c2 c3 c4 c5 c6 c7 c8
        refine (rspan_in _ [nth l i] _ SL4.out (by simp)).mono ?_
        rintro e w2 ⟨rfl, rfl⟩
        go_wp2_with fail
        refine (HOV.out _ (ext_of_new E4.out) _ _).mono ?_
        rintro e w3 ⟨u, rfl, ho, he3⟩
        have SL3 := hid (SL4.out.file he3)
        have E3 := hid (ext_of_new (E4.out.tr he3))
        have O3 := hid ho.sl
        clear he3 ho q0 q1 q2 q3
        go_wp2
        go_ret2
        exact ⟨_, _, rfl, SL3.out, O3.out, E3.out⟩
end Go.Proofs.Yticmnmdokoonjaa
