/- The walk of the program's Inputs of the other levels, and of none. -/
import Derived.Test.YticmnmdokoonjaaIn6
set_option linter.unusedSimpArgs false
set_option linter.unusedVariables false
set_option linter.unnecessarySimpa false
namespace Go.Proofs.Yticmnmdokoonjaa
open Go.RowKit Go.Rg Go.St

/-- the first file behind a user; so many from the end are looked at -/
def atDn (l : List File) (u : ByteArray) : Nat → Nat
  | 0 => 0
  | j + 1 => if kl u (nth l (l.length - 1 - j)).small.user = true then l.length - 1 - j else atDn l u j
theorem atDn_lt {l : List File} (h : 0 < l.length) (u : ByteArray) : ∀ j, atDn l u j < l.length
  | 0 => h
  | j + 1 => by
    unfold atDn
    split
    · omega
    · exact atDn_lt h u j

theorem slfile_one {w : World} {f : File} {T n : Nat} (h : w.heap.size = n) : SlFile (w.alloc (.cells (eFile f).toArray T)) (.slice (some ⟨n, 0, none⟩) 1 1) [f] := by
  subst h
  refine ⟨_, 1, rfl, Nat.le_refl _, by decide, fun _ => ⟨w.heap.size, 0, rfl, fun i hi j hj => ?_⟩⟩
  obtain rfl : i = 0 := by simpa using hi
  rw [Nat.zero_mul, Nat.zero_add, cell_of_row _ _ _ _ T (0, 0) (heap_alloc_new w _), ← Array.getElem?_toList]
  rfl
def NilTwo (w : World) (e : Ending) (w' : World) : Prop := e = .returned (.tuple #[.slice none 0 0, .slice none 0 0]) ∧ Ext w w'

set_option maxHeartbeats 1000000 in
theorem inputs_out (v0 v1 v2 v3 from_ : Value) (k : Int) (hk : k < 0 ∨ 2 < k) (w : World) :
    Calls Try.prog 24 #[.agg #[v0, v1, v2, v3], .int .i64 k, from_] w (NilTwo w) := by
  rcases hk with hk | hk
  · go_enter Try.func24, Try.ntmps24
    go_wp2
    go_ret2
    exact ⟨rfl, (Ext.rfl w).al _⟩
  · have hk2 : ¬ k < 0 := by omega
    go_enter Try.func24, Try.ntmps24
    go_wp2
    go_ret2
    exact ⟨rfl, (Ext.rfl w).al _⟩

set_option maxHeartbeats 1000000 in
theorem inputs_none (v0 v1 v2 v3 : Value) (V : Nat → List File) (from_ : ByteArray) (k : Nat) (kk : Int) (hkk : kk = k) (hk : k < 3) (w : World) (hV : Ver w v0 v1 v2 v3 V) (hl : (V k).length = 0) :
    Calls Try.prog 24 #[.agg #[v0, v1, v2, v3], .int .i64 kk, .string from_] w (NilTwo w) := by
  have hs := hV.at (show k < 4 by omega)
  clear hV
  generalize V k = l at *
  obtain ⟨rfl, rfl⟩ | ⟨rfl, rfl⟩ | ⟨rfl, rfl⟩ : (k = 0 ∧ kk = 0) ∨ (k = 1 ∧ kk = 1) ∨ (k = 2 ∧ kk = 2) := by omega
  all_goals
    simp only [pick4] at hs
    clear hkk
    obtain ⟨ad, cap, rfl, hcap, hm, hc⟩ := hs.ex
    rw [hl]
    clear hs hc hl hcap
    go_enter Try.func24, Try.ntmps24
    go_wp2
    go_ret2
    exact ⟨rfl, (Ext.rfl w).al _⟩

set_option maxRecDepth 100000 in
set_option maxHeartbeats 4000000 in
theorem inputs_up (v0 v1 v2 v3 : Value) (V : Nat → List File) (from_ : ByteArray) (k : Nat) (kk : Int) (hkk : kk = k) (hk : 1 ≤ k ∧ k < 3) (w : World) (hV : Ver w v0 v1 v2 v3 V) (hn : ∀ i, i < 4 → (V i).length ≤ 1000000) (hl : 0 < (V k).length) :
    Calls Try.prog 24 #[.agg #[v0, v1, v2, v3], .int .i64 kk, .string from_] w (TwoFiles [nth (V k) (atDn (V k) from_ (V k).length)] (ovs (span [nth (V k) (atDn (V k) from_ (V k).length)]).1 (span [nth (V k) (atDn (V k) from_ (V k).length)]).2 (V (k + 1))) w) := by
  have hs := hV.at (show k < 4 by omega)
  have h00 := hn k (by omega)
  have hat := atDn_lt hl from_
  obtain ⟨k2, hk2⟩ : ∃ k2 : Int, k2 = kk + 1 := ⟨_, rfl⟩
  have hov := fun w' (he : Ext w w') a b => vover_in v0 v1 v2 v3 V (k + 1) k2 (by omega) (by omega) a b w' (hV.go he) (hn (k + 1) (by omega))
  clear hV hn
  generalize V k = l at *
  generalize V (k + 1) = m at *
  have HA := hid hat
  have hlb : ((l.length : Int) == 0) = false := by rw [beq_eq_false_iff_ne]; omega
  have HOV := hid hov
  clear hat hov
  obtain ⟨rfl, rfl, rfl⟩ | ⟨rfl, rfl, rfl⟩ : (k = 1 ∧ kk = 1 ∧ k2 = 2) ∨ (k = 2 ∧ kk = 2 ∧ k2 = 3) := by omega
  all_goals
    simp only [pick4] at hs
    clear hkk hk2
    obtain ⟨ad, cap, rfl, hcap, hm, hc⟩ := hs.ex
    unfold maxLen at hm
    obtain ⟨b, off, rfl, hcell⟩ := hc hl
    have HC := hid hcell
    clear hcell hc hs
    go_enter Try.func24, Try.ntmps24
    go_wp2
    go_loop [14, 15] (fun o t => ∃ j : Nat, j ≤ l.length ∧ t = .int .i64 ((l.length : Int) - 1 - j) ∧ o = .int .i64 (atDn l from_ j : Nat)) (fun _ t => (intOf t + 1).toNat)
    case atStart => exact ⟨0, Nat.zero_le _, by simp, rfl⟩
    case round =>
      obtain ⟨j, hj, rfl, rfl⟩ := hrel
      by_cases hlt : j < l.length
      · obtain ⟨i, hi⟩ : ∃ i, l.length = i + 1 + j := ⟨l.length - 1 - j, by omega⟩
        rw [show (l.length : Int) - 1 - j = (i : Int) by omega]
        have hil : i < l.length := by omega
        obtain ⟨c0, c1, c2, c3, c4, c5, c6, c7, c8⟩ := SlS.at9 (w := w) (enc := eFile) (xs := l) (k := i) (fun q hq => HC.out i hil q hq) rfl
        clear c0 c1 c2 c4 c5 c6 c7 c8
        have n5 := cell_lt c3
        have n6 : w.heap.size ≠ b := by omega
        have hsuc : atDn l from_ (j + 1) = if kl from_ (nth l i).small.user = true then i else atDn l from_ j := by
          rw [show i = l.length - 1 - j by omega]; rfl
        have HS := hid hsuc
        have HI := hid hi
        clear hsuc hi
        rcases tri (nth l i).small.user from_ with ⟨h1, h2⟩ | ⟨h1, h2, h3⟩ | ⟨h1, h2, h3⟩
        · have HK := hid h2
          clear h2
          go_wp2
          go_round
          case rel => exact ⟨j + 1, by omega, int_val (by have := HI.out; omega), by rw [HS.out, HK.out]; simp⟩
          case measure => simp [intOf]
        · have HK := hid h3
          clear h3
          go_wp2
          go_round
          case rel => exact ⟨j + 1, by omega, int_val (by have := HI.out; omega), by rw [HS.out, HK.out]; simp⟩
          case measure => simp [intOf]
        · have HK := hid h3
          clear h3
          go_wp2
          go_round
          case rel => exact ⟨j + 1, by omega, int_val (by have := HI.out; omega), by rw [HS.out, HK.out]; simp⟩
          case measure => simp [intOf]
      · have : j = l.length := by omega
        subst this
        rw [show (l.length : Int) - 1 - l.length = -1 by omega]
        have hA := HA.out l.length
        obtain ⟨c0, c1, c2, c3, c4, c5, c6, c7, c8⟩ := SlS.at9 (w := w) (enc := eFile) (xs := l) (k := atDn l from_ l.length) (fun q hq => HC.out _ hA q hq) rfl
        have n5 := cell_lt c3
        have n6 : w.heap.size ≠ b := by omega
        generalize atDn l from_ l.length = i at *
        go_wp2_with fail
        refine (spanned_in _ [nth l i] _ (slfile_one (w := w.alloc _) (alloc_size w _)) (by simp)).mono ?_
        rintro e w2 ⟨rfl, he2⟩
        have E2 := hid (Ext.tr (Ext.al (Ext.rfl _) _) he2)
        have q0 := ext_new E2.out 0 rfl
        have q1 := ext_new E2.out 1 rfl
        have q2 := ext_new E2.out 2 rfl
        have q3 := ext_new E2.out 3 rfl
        have hlt4 := cell_lt q0
        have SL2 := hid (SlS.file (slfile_one (w := w.alloc _) (f := nth l i) (alloc_size w _)) he2)
        clear he2 c0 c1 c2 c3 c4 c5 c6 c7 c8
        go_wp2_with fail
        refine (HOV.out _ ((ext_of_new E2.out).al _) _ _).mono ?_
        rintro e w3 ⟨u, rfl, ho, he3⟩
        have SL3 := hid (SL2.out.file (((Ext.rfl w2).al _).tr he3))
        have E3 := hid (ext_of_new (E2.out.tr (((Ext.rfl w2).al _).tr he3)))
        have O3 := hid ho.sl
        clear he3 ho q0 q1 q2 q3
        go_wp2
        go_ret2
        exact ⟨_, _, rfl, SL3.out, O3.out, E3.out⟩
end Go.Proofs.Yticmnmdokoonjaa
