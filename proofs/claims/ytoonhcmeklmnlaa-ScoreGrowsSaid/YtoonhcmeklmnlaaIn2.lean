/- The walks of spans and of files over one another. -/
import Derived.Test.YtoonhcmeklmnlaaIn1
import Derived.Test.YtoonhcmeklmnlaaVr0
set_option linter.unusedSimpArgs false
set_option linter.unusedVariables false
set_option linter.unnecessarySimpa false
namespace Go.Proofs.Ytoonhcmeklmnlaa
open Go.RowKit Go.Rg Go.St

theorem run_min_str (ts : Array TypeId) (t : TypeId) (x y : ByteArray) (w : World) : (Builtin.min_ ts t #[.string x, .string y]).run Try.prog w = .ok (.string (mnB x y)) w := by
  unfold mnB
  rw [← kle_eq]
  simp [Builtin.min_, Builtin.min2, Op.stringOp]
  split <;> simp_all [asBool]
theorem run_max_str (ts : Array TypeId) (t : TypeId) (x y : ByteArray) (w : World) : (Builtin.max_ ts t #[.string x, .string y]).run Try.prog w = .ok (.string (mxB x y)) w := by
  unfold mxB kle kl
  simp [Builtin.max_, Builtin.max2, Op.stringOp, asBool]

abbrev aFile (f : File) : Value := .agg #[.int .i64 f.level, .int .u64 f.num, .int .i64 f.size, .string f.small.user, .int .u64 f.small.seq, .int .i64 f.small.kind, .string f.large.user, .int .u64 f.large.seq, .int .i64 f.large.kind]
abbrev aSpan (s : ByteArray × ByteArray) : Value := .agg #[.string s.1, .string s.2]
def ValExt (v : Value) (w : World) (e : Ending) (w' : World) : Prop := e = .returned v ∧ Ext w w'

/-! ### rows of files that a call owns -/
theorem flat_get {α : Type} [Inhabited α] {sz : Nat} {enc : α → List Value} (hl : ∀ x, (enc x).length = sz) : ∀ (xs : List α) (i j : Nat), i < xs.length → j < sz → (xs.flatMap enc)[i * sz + j]? = (enc (nth xs i))[j]?
  | [], i, j, hi, _ => absurd hi (Nat.not_lt_zero _)
  | x :: xs, 0, j, _, hj => by
    rw [List.flatMap_cons, Nat.zero_mul, Nat.zero_add, List.getElem?_append_left (by rw [hl]; exact hj)]
    rfl
  | x :: xs, i + 1, j, hi, hj => by
    rw [List.flatMap_cons, List.getElem?_append_right (by rw [hl, Nat.succ_mul]; omega), hl, show (i + 1) * sz + j - sz = i * sz + j by rw [Nat.succ_mul]; omega]
    rw [flat_get hl xs i j (by simpa using hi) hj]
    rfl
theorem owns_slS {α : Type} [Inhabited α] {w : World} {base : Nat} {e : TypeId} {sz : Nat} {v : Value} {enc : α → List Value} {xs : List α} {n : Nat} (h : w.ownsRow base e sz v n (xs.flatMap enc)) (hn : n = xs.length) (hl : ∀ x, (enc x).length = sz) (hsz : 0 < sz) : SlS w v sz enc xs := by
  subst hn
  rcases h.2 with ⟨rfl, hx⟩ | ⟨g, cap, cur, rfl, _, hg, hnc, hcm, hcs, htk⟩
  · obtain rfl := List.eq_nil_of_length_eq_zero hx
    exact SlS.nil _ _ _
  · refine ⟨_, cap, rfl, hnc, hcm, fun _ => ⟨g, 0, rfl, fun i hi j hj => ?_⟩⟩
    have hlt : i * sz + j < xs.length * sz := by
      have : (i + 1) * sz ≤ xs.length * sz := Nat.mul_le_mul_right _ hi
      rw [Nat.succ_mul] at this
      omega
    rw [← flat_get hl xs i j hi hj, ← htk, List.getElem?_take, if_pos hlt, Nat.zero_add, cell_of_row _ _ _ cur e (0, 0) hg, Array.getElem?_toList]
theorem news_block (w : World) (cs : Array Value) (T : TypeId) : ∀ j u, cs.toList[j]? = some u → (w.alloc (.cells cs T)).cell? ((⟨w.heap.size, 0, none⟩ : Addr).add j) = some u := by
  intro j u h
  rw [Addr.add_lit, cell_of_row _ _ _ cs T (0, 0) (heap_alloc_new w _), Nat.zero_add, ← Array.getElem?_toList]
  exact h
theorem one_file (f : File) : ∀ u ∈ eFile f, u.oneCell' = true := by
  intro u hu
  simp only [eFile, List.mem_cons, List.mem_nil_iff, or_false] at hu
  rcases hu with rfl | rfl | rfl | rfl | rfl | rfl | rfl | rfl | rfl <;> rfl
theorem el_file : ElT Try.prog 64 80 9 88 := ⟨Try.underlying64, by kernel_rfl, by decide, by decide⟩
abbrev OwnFiles (w : World) (base : Nat) (v : Value) (xs : List File) : Prop := w.ownsRow base 80 9 v xs.length (xs.flatMap eFile)
theorem OwnFiles.sl {w : World} {base : Nat} {v : Value} {xs : List File} (h : OwnFiles w base v xs) : SlFile w v xs := owns_slS h rfl eFile_length (by decide)
def FilesExt (xs : List File) (w : World) (e : Ending) (w' : World) : Prop := ∃ v, e = .returned v ∧ OwnFiles w' w.heap.size v xs ∧ Ext w w'

set_option maxHeartbeats 400000 in
theorem with_in (s : ByteArray × ByteArray) (f : File) (w : World) :
    Calls Try.prog 107 #[aSpan s, aFile f] w (ValExt (aSpan (mnB s.1 f.small.user, mxB s.2 f.large.user)) w) := by
  have hmin := run_min_str
  have hmax := run_max_str
  go_enter Try.func107, Try.ntmps107
  go_wp2
  refine bodyPost_ret (v := aSpan (mnB s.1 f.small.user, mxB s.2 f.large.user)) (by simp [results, Try.results107, go_sem]) rfl ⟨rfl, ?_⟩
  exact (((Ext.rfl w).al _).al _).al _

set_option maxHeartbeats 400000 in
theorem vhas_in (f : File) (a b : ByteArray) (w : World) :
    Calls Try.prog 84 #[aFile f, .string a, .string b] w (ValExt (.bool (ov a b f)) w) := by
  have hmin := run_min_str
  have hmax := run_max_str
  go_enter Try.func84, Try.ntmps84
  go_wp2
  go_ret
  refine ⟨?_, (Ext.rfl w).al _⟩
  unfold ov
  rw [← kle_eq]
  rfl

theorem alloc_size (w : World) (o : Obj) : (w.alloc o).heap.size = w.heap.size + 1 := by show (w.heap.push o).size = _; simp
/-- a span's box -/
def Spn (wr : World) (b : Nat) (s : ByteArray × ByteArray) : Prop := wr.heap[b]? = some (.cells #[.string s.1, .string s.2] 150 (0, 0))
theorem Spn.cells {wr : World} {b : Nat} {s : ByteArray × ByteArray} (h : Spn wr b s) : wr.cell? ⟨b, 0, none⟩ = some (.string s.1) ∧ wr.cell? ⟨b, 1, none⟩ = some (.string s.2) ∧ ∀ i, wr.frozen? ⟨b, i, none⟩ = false := by
  have c := fun j => cell_of_row wr b j _ _ _ h
  exact ⟨c 0, c 1, fun i => frozen_of_row _ _ _ _ _ h⟩
theorem Spn.lt {wr : World} {b : Nat} {s : ByteArray × ByteArray} (h : Spn wr b s) : b < wr.heap.size := (Array.getElem?_eq_some_iff.1 h).1
theorem Spn.ext {wr w' : World} {b : Nat} {s : ByteArray × ByteArray} (h : Spn wr b s) (he : Ext wr w') : Spn w' b s := (he.block b (Array.getElem?_eq_some_iff.1 h).1).trans h
theorem Spn.set {wr : World} {b : Nat} {s : ByteArray × ByteArray} (h : Spn wr b s) (x y : ByteArray) : Spn ((wr.setCell ⟨b, 0, none⟩ (.string x)).setCell ⟨b, 1, none⟩ (.string y)) b (x, y) :=
  (heap_setCell_same _ b 1 _ _ _ (heap_setCell_same wr b 0 _ _ _ h)).trans rfl
theorem Spn.setE {w wr : World} {b : Nat} (h : Ext w wr) (hb : w.heap.size ≤ b) (x y : ByteArray) : Ext w ((wr.setCell ⟨b, 0, none⟩ (.string x)).setCell ⟨b, 1, none⟩ (.string y)) := Below.setCell (Below.setCell h hb _) hb _
theorem Spn.far {wr : World} {b b' : Nat} {s : ByteArray × ByteArray} (h : Spn wr b' s) (hne : b' ≠ b) (x y : ByteArray) : Spn ((wr.setCell ⟨b, 0, none⟩ (.string x)).setCell ⟨b, 1, none⟩ (.string y)) b' s := by
  unfold Spn
  rw [heap_setCell_other _ _ _ _ hne, heap_setCell_other _ _ _ _ hne]
  exact h

set_option maxHeartbeats 1000000 in
theorem spanned_in (v : Value) (l : List File) (w : World) (h : SlFile w v l) (hl : 0 < l.length) :
    Calls Try.prog 88 #[v] w (ValExt (aSpan (span l)) w) := by
  obtain ⟨a, cap, rfl, hcap, hm, hc⟩ := h.ex
  obtain ⟨b, off, rfl, hcell⟩ := hc hl
  unfold maxLen at hm
  obtain ⟨c0, c1, c2, c3, c4, c5, c6, c7, c8⟩ := SlS.at9 (w := w) (enc := eFile) (xs := l) (k := 0) (fun j hj => hcell 0 hl j hj) rfl
  rw [Nat.zero_mul, Nat.add_zero] at c3 c6
  have HC := hid hcell
  have n0 := cell_lt c3
  have n1 : w.heap.size ≠ b := by omega
  have n2 : w.heap.size + 1 ≠ b := by omega
  have n3 : b ≠ w.heap.size := by omega
  have n4 : b ≠ w.heap.size + 1 := by omega
  clear hcell hc h c0 c1 c2 c4 c5 c7 c8
  go_enter Try.func88, Try.ntmps88
  go_wp2
  go_region
  go_wp2
  have E0 := ((Ext.rfl w).al (.cells #[.string ByteArray.empty, .string ByteArray.empty] 150)).al (.cells #[.string (nth l 0).small.user, .string (nth l 0).large.user] 150)
  have S0 : Spn ((w.alloc (.cells #[.string ByteArray.empty, .string ByteArray.empty] 150)).alloc (.cells #[.string (nth l 0).small.user, .string (nth l 0).large.user] 150)).drew (w.heap.size + 1) ((nth l 0).small.user, (nth l 0).large.user) := by
    have := heap_alloc_new (w.alloc (.cells #[.string ByteArray.empty, .string ByteArray.empty] 150)) (.cells #[.string (nth l 0).small.user, .string (nth l 0).large.user] 150)
    rw [alloc_size] at this
    exact this
  have S1 : Spn ((w.alloc (.cells #[.string ByteArray.empty, .string ByteArray.empty] 150)).alloc (.cells #[.string (nth l 0).small.user, .string (nth l 0).large.user] 150)).drew w.heap.size (ByteArray.empty, ByteArray.empty) :=
    Spn.ext (s := (ByteArray.empty, ByteArray.empty)) (heap_alloc_new w _) (((Ext.rfl _).al _).drN 1)
  have HE := hid (Ext.drN E0 1)
  have HS0 := hid S0
  have HS1 := hid S1
  clear E0 S0 S1
  go_loopw [19] (fun t wr => ∃ k : Nat, k ≤ l.length ∧ t = .int .i64 k ∧ Ext w wr ∧ Spn wr (w.heap.size + 1) (spanTo ((nth l 0).small.user, (nth l 0).large.user) (l.take k)) ∧ Spn wr w.heap.size (ByteArray.empty, ByteArray.empty)) (fun t _ => l.length - (intOf t).toNat)
  case atStart => exact ⟨0, Nat.zero_le _, rfl, HE.out, HS0.out, HS1.out⟩
  case round =>
    clear HE HS0 HS1 c3 c6
    obtain ⟨k, hk, rfl, he, hs0, hs1⟩ := hrel
    have HE := hid he
    have HS0 := hid hs0
    have HS1 := hid hs1
    clear he hs0 hs1
    by_cases hlt : k < l.length
    · obtain ⟨c0, c1, c2, c3, c4, c5, c6, c7, c8⟩ := SlS.at9 (w := wr) (enc := eFile) (xs := l) (k := k) (fun j hj => ext_cellq HE.out (HC.out k hlt j hj) hj rfl) rfl
      obtain ⟨d0, d1, d2⟩ := HS0.out.cells
      have hsn := spanTo_snoc ((nth l 0).small.user, (nth l 0).large.user) (l.take k) (nth l k)
      rw [← take_succ_nth l k hlt] at hsn
      have HSN := hid hsn
      clear hsn
      have hge := HE.out.size
      have hlt0 := HS0.out.lt
      generalize spanTo ((nth l 0).small.user, (nth l 0).large.user) (l.take k) = s at *
      go_wp2_with fail
      refine (with_in s (nth l k) _).mono ?_
      rintro e w1 ⟨rfl, he1⟩
      have E1 := hid ((HE.out.al _).tr he1)
      have T0 := hid (Spn.ext (Spn.ext HS0.out ((Ext.rfl _).al _)) he1)
      have T1 := hid (Spn.ext (Spn.ext HS1.out ((Ext.rfl _).al _)) he1)
      obtain ⟨d0', d1', d2'⟩ := T0.out.cells
      clear he1 c0 c1 c2 c3 c4 c5 c6 c7 c8 d0 d1 d2
      go_wp2
      go_roundw
      case rel => exact ⟨k + 1, by omega, by go_num, Spn.setE E1.out (by omega) _ _, by rw [HSN.out]; exact T0.out.set _ _, T1.out.far (by omega) _ _⟩
      case measure => simp [intOf]; omega
    · have : k = l.length := by omega
      subst this
      rw [List.take_length] at HS0
      obtain ⟨d0, d1, d2⟩ := HS0.out.cells
      obtain ⟨f0, f1, f2⟩ := HS1.out.cells
      have hge := HE.out.size
      have hZ := HS1.out.set (spanTo ((nth l 0).small.user, (nth l 0).large.user) l).1 (spanTo ((nth l 0).small.user, (nth l 0).large.user) l).2
      have hE := Spn.setE HE.out (Nat.le_refl _) (spanTo ((nth l 0).small.user, (nth l 0).large.user) l).1 (spanTo ((nth l 0).small.user, (nth l 0).large.user) l).2
      have HZ := hid hZ
      have HX := hid hE
      clear hZ hE
      go_wp2
      generalize (wr.setCell ⟨w.heap.size, 0, none⟩ (.string (spanTo ((nth l 0).small.user, (nth l 0).large.user) l).1)).setCell ⟨w.heap.size, 1, none⟩ (.string (spanTo ((nth l 0).small.user, (nth l 0).large.user) l).2) = wz at HZ HX ⊢
      obtain ⟨g0, g1, _⟩ := HZ.out.cells
      refine bodyPost_ret (v := aSpan (span l)) ?_ rfl ⟨rfl, HX.out⟩
      simp [results, Try.results88, go_sem, g0, g1]
      exact ⟨rfl, rfl⟩
end Go.Proofs.Ytoonhcmeklmnlaa
