/- Files that a crash cuts: how they lie in memory; what is asked ahead; a name that is sought. -/
import Derived.Test.YtjekfifnhdoamaaSf0
import Derived.Test.YtjekfifnhdoamaaRows
import Derived.WalkSpells
import Derived.WalkLawsBesides
import Derived.Laws.EntriesVeiled
import Derived.Deep.QuietTactic
import Derived.BigQuiet
import Derived.StillTailTactics
import Derived.LaidEqlPtr
import Derived.Lib.UnsafeStr
set_option linter.unusedSimpArgs false
set_option linter.unusedVariables false
set_option linter.unnecessarySimpa false
namespace Go.Proofs.Ytjekfifnhdoamaa
open Go.RowKit Go.Rg Go.St

def nmK (s : ByteArray) : Value := .string s
/-- where the parts lie: the head, the maps of names, the row of changes; each file's block and its row -/
structure FL where
  fb : Nat
  nb : Nat
  lb : Nat
  sv : Value
  φ : Nat → Nat
  bv : Nat → Value
  R : Nat → Prop
def FileAt (w : World) (b : Nat) (v : Value) (f : Fl) : Prop :=
  w.heap[b]? = some (.cells #[v, .int .i64 (f.last : Nat)] 97 (0, 0)) ∧ w.ownsRow 0 5 1 v f.b.length (Lib.byteCells f.b)
def FsRef (M : FsM) (i : Nat) : Prop := (∃ p, p ∈ M.names ∧ p.2 = i) ∨ (∃ p, p ∈ M.lasts ∧ p.2 = i) ∨ ∃ c, c ∈ M.since ∧ c.to_.size ≠ 0 ∧ c.x = i
def xChg (φ : Nat → Nat) (c : Chg) : Value := if c.to_.size = 0 then .pointer none else ptrV (φ c.x)
def eChg (φ : Nat → Nat) (c : Chg) : List Value := [.string c.frm, .string c.to_, xChg φ c]
def NmTells (φ : Nat → Nat) (E : Ent ByteArray) (l : Nm) : Prop := (pr E).Perm (l.map fun p => (p.1, φ p.2))
def NamesAt (w : World) (mb : Nat) (φ : Nat → Nat) (l : Nm) : Prop := ∃ E c, NmAt nmK w mb E c ∧ NmTells φ E l
def fsC (L : FL) (M : FsM) : Array Value := #[.map (some L.nb), .map (some L.lb), L.sv, .int .i64 (M.quota : Nat), .int .i64 (M.ops : Nat), .int .i64 M.fuse, .int .i64 M.fail]
structure FsAt (w : World) (L : FL) (M : FsM) : Prop where
  row : w.heap[L.fb]? = some (.cells (fsC L M) 92 (0, 0))
  now : NamesAt w L.nb L.φ M.names
  las : NamesAt w L.lb L.φ M.lasts
  sin : w.ownsRow 0 99 3 L.sv M.since.length (M.since.flatMap (eChg L.φ))
  ref : ∀ i, FsRef M i → L.R i
  lt : ∀ i, L.R i → i < M.nf
  fil : ∀ i, L.R i → FileAt w (L.φ i) (L.bv i) (M.files i)
  nl : L.nb ≠ L.lb
  inj : ∀ i j, L.R i → L.R j → L.φ i = L.φ j → i = j
  ap : ∀ i j, L.R i → L.R j → i ≠ j → ∀ k, (L.bv i).ownBlock = some k → (L.bv j).ownBlock ≠ some k
def FsFoot1 (L : FL) (k : Nat) : Prop := k = L.nb ∨ k = L.lb ∨ L.sv.ownBlock = some k ∨ ∃ i, L.R i ∧ (k = L.φ i ∨ (L.bv i).ownBlock = some k)
def FsFoot (L : FL) (k : Nat) : Prop := k = L.fb ∨ FsFoot1 L k

theorem NamesAt.go {w w' : World} {mb : Nat} {φ : Nat → Nat} {l : Nm} (h : NamesAt w mb φ l) (he : w'.heap[mb]? = w.heap[mb]?) : NamesAt w' mb φ l := by
  obtain ⟨E, c, h1, h2⟩ := h
  exact ⟨E, c, h1.go he, h2⟩
theorem NamesAt.lt {w : World} {mb : Nat} {φ : Nat → Nat} {l : Nm} (h : NamesAt w mb φ l) : mb < w.heap.size := by
  obtain ⟨E, c, h1, h2⟩ := h
  exact h1.lt
theorem NamesAt.map {w : World} {mb : Nat} {φ : Nat → Nat} {l : Nm} (h : NamesAt w mb φ l) : ∃ es c, w.heap[mb]? = some (.map es c) := by
  obtain ⟨E, c, h1, h2⟩ := h
  exact ⟨_, _, h1.map⟩
theorem NmTells.keys {φ : Nat → Nat} {E : Ent ByteArray} {l : Nm} (h : NmTells φ E l) (hr : Rising l) : (keysE E).Nodup := by
  rw [keys_pr]
  have h1 := h.map (·.1)
  rw [List.map_map] at h1
  exact h1.symm.nodup hr.nodup
theorem nmt_get {φ : Nat → Nat} {E : Ent ByteArray} {l : Nm} (h : NmTells φ E l) (hr : Rising l) (k : ByteArray) : getE E k = (fndN l k).map φ := by
  have hn := h.keys hr
  rw [keys_pr] at hn
  rw [get_pr, find_perm h hn]
  unfold fndN
  rw [List.find?_map]
  cases hf : l.find? ((fun p => p.1 == k) ∘ fun p => (p.1, φ p.2)) with
  | none =>
    have : l.find? (fun p => p.1 == k) = none := hf
    rw [this]; rfl
  | some p =>
    have : l.find? (fun p => p.1 == k) = some p := hf
    rw [this]; rfl
theorem mN_map : Try.prog.underlying 89 = some (.map 9 94) := by kernel_rfl
theorem mN_key : KeyG Try.prog 9 nmK (fun _ _ => True) := keyG_of (keyT_string Try.underlying9)
theorem mN_zero : (Try.prog.info? 94).bind (·.zero) = some (.pointer none) := by kernel_rfl
theorem NamesAt.look {w : World} {mb : Nat} {φ : Nat → Nat} {l : Nm} (h : NamesAt w mb φ l) (hr : Rising l) (k : ByteArray) :
    (Instr.lookup 89 (.map (some mb)) (.string k) false).run Try.prog w = .ok (((fndN l k).map φ).elim (.pointer none) ptrV) w := by
  obtain ⟨E, c, h1, h2⟩ := h
  rw [← nmt_get h2 hr k]
  exact nm_look mN_map mN_key mN_zero h1 k trivial (fun _ _ => trivial)
theorem offK_map (φ : Nat → Nat) (k : ByteArray) (l : Nm) : offK k (l.map fun p => (p.1, φ p.2)) = (offK k l).map fun p => (p.1, φ p.2) := by
  unfold offK
  rw [List.filter_map]
  rfl
theorem nmt_del {φ : Nat → Nat} {E : Ent ByteArray} {l : Nm} (h : NmTells φ E l) (hr : Rising l) (k : ByteArray) : NmTells φ (delE E k) (offK k l) := by
  unfold NmTells
  rw [pr_del (h.keys hr), ← offK_map]
  exact List.Perm.filter _ h
theorem nmt_put {φ : Nat → Nat} {E : Ent ByteArray} {l : Nm} (h : NmTells φ E l) (hr : Rising l) (k : ByteArray) (i c : Nat) : NmTells φ (putEn E k (φ i) c) (putN l (k, i)) := by
  unfold NmTells
  refine (pr_put (h.keys hr)).trans ?_
  have h1 : (putN l (k, i)).Perm ((k, i) :: offK k l) := nmIns_perm _ _
  have h2 := h1.map (fun p => (p.1, φ p.2))
  refine List.Perm.trans ?_ h2.symm
  rw [List.map_cons, ← offK_map]
  exact List.Perm.cons _ (List.Perm.filter _ h)

/-! ### frames -/
theorem own_ltG {w : World} {base : Nat} {e : TypeId} {sz : Nat} {v : Value} {n : Nat} {xs : List Value} (h : w.ownsRow base e sz v n xs) {k : Nat} (hk : v.ownBlock = some k) : ∃ cs, w.heap[k]? = some (.cells cs e (0, 0)) := by
  rcases h.2 with ⟨rfl, _⟩ | ⟨g, cap, cur, rfl, _, hg, _⟩
  · cases hk
  · simp [Value.ownBlock] at hk
    subst hk
    exact ⟨cur, hg⟩
theorem FsAt.kind {w : World} {L : FL} {M : FsM} (h : FsAt w L M) {k : Nat} (hk : FsFoot1 L k) : (∃ es c, w.heap[k]? = some (.map es c)) ∨ ∃ cs ty, w.heap[k]? = some (.cells cs ty (0, 0)) ∧ (ty = 99 ∨ ty = 97 ∨ ty = 5) := by
  rcases hk with rfl | rfl | hk | ⟨i, hi, rfl | hk⟩
  · exact .inl h.now.map
  · exact .inl h.las.map
  · obtain ⟨cs, hc⟩ := own_ltG h.sin hk
    exact .inr ⟨cs, _, hc, .inl rfl⟩
  · exact .inr ⟨_, _, (h.fil i hi).1, .inr (.inl rfl)⟩
  · obtain ⟨cs, hc⟩ := own_ltG (h.fil i hi).2 hk
    exact .inr ⟨cs, _, hc, .inr (.inr rfl)⟩
theorem FsAt.foot_lt {w : World} {L : FL} {M : FsM} (h : FsAt w L M) {k : Nat} (hk : FsFoot L k) : k < w.heap.size := by
  rcases hk with rfl | hk
  · exact blk_lt h.row
  · rcases h.kind hk with ⟨es, c, hm⟩ | ⟨cs, ty, hm, _⟩ <;> exact blk_lt hm
theorem FsAt.ne_fb {w : World} {L : FL} {M : FsM} (h : FsAt w L M) {k : Nat} (hk : FsFoot1 L k) : k ≠ L.fb := by
  intro e
  subst e
  rcases h.kind hk with ⟨es, c, hm⟩ | ⟨cs, ty, hm, ht⟩
  · rw [h.row] at hm; cases hm
  · rw [h.row] at hm
    cases hm
    revert ht
    decide
theorem FsAt.go {w w' : World} {L : FL} {M : FsM} (h : FsAt w L M) (hc : ∀ k, FsFoot L k → w'.heap[k]? = w.heap[k]?) : FsAt w' L M := by
  have h1 : ∀ k, FsFoot1 L k → w'.heap[k]? = w.heap[k]? := fun k hk => hc k (.inr hk)
  exact ⟨(hc _ (.inl rfl)).trans h.row, h.now.go (h1 _ (.inl rfl)), h.las.go (h1 _ (.inr (.inl rfl))), owns_ch h.sin (fun g hg => h1 _ (.inr (.inr (.inl hg)))), h.ref, h.lt,
    fun i hi => ⟨(h1 _ (.inr (.inr (.inr ⟨i, hi, .inl rfl⟩)))).trans (h.fil i hi).1, owns_ch (h.fil i hi).2 (fun g hg => h1 _ (.inr (.inr (.inr ⟨i, hi, .inr hg⟩))))⟩, h.nl, h.inj, h.ap⟩
theorem FsAt.ch {w w' : World} {L : FL} {M : FsM} {F : Nat → Prop} (h : FsAt w L M) (hc : Ch F w w') (hF : ∀ k, FsFoot L k → ¬ F k) : FsAt w' L M :=
  h.go fun k hk => hc.block k (h.foot_lt hk) (hF k hk)
theorem FsAt.ext {w w' : World} {L : FL} {M : FsM} (h : FsAt w L M) (he : Ext w w') : FsAt w' L M := h.go fun k hk => he.block k (h.foot_lt hk)
/-- the head alone has turned -/
theorem FsAt.head {w w' : World} {L : FL} {M M' : FsM} (h : FsAt w L M) (hc : Ch (· = L.fb) w w') (hr : w'.heap[L.fb]? = some (.cells (fsC L M') 92 (0, 0)))
    (e1 : M'.files = M.files) (e2 : M'.nf = M.nf) (e3 : M'.names = M.names) (e4 : M'.lasts = M.lasts) (e5 : M'.since = M.since) : FsAt w' L M' := by
  have h1 : ∀ k, FsFoot1 L k → w'.heap[k]? = w.heap[k]? := fun k hk => hc.block k (h.foot_lt (.inr hk)) (h.ne_fb hk)
  refine ⟨hr, by rw [e3]; exact h.now.go (h1 _ (.inl rfl)), by rw [e4]; exact h.las.go (h1 _ (.inr (.inl rfl))), by rw [e5]; exact owns_ch h.sin (fun g hg => h1 _ (.inr (.inr (.inl hg)))), fun i hi => h.ref i (by unfold FsRef at hi ⊢; rw [e3, e4, e5] at hi; exact hi), fun i hi => by rw [e2]; exact h.lt i hi,
    fun i hi => by rw [e1]; exact ⟨(h1 _ (.inr (.inr (.inr ⟨i, hi, .inl rfl⟩)))).trans (h.fil i hi).1, owns_ch (h.fil i hi).2 (fun g hg => h1 _ (.inr (.inr (.inr ⟨i, hi, .inr hg⟩))))⟩, h.nl, h.inj, h.ap⟩
theorem fs_cells {w : World} {L : FL} {M : FsM} (hr : w.heap[L.fb]? = some (.cells (fsC L M) 92 (0, 0))) :
    w.cell? ⟨L.fb, 0, none⟩ = some (.map (some L.nb)) ∧ w.cell? ⟨L.fb, 1, none⟩ = some (.map (some L.lb)) ∧ w.cell? ⟨L.fb, 2, none⟩ = some L.sv ∧ w.cell? ⟨L.fb, 3, none⟩ = some (.int .i64 (M.quota : Nat)) ∧
    w.cell? ⟨L.fb, 4, none⟩ = some (.int .i64 (M.ops : Nat)) ∧ w.cell? ⟨L.fb, 5, none⟩ = some (.int .i64 M.fuse) ∧ w.cell? ⟨L.fb, 6, none⟩ = some (.int .i64 M.fail) ∧ ∀ i, w.frozen? ⟨L.fb, i, none⟩ = false := by
  have c := fun j => cell_of_row w L.fb j _ _ _ hr
  exact ⟨c 0, c 1, c 2, c 3, c 4, c 5, c 6, fun i => frozen_of_row _ _ _ _ _ hr⟩

/-! ### what is asked ahead -/
theorem ch0 (b : Nat) (w : World) : Ch (fun x => x = b) w w := Ch.rfl _ _
theorem st2 {w : World} {b : Nat} {a0 a1 a2 a3 a4 a5 a6 : Value} {T : TypeId} (h : w.heap[b]? = some (.cells #[a0, a1, a2, a3, a4, a5, a6] T (0, 0))) (x y : Value) :
    ((w.setCell ⟨b, 4, none⟩ x).setCell ⟨b, 5, none⟩ y).heap[b]? = some (.cells #[a0, a1, a2, a3, x, y, a6] T (0, 0)) :=
  (heap_setCell_same _ _ _ _ _ _ ((heap_setCell_same _ _ _ _ _ _ h).trans rfl)).trans rfl
theorem st2' {w : World} {b : Nat} {a0 a1 a2 a3 a4 a5 a6 : Value} {T : TypeId} (h : w.heap[b]? = some (.cells #[a0, a1, a2, a3, a4, a5, a6] T (0, 0))) (x y : Value) :
    ((w.setCell ⟨b, 4, none⟩ x).setCell ⟨b, 6, none⟩ y).heap[b]? = some (.cells #[a0, a1, a2, a3, x, a5, y] T (0, 0)) :=
  (heap_setCell_same _ _ _ _ _ _ ((heap_setCell_same _ _ _ _ _ _ h).trans rfl)).trans rfl
theorem st3 {w : World} {b : Nat} {a0 a1 a2 a3 a4 a5 a6 : Value} {T : TypeId} (h : w.heap[b]? = some (.cells #[a0, a1, a2, a3, a4, a5, a6] T (0, 0))) (x y z : Value) :
    (((w.setCell ⟨b, 4, none⟩ x).setCell ⟨b, 5, none⟩ y).setCell ⟨b, 6, none⟩ z).heap[b]? = some (.cells #[a0, a1, a2, a3, x, y, z] T (0, 0)) :=
  (heap_setCell_same _ _ _ _ _ _ (st2 h x y)).trans rfl
def OpsMax : Nat := 1000000000000
set_option maxRecDepth 100000 in
set_option maxHeartbeats 1000000 in
theorem fsAsk_in (L : FL) (M : FsM) (w : World) (h : FsAt w L M) (ok : M.Ok) (ho : M.ops < OpsMax) :
    Calls Try.prog 47 #[ptrV L.fb] w (fun e w' => e = .returned (.int .i64 M.ask.1) ∧ FsAt w' L M.ask.2 ∧ Ch (· = L.fb) w w') := by
  have hm : M.fuse < 9223372036854775808 ∧ M.fail < 9223372036854775808 := ⟨ok.fu.2, ok.fa.2⟩
  have hf : -1 ≤ M.fuse ∧ -1 ≤ M.fail := ⟨ok.fu.1, ok.fa.1⟩
  clear ok
  have HA := hid (ask_asked M)
  obtain ⟨c0, c1, c2, c3, c4, c5, c6, ff⟩ := fs_cells h.row
  have H := hid h
  have wo : IntKind.i64.wrap ((M.ops : Int) + 1) = (M.ops : Int) + 1 := by unfold OpsMax at ho; simp [IntKind.wrap_i64]; omega
  have fin : ∀ (f g : Int) (w' : World), w'.heap[L.fb]? = some (.cells #[.map (some L.nb), .map (some L.lb), L.sv, .int .i64 (M.quota : Nat), .int .i64 ((M.ops : Int) + 1), .int .i64 f, .int .i64 g] 92 (0, 0)) → Ch (· = L.fb) w w' →
      M.ask.2.fuse = f → M.ask.2.fail = g → FsAt w' L M.ask.2 := fun f g w' hr hc e1 e2 => by
    have a := HA.out
    refine H.out.head hc ?_ a.files a.nf a.names a.lasts a.since
    rw [hr]
    unfold fsC
    rw [a.quota, a.ops, e1, e2]
    rfl
  have FIN := hid fin
  have hrow := h.row
  unfold fsC at hrow
  have HR := hid hrow
  have HM := hid hm
  have HF := hid hf
  clear h fin HA c0 c1 c2 c3 hrow hm hf ho
  by_cases h0 : M.fuse = 0
  · have d0 : (M.fuse == 0) = true := by rw [h0]; rfl
    have ea : M.ask = (44, { M with ops := M.ops + 1 }) := by unfold FsM.ask; rw [if_pos h0]
    have EA := hid ea
    clear ea h0
    go_enter Try.func47, Try.ntmps47
    go_wp2_with fail
    go_ret
    exact ⟨by rw [EA.out]; rfl, FIN.out _ _ _ ((heap_setCell_same _ _ _ _ _ _ HR.out).trans rfl) ((ch0 L.fb w).setC rfl) (by rw [EA.out]) (by rw [EA.out]), (ch0 L.fb w).setC rfl⟩
  · have d0 : (M.fuse == 0) = false := by rw [beq_eq_false_iff_ne]; exact h0
    by_cases h1 : 0 < M.fuse
    · have w1 : IntKind.i64.wrap (M.fuse - 1) = M.fuse - 1 := by have := HM.out; simp [IntKind.wrap_i64]; omega
      have d1 : decide (0 < M.fuse) = true := decide_eq_true h1
      by_cases h2 : 0 ≤ M.fail
      · have w2 : IntKind.i64.wrap (M.fail - 1) = M.fail - 1 := by have := HM.out; simp [IntKind.wrap_i64]; omega
        have d2 : decide (0 ≤ M.fail) = true := decide_eq_true h2
        by_cases h3 : M.fail = 0
        · have d3 : decide (M.fail - 1 < 0) = true := decide_eq_true (by omega)
          have ea : M.ask = (45, { M with ops := M.ops + 1, fuse := M.fuse - 1, fail := -1 }) := by unfold FsM.ask; rw [if_neg h0]; simp only; rw [if_pos h2, if_pos h3, if_pos h1]
          have EA := hid ea
          have H3 := hid h3
          clear ea h0 h2 h3
          go_enter Try.func47, Try.ntmps47
          go_wp2_with fail
          go_ret
          exact ⟨by rw [EA.out]; rfl, FIN.out _ _ _ (st3 HR.out _ _ _) ((((ch0 L.fb w).setC rfl).setC rfl).setC rfl) (by rw [EA.out]) (by rw [EA.out, H3.out]; rfl), (((ch0 L.fb w).setC rfl).setC rfl).setC rfl⟩
        · have d3 : decide (M.fail - 1 < 0) = false := decide_eq_false (by omega)
          have ea : M.ask = (0, { M with ops := M.ops + 1, fuse := M.fuse - 1, fail := M.fail - 1 }) := by unfold FsM.ask; rw [if_neg h0]; simp only; rw [if_pos h2, if_neg h3, if_pos h1]
          have EA := hid ea
          clear ea h0 h2 h3
          go_enter Try.func47, Try.ntmps47
          go_wp2_with fail
          go_ret
          exact ⟨by rw [EA.out]; rfl, FIN.out _ _ _ (st3 HR.out _ _ _) ((((ch0 L.fb w).setC rfl).setC rfl).setC rfl) (by rw [EA.out]) (by rw [EA.out]), (((ch0 L.fb w).setC rfl).setC rfl).setC rfl⟩
      · have d2 : decide (0 ≤ M.fail) = false := decide_eq_false h2
        have ea : M.ask = (0, { M with ops := M.ops + 1, fuse := M.fuse - 1 }) := by unfold FsM.ask; rw [if_neg h0]; simp only; rw [if_neg h2, if_pos h1]
        have EA := hid ea
        clear ea h0
        go_enter Try.func47, Try.ntmps47
        go_wp2_with fail
        go_ret
        exact ⟨by rw [EA.out]; rfl, FIN.out _ _ _ (st2 HR.out _ _) (((ch0 L.fb w).setC rfl).setC rfl) (by rw [EA.out]) (by rw [EA.out]), ((ch0 L.fb w).setC rfl).setC rfl⟩
    · have d1 : decide (0 < M.fuse) = false := decide_eq_false h1
      by_cases h2 : 0 ≤ M.fail
      · have w2 : IntKind.i64.wrap (M.fail - 1) = M.fail - 1 := by have := HM.out; simp [IntKind.wrap_i64]; omega
        have d2 : decide (0 ≤ M.fail) = true := decide_eq_true h2
        by_cases h3 : M.fail = 0
        · have d3 : decide (M.fail - 1 < 0) = true := decide_eq_true (by omega)
          have ea : M.ask = (45, { M with ops := M.ops + 1, fail := -1 }) := by unfold FsM.ask; rw [if_neg h0]; simp only; rw [if_pos h2, if_pos h3, if_neg h1]
          have EA := hid ea
          have H3 := hid h3
          clear ea h0 h2 h3
          go_enter Try.func47, Try.ntmps47
          go_wp2_with fail
          go_ret
          exact ⟨by rw [EA.out]; rfl, FIN.out _ _ _ (st2' HR.out _ _) (((ch0 L.fb w).setC rfl).setC rfl) (by rw [EA.out]) (by rw [EA.out, H3.out]; rfl), ((ch0 L.fb w).setC rfl).setC rfl⟩
        · have d3 : decide (M.fail - 1 < 0) = false := decide_eq_false (by omega)
          have ea : M.ask = (0, { M with ops := M.ops + 1, fail := M.fail - 1 }) := by unfold FsM.ask; rw [if_neg h0]; simp only; rw [if_pos h2, if_neg h3, if_neg h1]
          have EA := hid ea
          clear ea h0 h2 h3
          go_enter Try.func47, Try.ntmps47
          go_wp2_with fail
          go_ret
          exact ⟨by rw [EA.out]; rfl, FIN.out _ _ _ (st2' HR.out _ _) (((ch0 L.fb w).setC rfl).setC rfl) (by rw [EA.out]) (by rw [EA.out]), ((ch0 L.fb w).setC rfl).setC rfl⟩
      · have d2 : decide (0 ≤ M.fail) = false := decide_eq_false h2
        have ea : M.ask = (0, { M with ops := M.ops + 1 }) := by unfold FsM.ask; rw [if_neg h0]; simp only; rw [if_neg h2, if_neg h1]
        have EA := hid ea
        clear ea h0
        go_enter Try.func47, Try.ntmps47
        go_wp2_with fail
        go_ret
        exact ⟨by rw [EA.out]; rfl, FIN.out _ _ _ ((heap_setCell_same _ _ _ _ _ _ HR.out).trans rfl) ((ch0 L.fb w).setC rfl) (by rw [EA.out]) (by rw [EA.out]), (ch0 L.fb w).setC rfl⟩
end Go.Proofs.Ytjekfifnhdoamaa
