/- The document's files: how they lie in memory; what is asked ahead. -/
import Derived.Test.YtjekfifnhdoamaaRf1
import Derived.Test.YtjekfifnhdoamaaSf7
set_option linter.unusedSimpArgs false
set_option linter.unusedVariables false
set_option linter.unnecessarySimpa false
namespace Go.Proofs.Ytjekfifnhdoamaa
open Go.RowKit Go.Rg Go.St

/-- where the parts lie: the box; the rows of files, names, names that last, changes; each file's bytes; what stands where there is no fuse, no fail -/
structure RL where
  rb : Nat
  vf : Value
  vn : Value
  vl : Value
  vs : Value
  vb : Nat → Value
  fu : Int
  fa : Int
def eFl (L : RL) (M : FsM) (i : Nat) : List Value := [L.vb i, .int .i64 ((M.files i).last : Nat)]
def rfC (L : RL) (M : FsM) : Array Value := #[L.vf, L.vn, L.vl, L.vs, .int .i64 (M.quota : Nat), .bool (decide (0 ≤ M.fuse)), .int .i64 L.fu, .bool (decide (0 ≤ M.fail)), .int .i64 L.fa, .int .i64 (M.ops : Nat)]
structure RefAt (w : World) (L : RL) (M : FsM) : Prop where
  row : w.heap[L.rb]? = some (.cells (rfC L M) 113 (0, 0))
  fil : w.ownsRow 0 115 2 L.vf M.nf ((List.range M.nf).flatMap (eFl L M))
  byt : ∀ i, i < M.nf → w.ownsRow 0 5 1 (L.vb i) (M.files i).b.length (Lib.byteCells (M.files i).b)
  nam : OwnN w 0 L.vn M.names
  las : OwnN w 0 L.vl M.lasts
  sin : w.ownsRow 0 127 4 L.vs M.since.length (M.since.flatMap eCg)
  fu : 0 ≤ M.fuse → L.fu = M.fuse
  fa : 0 ≤ M.fail → L.fa = M.fail
def RFoot1 (L : RL) (n : Nat) (k : Nat) : Prop := L.vf.ownBlock = some k ∨ L.vn.ownBlock = some k ∨ L.vl.ownBlock = some k ∨ L.vs.ownBlock = some k ∨ ∃ i, i < n ∧ (L.vb i).ownBlock = some k
def RFoot (L : RL) (n : Nat) (k : Nat) : Prop := k = L.rb ∨ RFoot1 L n k
theorem RefAt.kind {w : World} {L : RL} {M : FsM} (h : RefAt w L M) {k : Nat} (hk : RFoot1 L M.nf k) : ∃ cs ty, w.heap[k]? = some (.cells cs ty (0, 0)) ∧ ty ≠ 113 := by
  rcases hk with hk | hk | hk | hk | ⟨i, hi, hk⟩
  · obtain ⟨cs, hc⟩ := own_ltG h.fil hk
    exact ⟨cs, _, hc, by decide⟩
  · obtain ⟨cs, hc⟩ := own_ltG h.nam hk
    exact ⟨cs, _, hc, by decide⟩
  · obtain ⟨cs, hc⟩ := own_ltG h.las hk
    exact ⟨cs, _, hc, by decide⟩
  · obtain ⟨cs, hc⟩ := own_ltG h.sin hk
    exact ⟨cs, _, hc, by decide⟩
  · obtain ⟨cs, hc⟩ := own_ltG (h.byt i hi) hk
    exact ⟨cs, _, hc, by decide⟩
theorem RefAt.foot_lt {w : World} {L : RL} {M : FsM} (h : RefAt w L M) {k : Nat} (hk : RFoot L M.nf k) : k < w.heap.size := by
  rcases hk with rfl | hk
  · exact blk_lt h.row
  · obtain ⟨cs, ty, hm, _⟩ := h.kind hk
    exact blk_lt hm
theorem RefAt.ne_rb {w : World} {L : RL} {M : FsM} (h : RefAt w L M) {k : Nat} (hk : RFoot1 L M.nf k) : k ≠ L.rb := by
  intro e
  obtain ⟨cs, ty, hm, ht⟩ := h.kind hk
  rw [e, h.row] at hm
  simp only [Option.some.injEq, Obj.cells.injEq] at hm
  exact ht hm.2.1.symm
theorem RefAt.go {w w' : World} {L : RL} {M : FsM} (h : RefAt w L M) (hc : ∀ k, RFoot L M.nf k → w'.heap[k]? = w.heap[k]?) : RefAt w' L M := by
  have h1 : ∀ k, RFoot1 L M.nf k → w'.heap[k]? = w.heap[k]? := fun k hk => hc k (.inr hk)
  exact ⟨(hc _ (.inl rfl)).trans h.row, owns_ch h.fil (fun g hg => h1 _ (.inl hg)), fun i hi => owns_ch (h.byt i hi) (fun g hg => h1 _ (.inr (.inr (.inr (.inr ⟨i, hi, hg⟩))))), owns_ch h.nam (fun g hg => h1 _ (.inr (.inl hg))),
    owns_ch h.las (fun g hg => h1 _ (.inr (.inr (.inl hg)))), owns_ch h.sin (fun g hg => h1 _ (.inr (.inr (.inr (.inl hg))))), h.fu, h.fa⟩
theorem RefAt.ch {w w' : World} {L : RL} {M : FsM} {F : Nat → Prop} (h : RefAt w L M) (hc : Ch F w w') (hF : ∀ k, RFoot L M.nf k → ¬ F k) : RefAt w' L M := h.go fun k hk => hc.block k (h.foot_lt hk) (hF k hk)
theorem RefAt.ext {w w' : World} {L : RL} {M : FsM} (h : RefAt w L M) (he : Ext w w') : RefAt w' L M := h.go fun k hk => he.block k (h.foot_lt hk)
theorem eFl_cong {L L' : RL} {M M' : FsM} {n : Nat} (h1 : ∀ i, i < n → L'.vb i = L.vb i) (h2 : ∀ i, i < n → (M'.files i).last = (M.files i).last) : (List.range n).flatMap (eFl L' M') = (List.range n).flatMap (eFl L M) :=
  flatMap_congrG fun i hi => by
    have hi' := List.mem_range.1 hi
    unfold eFl
    rw [h1 i hi', h2 i hi']
/-- the box alone has turned -/
theorem RefAt.head {w w' : World} {L : RL} {M M' : FsM} (f g : Int) (h : RefAt w L M) (hc : Ch (· = L.rb) w w') (hr : w'.heap[L.rb]? = some (.cells (rfC { L with fu := f, fa := g } M') 113 (0, 0)))
    (e1 : M'.files = M.files) (e2 : M'.nf = M.nf) (e3 : M'.names = M.names) (e4 : M'.lasts = M.lasts) (e5 : M'.since = M.since) (hf : 0 ≤ M'.fuse → f = M'.fuse) (hg : 0 ≤ M'.fail → g = M'.fail) : RefAt w' { L with fu := f, fa := g } M' := by
  have h1 : ∀ k, RFoot1 L M.nf k → w'.heap[k]? = w.heap[k]? := fun k hk => hc.block k (h.foot_lt (.inr hk)) (h.ne_rb hk)
  refine ⟨hr, ?_, fun i hi => ?_, ?_, ?_, ?_, hf, hg⟩
  · rw [e2, eFl_cong (L := L) (M := M) (L' := { L with fu := f, fa := g }) (M' := M') (fun _ _ => rfl) (fun i _ => by rw [e1])]
    exact owns_ch h.fil (fun g hg => h1 _ (.inl hg))
  · rw [e2] at hi
    rw [e1]
    exact owns_ch (h.byt i hi) (fun g hg => h1 _ (.inr (.inr (.inr (.inr ⟨i, hi, hg⟩)))))
  · rw [e3]; exact owns_ch h.nam (fun g hg => h1 _ (.inr (.inl hg)))
  · rw [e4]; exact owns_ch h.las (fun g hg => h1 _ (.inr (.inr (.inl hg))))
  · rw [e5]; exact owns_ch h.sin (fun g hg => h1 _ (.inr (.inr (.inr (.inl hg)))))
theorem rf_cells {w : World} {L : RL} {M : FsM} (hr : w.heap[L.rb]? = some (.cells (rfC L M) 113 (0, 0))) :
    w.cell? ⟨L.rb, 0, none⟩ = some L.vf ∧ w.cell? ⟨L.rb, 1, none⟩ = some L.vn ∧ w.cell? ⟨L.rb, 2, none⟩ = some L.vl ∧ w.cell? ⟨L.rb, 3, none⟩ = some L.vs ∧ w.cell? ⟨L.rb, 4, none⟩ = some (.int .i64 (M.quota : Nat)) ∧
    w.cell? ⟨L.rb, 5, none⟩ = some (.bool (decide (0 ≤ M.fuse))) ∧ w.cell? ⟨L.rb, 6, none⟩ = some (.int .i64 L.fu) ∧ w.cell? ⟨L.rb, 7, none⟩ = some (.bool (decide (0 ≤ M.fail))) ∧ w.cell? ⟨L.rb, 8, none⟩ = some (.int .i64 L.fa) ∧
    w.cell? ⟨L.rb, 9, none⟩ = some (.int .i64 (M.ops : Nat)) ∧ ∀ i, w.frozen? ⟨L.rb, i, none⟩ = false := by
  have c := fun j => cell_of_row w L.rb j _ _ _ hr
  exact ⟨c 0, c 1, c 2, c 3, c 4, c 5, c 6, c 7, c 8, c 9, fun i => frozen_of_row _ _ _ _ _ hr⟩
def AskR (L : RL) (M : FsM) (w : World) (e : Ending) (w' : World) : Prop := e = .returned (.int .i64 M.ask.1) ∧ (∃ f g, RefAt w' { L with fu := f, fa := g } M.ask.2) ∧ Ch (· = L.rb) w w'
set_option maxRecDepth 100000 in
set_option maxHeartbeats 1000000 in
theorem rask_in (L : RL) (M : FsM) (w : World) (h : RefAt w L M) (ok : M.Ok) (ho : M.ops < OpsMax) :
    Calls Try.prog 74 #[ptrV L.rb] w (AskR L M w) := by
  have hm : M.fuse < 9223372036854775808 ∧ M.fail < 9223372036854775808 := ⟨ok.fu.2, ok.fa.2⟩
  have hf : -1 ≤ M.fuse ∧ -1 ≤ M.fail := ⟨ok.fu.1, ok.fa.1⟩
  clear ok
  have HA := hid (ask_asked M)
  obtain ⟨c0, c1, c2, c3, c4, c5, c6, c7, c8, c9, ff⟩ := rf_cells h.row
  have H := hid h
  have wo : IntKind.i64.wrap ((M.ops : Int) + 1) = (M.ops : Int) + 1 := by unfold OpsMax at ho; simp [IntKind.wrap_i64]; omega
  have fin : ∀ (b5 b7 : Bool) (f g : Int) (w' : World), w'.heap[L.rb]? = some (.cells #[L.vf, L.vn, L.vl, L.vs, .int .i64 (M.quota : Nat), .bool b5, .int .i64 f, .bool b7, .int .i64 g, .int .i64 ((M.ops : Int) + 1)] 113 (0, 0)) → Ch (· = L.rb) w w' →
      b5 = decide (0 ≤ M.ask.2.fuse) → b7 = decide (0 ≤ M.ask.2.fail) → (0 ≤ M.ask.2.fuse → f = M.ask.2.fuse) → (0 ≤ M.ask.2.fail → g = M.ask.2.fail) → ∃ f g, RefAt w' { L with fu := f, fa := g } M.ask.2 := fun b5 b7 f g w' hr hc e1 e2 e3 e4 => by
    have a := HA.out
    refine ⟨f, g, H.out.head f g hc ?_ a.files a.nf a.names a.lasts a.since e3 e4⟩
    rw [hr]
    unfold rfC
    rw [a.quota, a.ops, e1, e2]
    rfl
  have FIN := hid fin
  have hrow := h.row
  unfold rfC at hrow
  have HR := hid hrow
  have HM := hid hm
  have HF := hid hf
  have hfu := h.fu
  have hfa := h.fa
  have HFA := hid hfa
  clear h fin HA c0 c1 c2 c3 c4 hrow hm hf ho
  by_cases h0 : M.fuse = 0
  · have e5 : decide (0 ≤ M.fuse) = true := decide_eq_true (by omega)
    rw [e5] at c5 HR
    have d6 : (L.fu == 0) = true := by have := hfu (by omega); rw [this, h0]; rfl
    by_cases h2 : 0 ≤ M.fail
    · have e7 : decide (0 ≤ M.fail) = true := decide_eq_true h2
      rw [e7] at c7 HR
      have ea : M.ask = (44, { M with ops := M.ops + 1 }) := by unfold FsM.ask; rw [if_pos h0]
      have EA := hid ea
      have X5 := hid (show decide (0 ≤ (M.fuse)) = true by exact decide_eq_true (by omega))
      have X7 := hid (show decide (0 ≤ (M.fail)) = true by exact decide_eq_true (by omega))
      have Y5 := hid (show 0 ≤ (M.fuse) → L.fu = (M.fuse) by intro hx; have := hfu (by omega); omega)
      have Y7 := hid (show 0 ≤ (M.fail) → L.fa = (M.fail) by intro hx; have := hfa (by omega); omega)
      clear ea hfu hfa h0 h2
      go_enter Try.func74, Try.ntmps74
      go_wp2_with fail
      go_ret
      exact ⟨by rw [EA.out]; rfl, FIN.out true true _ _ _ ((heap_setCell_same _ _ _ _ _ _ HR.out).trans rfl) ((ch0 L.rb w).setC rfl) (by rw [EA.out]; exact X5.out.symm) (by rw [EA.out]; exact X7.out.symm) (by rw [EA.out]; exact Y5.out) (by rw [EA.out]; exact Y7.out), ((ch0 L.rb w).setC rfl)⟩
    · have e7 : decide (0 ≤ M.fail) = false := decide_eq_false h2
      rw [e7] at c7 HR
      have ea : M.ask = (44, { M with ops := M.ops + 1 }) := by unfold FsM.ask; rw [if_pos h0]
      have EA := hid ea
      have X5 := hid (show decide (0 ≤ (M.fuse)) = true by exact decide_eq_true (by omega))
      have X7 := hid (show decide (0 ≤ (M.fail)) = false by exact decide_eq_false (by omega))
      have Y5 := hid (show 0 ≤ (M.fuse) → L.fu = (M.fuse) by intro hx; have := hfu (by omega); omega)
      have Y7 := hid (show 0 ≤ (M.fail) → L.fa = (M.fail) by intro hx; have := hfa (by omega); omega)
      clear ea hfu hfa h0 h2
      go_enter Try.func74, Try.ntmps74
      go_wp2_with fail
      go_ret
      exact ⟨by rw [EA.out]; rfl, FIN.out true false _ _ _ ((heap_setCell_same _ _ _ _ _ _ HR.out).trans rfl) ((ch0 L.rb w).setC rfl) (by rw [EA.out]; exact X5.out.symm) (by rw [EA.out]; exact X7.out.symm) (by rw [EA.out]; exact Y5.out) (by rw [EA.out]; exact Y7.out), ((ch0 L.rb w).setC rfl)⟩
  · by_cases h1 : 0 < M.fuse
    · have e5 : decide (0 ≤ M.fuse) = true := decide_eq_true (by omega)
      rw [e5] at c5 HR
      have d6 : (L.fu == 0) = false := by have := hfu (by omega); rw [beq_eq_false_iff_ne]; omega
      have w6 : IntKind.i64.wrap (L.fu - 1) = L.fu - 1 := by have := hfu (by omega); have := HM.out; simp [IntKind.wrap_i64]; omega
      by_cases h2 : 0 ≤ M.fail
      · have e7 : decide (0 ≤ M.fail) = true := decide_eq_true h2
        rw [e7] at c7 HR
        by_cases h3 : M.fail = 0
        · have d8 : (L.fa == 0) = true := by have := hfa h2; rw [this, h3]; rfl
          have ea : M.ask = (45, { M with ops := M.ops + 1, fuse := M.fuse - 1, fail := -1 }) := by unfold FsM.ask; rw [if_neg h0]; simp only; rw [if_pos h2, if_pos h3, if_pos h1]
          have EA := hid ea
          have X5 := hid (show decide (0 ≤ (M.fuse - 1)) = true by exact decide_eq_true (by omega))
          have X7 := hid (show decide (0 ≤ (-1)) = false by exact decide_eq_false (by omega))
          have Y5 := hid (show 0 ≤ (M.fuse - 1) → L.fu - 1 = (M.fuse - 1) by intro hx; have := hfu (by omega); omega)
          have Y7 := hid (show 0 ≤ (-1) → L.fa = (-1) by intro hx; have := hfa (by omega); omega)
          clear ea hfu hfa h0 h1 h2 h3
          go_enter Try.func74, Try.ntmps74
          go_wp2_with fail
          go_ret
          exact ⟨by rw [EA.out]; rfl, FIN.out true false _ _ _ ((heap_setCell_same _ _ _ _ _ _ ((heap_setCell_same _ _ _ _ _ _ ((heap_setCell_same _ _ _ _ _ _ HR.out).trans rfl)).trans rfl)).trans rfl) ((((ch0 L.rb w).setC rfl).setC rfl).setC rfl) (by rw [EA.out]; exact X5.out.symm) (by rw [EA.out]; exact X7.out.symm) (by rw [EA.out]; exact Y5.out) (by rw [EA.out]; exact Y7.out), ((((ch0 L.rb w).setC rfl).setC rfl).setC rfl)⟩
        · have d8 : (L.fa == 0) = false := by have := hfa h2; rw [beq_eq_false_iff_ne]; omega
          have w8 : IntKind.i64.wrap (L.fa - 1) = L.fa - 1 := by have := hfa h2; have := HM.out; simp [IntKind.wrap_i64]; omega
          have ea : M.ask = (0, { M with ops := M.ops + 1, fuse := M.fuse - 1, fail := M.fail - 1 }) := by unfold FsM.ask; rw [if_neg h0]; simp only; rw [if_pos h2, if_neg h3, if_pos h1]
          have EA := hid ea
          have X5 := hid (show decide (0 ≤ (M.fuse - 1)) = true by exact decide_eq_true (by omega))
          have X7 := hid (show decide (0 ≤ (M.fail - 1)) = true by exact decide_eq_true (by omega))
          have Y5 := hid (show 0 ≤ (M.fuse - 1) → L.fu - 1 = (M.fuse - 1) by intro hx; have := hfu (by omega); omega)
          have Y7 := hid (show 0 ≤ (M.fail - 1) → L.fa - 1 = (M.fail - 1) by intro hx; have := hfa (by omega); omega)
          clear ea hfu hfa h0 h1 h2 h3
          go_enter Try.func74, Try.ntmps74
          go_wp2_with fail
          go_ret
          exact ⟨by rw [EA.out]; rfl, FIN.out true true _ _ _ ((heap_setCell_same _ _ _ _ _ _ ((heap_setCell_same _ _ _ _ _ _ ((heap_setCell_same _ _ _ _ _ _ HR.out).trans rfl)).trans rfl)).trans rfl) ((((ch0 L.rb w).setC rfl).setC rfl).setC rfl) (by rw [EA.out]; exact X5.out.symm) (by rw [EA.out]; exact X7.out.symm) (by rw [EA.out]; exact Y5.out) (by rw [EA.out]; exact Y7.out), ((((ch0 L.rb w).setC rfl).setC rfl).setC rfl)⟩
      · have e7 : decide (0 ≤ M.fail) = false := decide_eq_false h2
        rw [e7] at c7 HR
        have ea : M.ask = (0, { M with ops := M.ops + 1, fuse := M.fuse - 1 }) := by unfold FsM.ask; rw [if_neg h0]; simp only; rw [if_neg h2, if_pos h1]
        have EA := hid ea
        have X5 := hid (show decide (0 ≤ (M.fuse - 1)) = true by exact decide_eq_true (by omega))
        have X7 := hid (show decide (0 ≤ (M.fail)) = false by exact decide_eq_false (by omega))
        have Y5 := hid (show 0 ≤ (M.fuse - 1) → L.fu - 1 = (M.fuse - 1) by intro hx; have := hfu (by omega); omega)
        have Y7 := hid (show 0 ≤ (M.fail) → L.fa = (M.fail) by intro hx; have := hfa (by omega); omega)
        clear ea hfu hfa h0 h1 h2
        go_enter Try.func74, Try.ntmps74
        go_wp2_with fail
        go_ret
        exact ⟨by rw [EA.out]; rfl, FIN.out true false _ _ _ ((heap_setCell_same _ _ _ _ _ _ ((heap_setCell_same _ _ _ _ _ _ HR.out).trans rfl)).trans rfl) (((ch0 L.rb w).setC rfl).setC rfl) (by rw [EA.out]; exact X5.out.symm) (by rw [EA.out]; exact X7.out.symm) (by rw [EA.out]; exact Y5.out) (by rw [EA.out]; exact Y7.out), (((ch0 L.rb w).setC rfl).setC rfl)⟩
    · have e5 : decide (0 ≤ M.fuse) = false := decide_eq_false (by omega)
      rw [e5] at c5 HR
      by_cases h2 : 0 ≤ M.fail
      · have e7 : decide (0 ≤ M.fail) = true := decide_eq_true h2
        rw [e7] at c7 HR
        by_cases h3 : M.fail = 0
        · have d8 : (L.fa == 0) = true := by have := hfa h2; rw [this, h3]; rfl
          have ea : M.ask = (45, { M with ops := M.ops + 1, fail := -1 }) := by unfold FsM.ask; rw [if_neg h0]; simp only; rw [if_pos h2, if_pos h3, if_neg h1]
          have EA := hid ea
          have X5 := hid (show decide (0 ≤ (M.fuse)) = false by exact decide_eq_false (by omega))
          have X7 := hid (show decide (0 ≤ (-1)) = false by exact decide_eq_false (by omega))
          have Y5 := hid (show 0 ≤ (M.fuse) → L.fu = (M.fuse) by intro hx; have := hfu (by omega); omega)
          have Y7 := hid (show 0 ≤ (-1) → L.fa = (-1) by intro hx; have := hfa (by omega); omega)
          clear ea hfu hfa h0 h1 h2 h3
          go_enter Try.func74, Try.ntmps74
          go_wp2_with fail
          go_ret
          exact ⟨by rw [EA.out]; rfl, FIN.out false false _ _ _ ((heap_setCell_same _ _ _ _ _ _ ((heap_setCell_same _ _ _ _ _ _ HR.out).trans rfl)).trans rfl) (((ch0 L.rb w).setC rfl).setC rfl) (by rw [EA.out]; exact X5.out.symm) (by rw [EA.out]; exact X7.out.symm) (by rw [EA.out]; exact Y5.out) (by rw [EA.out]; exact Y7.out), (((ch0 L.rb w).setC rfl).setC rfl)⟩
        · have d8 : (L.fa == 0) = false := by have := hfa h2; rw [beq_eq_false_iff_ne]; omega
          have w8 : IntKind.i64.wrap (L.fa - 1) = L.fa - 1 := by have := hfa h2; have := HM.out; simp [IntKind.wrap_i64]; omega
          have ea : M.ask = (0, { M with ops := M.ops + 1, fail := M.fail - 1 }) := by unfold FsM.ask; rw [if_neg h0]; simp only; rw [if_pos h2, if_neg h3, if_neg h1]
          have EA := hid ea
          have X5 := hid (show decide (0 ≤ (M.fuse)) = false by exact decide_eq_false (by omega))
          have X7 := hid (show decide (0 ≤ (M.fail - 1)) = true by exact decide_eq_true (by omega))
          have Y5 := hid (show 0 ≤ (M.fuse) → L.fu = (M.fuse) by intro hx; have := hfu (by omega); omega)
          have Y7 := hid (show 0 ≤ (M.fail - 1) → L.fa - 1 = (M.fail - 1) by intro hx; have := hfa (by omega); omega)
          clear ea hfu hfa h0 h1 h2 h3
          go_enter Try.func74, Try.ntmps74
          go_wp2_with fail
          go_ret
          exact ⟨by rw [EA.out]; rfl, FIN.out false true _ _ _ ((heap_setCell_same _ _ _ _ _ _ ((heap_setCell_same _ _ _ _ _ _ HR.out).trans rfl)).trans rfl) (((ch0 L.rb w).setC rfl).setC rfl) (by rw [EA.out]; exact X5.out.symm) (by rw [EA.out]; exact X7.out.symm) (by rw [EA.out]; exact Y5.out) (by rw [EA.out]; exact Y7.out), (((ch0 L.rb w).setC rfl).setC rfl)⟩
      · have e7 : decide (0 ≤ M.fail) = false := decide_eq_false h2
        rw [e7] at c7 HR
        have ea : M.ask = (0, { M with ops := M.ops + 1 }) := by unfold FsM.ask; rw [if_neg h0]; simp only; rw [if_neg h2, if_neg h1]
        have EA := hid ea
        have X5 := hid (show decide (0 ≤ (M.fuse)) = false by exact decide_eq_false (by omega))
        have X7 := hid (show decide (0 ≤ (M.fail)) = false by exact decide_eq_false (by omega))
        have Y5 := hid (show 0 ≤ (M.fuse) → L.fu = (M.fuse) by intro hx; have := hfu (by omega); omega)
        have Y7 := hid (show 0 ≤ (M.fail) → L.fa = (M.fail) by intro hx; have := hfa (by omega); omega)
        clear ea hfu hfa h0 h1 h2
        go_enter Try.func74, Try.ntmps74
        go_wp2_with fail
        go_ret
        exact ⟨by rw [EA.out]; rfl, FIN.out false false _ _ _ ((heap_setCell_same _ _ _ _ _ _ HR.out).trans rfl) ((ch0 L.rb w).setC rfl) (by rw [EA.out]; exact X5.out.symm) (by rw [EA.out]; exact X7.out.symm) (by rw [EA.out]; exact Y5.out) (by rw [EA.out]; exact Y7.out), ((ch0 L.rb w).setC rfl)⟩
end Go.Proofs.Ytjekfifnhdoamaa
