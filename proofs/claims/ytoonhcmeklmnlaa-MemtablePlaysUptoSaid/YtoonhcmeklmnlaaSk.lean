/- The walks of package skip: the steps of an operation. -/
import Derived.Test.YtoonhcmeklmnlaaSkP
import Derived.Test.YtoonhcmeklmnlaaRows
import Derived.WalkSpells
import Derived.WalkLawsBesides
import Derived.Laws.EntriesVeiled
import Derived.Deep.QuietTactic
import Derived.BigQuiet
import Derived.StillTailTactics
import Derived.LaidEqlPtr
set_option linter.unusedSimpArgs false
set_option linter.unusedVariables false
set_option linter.unnecessarySimpa false
namespace Go.Proofs.Ytoonhcmeklmnlaa
open Go.RowKit Go.Rg Go.St

/-- what so few blocks hold may have turned -/
structure Ch (F : Nat → Prop) (w w' : World) : Prop where
  os : w'.os = w.os
  tape : w'.tape = w.tape
  output : w'.output = w.output
  size : w.heap.size ≤ w'.heap.size
  block : ∀ k, k < w.heap.size → ¬ F k → w'.heap[k]? = w.heap[k]?
theorem Ch.rfl (F : Nat → Prop) (w : World) : Ch F w w := ⟨Eq.refl _, Eq.refl _, Eq.refl _, Nat.le_refl _, fun _ _ _ => Eq.refl _⟩
theorem Ch.tr {F : Nat → Prop} {a b c : World} (h : Ch F a b) (k : Ch F b c) : Ch F a c :=
  ⟨k.os.trans h.os, k.tape.trans h.tape, k.output.trans h.output, Nat.le_trans h.size k.size, fun i hi hf => (k.block i (Nat.lt_of_lt_of_le hi h.size) hf).trans (h.block i hi hf)⟩
theorem Ch.mono {F G : Nat → Prop} {a b : World} (h : Ch F a b) (hg : ∀ k, k < a.heap.size → F k → G k) : Ch G a b := ⟨h.os, h.tape, h.output, h.size, fun k hk hn => h.block k hk (fun hf => hn (hg k hk hf))⟩
theorem Ch.of_ext {F : Nat → Prop} {a b : World} (h : Ext a b) : Ch F a b := ⟨h.os, h.tape, h.output, h.size, fun k hk _ => h.block k hk⟩
theorem Ch.ext {F : Nat → Prop} {a b : World} (h : Ch F a b) (hf : ∀ k, k < a.heap.size → ¬ F k) : Ext a b := ⟨h.os, h.tape, h.output, h.size, fun k hk => h.block k hk (hf k hk)⟩

theorem Ch.setC {F : Nat → Prop} {w w0 : World} {b o : Nat} {v : Value} (h : Ch F w0 w) (hb : F b) : Ch F w0 (w.setCell ⟨b, o, none⟩ v) :=
  ⟨h.os, h.tape, h.output, by have := h.size; simpa [World.setCell] using this, fun k hk hf => by rw [heap_setCell_other _ _ _ _ (fun e => hf (by rw [e]; exact hb))]; exact h.block k hk hf⟩
theorem Ch.dr {F : Nat → Prop} {w w0 : World} (h : Ch F w0 w) : Ch F w0 w.drew := ⟨h.os, h.tape, h.output, h.size, h.block⟩
theorem Ch.drN {F : Nat → Prop} {w w0 : World} (h : Ch F w0 w) (n : Nat) : Ch F w0 (w.drewN n) := ⟨h.os, h.tape, h.output, h.size, h.block⟩

/-- an operation's cells -/
def opC (l : Value) (nb : Nat) (h lv : Int) (ab : Nat) (dn : Int) (nx : Option Addr) (dv : Value) : Array Value := #[l, .pointer (some ⟨nb, 0, none⟩), .int .i64 h, .int .i64 lv, .pointer (some ⟨ab, 0, none⟩), .int .i64 dn, .pointer nx, dv]
def mth (f : FuncId) (ob : Nat) : Value := .func (.func f) #[.pointer (some ⟨ob, 0, none⟩)] #[]

def OpPost (ob : Nat) (w : World) (cs : Array Value) (e : Ending) (w' : World) : Prop := e = .returned (.tuple #[]) ∧ w'.heap[ob]? = some (.cells cs 112 (0, 0)) ∧ Ch (· = ob) w w'

theorem op_cells {w : World} {ob nb ab : Nat} {l : Value} {h lv dn : Int} {nx : Option Addr} {dv : Value} (hob : w.heap[ob]? = some (.cells (opC l nb h lv ab dn nx dv) 112 (0, 0))) :
    w.cell? ⟨ob, 0, none⟩ = some l ∧ w.cell? ⟨ob, 1, none⟩ = some (.pointer (some ⟨nb, 0, none⟩)) ∧ w.cell? ⟨ob, 2, none⟩ = some (.int .i64 h) ∧ w.cell? ⟨ob, 3, none⟩ = some (.int .i64 lv) ∧
    w.cell? ⟨ob, 4, none⟩ = some (.pointer (some ⟨ab, 0, none⟩)) ∧ w.cell? ⟨ob, 5, none⟩ = some (.int .i64 dn) ∧ w.cell? ⟨ob, 6, none⟩ = some (.pointer nx) ∧ w.cell? ⟨ob, 7, none⟩ = some dv ∧ ∀ i, w.frozen? ⟨ob, i, none⟩ = false := by
  have c := fun j => cell_of_row w ob j _ _ _ hob
  exact ⟨c 0, c 1, c 2, c 3, c 4, c 5, c 6, c 7, fun i => frozen_of_row _ _ _ _ _ hob⟩

set_option maxHeartbeats 400000 in
theorem link_any (ob nb : Nat) (l : Value) (h lv : Int) (ab : Nat) (dn : Int) (nx : Option Addr) (dv : Value) (w : World) (ncs : Array Value)
    (hob : w.heap[ob]? = some (.cells (opC l nb h lv ab dn nx dv) 112 (0, 0)))
    (hnb : w.heap[nb]? = some (.cells ncs 105 (0, 0))) (hn : ncs.size = 9) (h0 : 0 ≤ lv) (h8 : lv < 8) (hne : ob ≠ nb) :
    Calls Try.prog 108 #[.pointer (some ⟨ob, 0, none⟩)] w (fun e w' => e = .returned (.tuple #[]) ∧ w'.heap[ob]? = some (.cells (opC l nb h lv ab dn nx (mth 127 ob)) 112 (0, 0)) ∧
      w'.heap[nb]? = some (.cells (ncs.setIfInBounds (1 + lv.toNat) (.pointer nx)) 105 (0, 0)) ∧ Ch (fun k => k = ob ∨ k = nb) w w') := by
  obtain ⟨c0, c1, c2, c3, c4, c5, c6, c7, f⟩ := op_cells hob
  have g : ∀ i, w.frozen? ⟨nb, i, none⟩ = false := fun i => frozen_of_row _ _ _ _ _ hnb
  have hcell : ∃ v, w.cell? ⟨nb, 1 + lv.toNat, none⟩ = some v := ⟨ncs[1 + lv.toNat]'(by omega), by rw [cell_of_row _ _ _ _ _ _ hnb]; exact Array.getElem?_eq_getElem (by omega)⟩
  obtain ⟨v, hv⟩ := hcell
  have HO := hid hob
  have HN := hid hnb
  clear hob hnb c0 c2 c4 c5
  go_enter Try.func108, Try.ntmps108
  go_wp2
  go_region
  go_wp2
  go_end0
  refine ⟨rfl, ?_, ?_, ?_⟩
  · show ((w.setCell _ _).setCell _ _).heap[ob]? = _
    refine (heap_setCell_same _ ob 7 (opC l nb h lv ab dn nx dv) _ _ ?_).trans rfl
    rw [heap_setCell_other _ _ _ _ hne]
    exact HO.out
  · show ((w.setCell _ _).setCell _ _).heap[nb]? = _
    rw [heap_setCell_other _ _ _ _ (Ne.symm hne)]
    exact heap_setCell_same _ nb _ _ _ _ HN.out
  · exact (((Ch.rfl (fun k => k = ob ∨ k = nb) w).setC (.inr rfl)).setC (.inl rfl)).dr

set_option maxHeartbeats 400000 in
theorem anew_any (ob nb : Nat) (lb : Nat) (h lv : Int) (a4 a5 a6 a7 : Value) (w : World)
    (hob : w.heap[ob]? = some (.cells #[.pointer (some ⟨lb, 0, none⟩), .pointer (some ⟨nb, 0, none⟩), .int .i64 h, .int .i64 lv, a4, a5, a6, a7] 112 (0, 0))) :
    Calls Try.prog 59 #[.pointer (some ⟨ob, 0, none⟩)] w (fun e w' => e = .returned (.tuple #[]) ∧ w'.heap[ob]? = some (.cells #[.pointer (some ⟨lb, 0, none⟩), .pointer (some ⟨nb, 0, none⟩), .int .i64 h, .int .i64 lv, .pointer (some ⟨lb, 0, none⟩), .int .i64 7, a6, mth 89 ob] 112 (0, 0)) ∧ Ch (· = ob) w w') := by
  have c := fun j => cell_of_row w ob j _ _ _ hob
  have f : ∀ i, w.frozen? ⟨ob, i, none⟩ = false := fun i => frozen_of_row _ _ _ _ _ hob
  have c0 : w.cell? ⟨ob, 0, none⟩ = some (.pointer (some ⟨lb, 0, none⟩)) := c 0
  have c4 : w.cell? ⟨ob, 4, none⟩ = some a4 := c 4
  have c5 : w.cell? ⟨ob, 5, none⟩ = some a5 := c 5
  have c7 : w.cell? ⟨ob, 7, none⟩ = some a7 := c 7
  have HO := hid hob
  clear hob c
  go_enter Try.func59, Try.ntmps59
  go_wp2
  go_end0
  refine ⟨rfl, ?_, ?_⟩
  · exact heap_setCell_same _ ob 7 _ _ _ (heap_setCell_same _ ob 5 _ _ _ (heap_setCell_same _ ob 4 _ _ _ HO.out))
  · exact (((Ch.rfl (· = ob) w).setC rfl).setC rfl).setC rfl

/-- what stands where an operation looks -/
structure Sees (w : World) (ob nb ab : Nat) (dn : Int) (key : ByteArray) (x : Option Addr) (k2 : ByteArray) : Prop where
  at_ : w.cell? ⟨ab, 1 + dn.toNat, none⟩ = some (.pointer x)
  key : w.cell? ⟨nb, 0, none⟩ = some (.string key)
  nxt : ∀ p, x = some p → p.off = 0 ∧ p.spot = none ∧ w.cell? ⟨p.block, 0, none⟩ = some (.string k2)
  n1 : nb ≠ ob
  n2 : ab ≠ ob
  n3 : ∀ p, x = some p → p.block ≠ ob

theorem cell_set_other {w : World} {b b' o o' : Nat} {v : Value} (h : b ≠ b') : (w.setCell ⟨b', o', none⟩ v).cell? ⟨b, o, none⟩ = w.cell? ⟨b, o, none⟩ :=
  World.cell?_of_block (w := w) (a := ⟨b, o, none⟩) (heap_setCell_other w ⟨b', o', none⟩ b v h)

set_option maxHeartbeats 400000 in
theorem look_on (ob nb : Nat) (l : Value) (h lv : Int) (ab : Nat) (dn : Int) (nx : Option Addr) (dv : Value) (w : World) (key k2 : ByteArray) (pb : Nat)
    (hob : w.heap[ob]? = some (.cells (opC l nb h lv ab dn nx dv) 112 (0, 0))) (hs : Sees w ob nb ab dn key (some ⟨pb, 0, none⟩) k2) (h0 : 0 ≤ dn) (h8 : dn < 8) (hlt : kl k2 key = true) :
    Calls Try.prog 89 #[.pointer (some ⟨ob, 0, none⟩)] w (OpPost ob w (opC l nb h lv pb dn (some ⟨pb, 0, none⟩) dv)) := by
  obtain ⟨c0, c1, c2, c3, c4, c5, c6, c7, f⟩ := op_cells hob
  have s1 := hs.at_
  have s2 := hs.key
  have s3 := (hs.nxt _ rfl).2.2
  have n1 := hs.n1
  have n2 := hs.n2
  have n3 := hs.n3 _ rfl
  simp only at n3 s3
  have HL : Op.bytesLess k2.toList key.toList = true := hlt
  have HO := hid hob
  clear hob c0 c2 hs hlt
  go_enter Try.func89, Try.ntmps89
  go_wp2
  go_region
  go_wp2
  go_quiet (fail)
  go_wp2
  go_end0
  refine ⟨rfl, ?_, ?_⟩
  · exact (heap_setCell_same _ ob 4 _ _ _ (heap_setCell_same w ob 6 (opC l nb h lv ab dn nx dv) _ _ HO.out)).trans rfl
  · exact (((Ch.rfl (· = ob) w).setC rfl).drN _).setC rfl

set_option maxHeartbeats 400000 in
theorem look_down (ob nb : Nat) (l : Value) (h lv : Int) (ab : Nat) (dn : Int) (nx : Option Addr) (dv : Value) (w : World) (key k2 : ByteArray) (x : Option Addr)
    (hob : w.heap[ob]? = some (.cells (opC l nb h lv ab dn nx dv) 112 (0, 0))) (hs : Sees w ob nb ab dn key x k2) (h0 : 0 ≤ dn) (h8 : dn < 8) (hlt : ∀ p, x = some p → kl k2 key = false) (hd : lv < dn) :
    Calls Try.prog 89 #[.pointer (some ⟨ob, 0, none⟩)] w (OpPost ob w (opC l nb h lv ab (dn - 1) x dv)) := by
  obtain ⟨c0, c1, c2, c3, c4, c5, c6, c7, f⟩ := op_cells hob
  have s1 := hs.at_
  have s2 := hs.key
  have n1 := hs.n1
  have n2 := hs.n2
  have HO := hid hob
  clear hob c0 c2
  cases x with
  | none =>
    clear hs hlt
    go_enter Try.func89, Try.ntmps89
    go_wp2
    go_region
    go_wp2
    go_quiet (fail)
    go_wp2
    go_quiet (fail)
    go_wp2
    go_end0
    refine ⟨rfl, ?_, ?_⟩
    · exact (heap_setCell_same _ ob 5 _ _ _ (heap_setCell_same w ob 6 (opC l nb h lv ab dn nx dv) _ _ HO.out)).trans rfl
    · exact (((Ch.rfl (· = ob) w).setC rfl).drN _).setC rfl
  | some p =>
    obtain ⟨pb, po, ps⟩ := p
    obtain ⟨rfl, rfl, s3⟩ := hs.nxt _ rfl
    have n3 := hs.n3 _ rfl
    have HL : Op.bytesLess k2.toList key.toList = false := hlt _ rfl
    simp only at n3 s3
    clear hs hlt
    go_enter Try.func89, Try.ntmps89
    go_wp2
    go_region
    go_wp2
    go_quiet (fail)
    go_wp2
    go_quiet (fail)
    go_wp2
    go_end0
    refine ⟨rfl, ?_, ?_⟩
    · exact (heap_setCell_same _ ob 5 _ _ _ (heap_setCell_same w ob 6 (opC l nb h lv ab dn nx dv) _ _ HO.out)).trans rfl
    · exact (((Ch.rfl (· = ob) w).setC rfl).drN _).setC rfl

set_option maxHeartbeats 400000 in
theorem look_done (ob nb : Nat) (l : Value) (h lv : Int) (ab : Nat) (dn : Int) (nx : Option Addr) (dv : Value) (w : World) (key k2 : ByteArray) (x : Option Addr)
    (hob : w.heap[ob]? = some (.cells (opC l nb h lv ab dn nx dv) 112 (0, 0))) (hs : Sees w ob nb ab dn key x k2) (h0 : 0 ≤ dn) (h8 : dn < 8) (hlt : ∀ p, x = some p → kl k2 key = false) (hd : ¬ lv < dn) :
    Calls Try.prog 89 #[.pointer (some ⟨ob, 0, none⟩)] w (OpPost ob w (opC l nb h lv ab dn x (mth 108 ob))) := by
  obtain ⟨c0, c1, c2, c3, c4, c5, c6, c7, f⟩ := op_cells hob
  have s1 := hs.at_
  have s2 := hs.key
  have n1 := hs.n1
  have n2 := hs.n2
  have HO := hid hob
  clear hob c0 c2
  cases x with
  | none =>
    clear hs hlt
    go_enter Try.func89, Try.ntmps89
    go_wp2
    go_region
    go_wp2
    go_quiet (fail)
    go_wp2
    go_quiet (fail)
    go_wp2
    go_end0
    refine ⟨rfl, ?_, ?_⟩
    · exact (heap_setCell_same _ ob 7 _ _ _ (heap_setCell_same w ob 6 (opC l nb h lv ab dn nx dv) _ _ HO.out)).trans rfl
    · exact (((Ch.rfl (· = ob) w).setC rfl).drN _).setC rfl
  | some p =>
    obtain ⟨pb, po, ps⟩ := p
    obtain ⟨rfl, rfl, s3⟩ := hs.nxt _ rfl
    have n3 := hs.n3 _ rfl
    have HL : Op.bytesLess k2.toList key.toList = false := hlt _ rfl
    simp only at n3 s3
    clear hs hlt
    go_enter Try.func89, Try.ntmps89
    go_wp2
    go_region
    go_wp2
    go_quiet (fail)
    go_wp2
    go_quiet (fail)
    go_wp2
    go_end0
    refine ⟨rfl, ?_, ?_⟩
    · exact (heap_setCell_same _ ob 7 _ _ _ (heap_setCell_same w ob 6 (opC l nb h lv ab dn nx dv) _ _ HO.out)).trans rfl
    · exact (((Ch.rfl (· = ob) w).setC rfl).drN _).setC rfl

theorem opC_eq (lb nb : Nat) (h lv : Int) (ab : Nat) (dn : Int) (nx : Option Addr) (dv : Value) : opC (.pointer (some ⟨lb, 0, none⟩)) nb h lv ab dn nx dv = #[.pointer (some ⟨lb, 0, none⟩), .pointer (some ⟨nb, 0, none⟩), .int .i64 h, .int .i64 lv, .pointer (some ⟨ab, 0, none⟩), .int .i64 dn, .pointer nx, dv] := rfl

/-- two links, held against one another, whatever was drawn -/
def LinkEq (w : World) (x nx : Option Addr) (b : Bool) : Prop := ∀ n, (binOp .eql 102 (.pointer x) (.pointer nx)).run Try.prog (w.drewN n) = .ok (.bool b) (w.drewN n)

set_option maxHeartbeats 400000 in
theorem swap_yes (ob nb lb : Nat) (h lv : Int) (ab : Nat) (dn : Int) (x nx : Option Addr) (dv : Value) (w : World) (acs : Array Value) (at_ : TypeId)
    (hob : w.heap[ob]? = some (.cells (opC (.pointer (some ⟨lb, 0, none⟩)) nb h lv ab dn nx dv) 112 (0, 0)))
    (hab : w.heap[ab]? = some (.cells acs at_ (0, 0))) (hx : acs[1 + lv.toNat]? = some (.pointer x)) (h0 : 0 ≤ lv) (h8 : lv < 8) (hne : ab ≠ ob) (he : LinkEq w x nx true) :
    Calls Try.prog 127 #[.pointer (some ⟨ob, 0, none⟩)] w (fun e w' => e = .returned (.tuple #[]) ∧ w'.heap[ob]? = some (.cells (opC (.pointer (some ⟨lb, 0, none⟩)) nb h (lv + 1) lb 7 nx (mth 89 ob)) 112 (0, 0)) ∧
      w'.heap[ab]? = some (.cells (acs.setIfInBounds (1 + lv.toNat) (.pointer (some ⟨nb, 0, none⟩))) at_ (0, 0)) ∧ Ch (fun k => k = ob ∨ k = ab) w w') := by
  obtain ⟨c0, c1, c2, c3, c4, c5, c6, c7, f⟩ := op_cells hob
  have g : ∀ i, w.frozen? ⟨ab, i, none⟩ = false := fun i => frozen_of_row _ _ _ _ _ hab
  have hv : w.cell? ⟨ab, 1 + lv.toNat, none⟩ = some (.pointer x) := by rw [cell_of_row _ _ _ _ _ _ hab]; exact hx
  have HO := hid hob
  have HA := hid hab
  unfold LinkEq at he
  clear hob hab c0 c2 c5 c7 hx
  go_enter Try.func127, Try.ntmps127
  go_wp2
  go_quiet (fail)
  clear he
  go_wp2
  go_region
  go_wp2_with fail
  refine (anew_any ob nb lb h (lv + 1) _ _ _ _ _ (by
    refine (heap_setCell_same _ ob 3 (opC (.pointer (some ⟨lb, 0, none⟩)) nb h lv ab dn nx dv) _ _ ?_).trans rfl
    show (w.setCell _ _).heap[ob]? = _
    rw [heap_setCell_other _ _ _ _ (Ne.symm hne)]; exact HO.out)).mono ?_
  rintro e w2 ⟨rfl, k1, k2⟩
  have HK := hid k1
  have HC := hid k2
  clear k1 k2
  go_wp2
  go_end0
  have hsz : ab < w.heap.size := (Array.getElem?_eq_some_iff.1 HA.out).1
  refine ⟨rfl, HK.out, ?_, ?_⟩
  · refine (HC.out.block ab (by simpa [World.setCell] using hsz) hne).trans ?_
    refine (heap_setCell_other _ _ _ _ hne).trans ?_
    exact heap_setCell_same w ab _ _ _ _ HA.out
  · exact ((((Ch.rfl (fun k => k = ob ∨ k = ab) w).setC (.inr rfl)).drN _).setC (.inl rfl)).tr (HC.out.mono fun k _ hk => .inl hk)

set_option maxHeartbeats 400000 in
theorem swap_no (ob nb lb : Nat) (h lv : Int) (ab : Nat) (dn : Int) (x nx : Option Addr) (dv : Value) (w : World)
    (hob : w.heap[ob]? = some (.cells (opC (.pointer (some ⟨lb, 0, none⟩)) nb h lv ab dn nx dv) 112 (0, 0)))
    (hv : w.cell? ⟨ab, 1 + lv.toNat, none⟩ = some (.pointer x)) (h0 : 0 ≤ lv) (h8 : lv < 8) (he : LinkEq w x nx false) :
    Calls Try.prog 127 #[.pointer (some ⟨ob, 0, none⟩)] w (OpPost ob w (opC (.pointer (some ⟨lb, 0, none⟩)) nb h lv lb 7 nx (mth 89 ob))) := by
  obtain ⟨c0, c1, c2, c3, c4, c5, c6, c7, f⟩ := op_cells hob
  have HO := hid hob
  unfold LinkEq at he
  clear hob c0 c2 c5 c7
  go_enter Try.func127, Try.ntmps127
  go_wp2
  go_quiet (fail)
  clear he
  go_wp2_with fail
  refine (anew_any ob nb lb h lv _ _ _ _ (w.drewN nq) HO.out).mono ?_
  rintro e w2 ⟨rfl, k1, k2⟩
  have HK := hid k1
  have HC := hid k2
  clear k1 k2
  go_wp2
  go_end0
  exact ⟨rfl, HK.out, ((Ch.rfl (· = ob) w).drN _).tr HC.out⟩
end Go.Proofs.Ytoonhcmeklmnlaa
