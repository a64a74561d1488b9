/- The walks of package skip: Seek, Before, Last. -/
import Derived.Test.YtoonhcmeklmnlaaSk9
set_option linter.unusedSimpArgs false
set_option linter.unusedVariables false
set_option linter.unnecessarySimpa false
namespace Go.Proofs.Ytoonhcmeklmnlaa
open Go.RowKit Go.Rg Go.St

theorem seek1 (k key : ByteArray) (b : Nat) (w : World) (hc : w.cell? ⟨b, 0, none⟩ = some (.string key)) : Calls Try.prog 62 (.string k :: [.pointer (some ⟨b, 0, none⟩)]).toArray w (BoolPost (kl k key) w) := by
  go_enter Try.func62, Try.ntmps62
  go_wp2
  go_ret
  exact ⟨rfl, rfl⟩
theorem before1 (k key : ByteArray) (b : Nat) (w : World) (hc : w.cell? ⟨b, 0, none⟩ = some (.string key)) : Calls Try.prog 63 (.string k :: [.pointer (some ⟨b, 0, none⟩)]).toArray w (BoolPost (kl k key) w) := by
  go_enter Try.func63, Try.ntmps63
  go_wp2
  go_ret
  exact ⟨rfl, rfl⟩
theorem last1 (k : ByteArray) (w : World) : Calls Try.prog 64 (.string k :: []).toArray w (BoolPost true w) := by
  go_enter Try.func64, Try.ntmps64
  go_wp2
  go_ret
  exact ⟨rfl, rfl⟩

/-- the first one that is not ahead of a key, where there is one -/
def tellO (K : SK) (o : Option Nat) : ByteArray × Bool := match o with | some j => (K.key j, true) | none => (ByteArray.empty, false)

theorem told_any {w : World} {L : Loc} {K : SK} (h : Rep w L K) {r : Option Nat} (hr : ∀ a, r = some a → a < K.n) : Calls Try.prog 60 #[.pointer (some ⟨L.lb, 0, none⟩), .pointer (some ⟨refB L r, 0, none⟩)] w (TextPost (tellO K r).1 (tellO K r).2 w) := by
  cases r with
  | none => exact told_head _ _
  | some a => exact told_node h (hr a rfl)
theorem told_adr {w : World} {L : Loc} {K : SK} (h : Rep w L K) {r : Option Nat} (hr : ∀ a, r = some a → a < K.n) : Calls Try.prog 60 #[.pointer (some ⟨L.lb, 0, none⟩), .pointer (adr L r)] w (TextPost (tellO K r).1 (tellO K r).2 w) := by
  cases r with
  | none => exact told_none _ _
  | some a => exact told_node h (hr a rfl)

/-- a place behind which the first stands that is not let in -/
structure Stop (K : SK) (p : ByteArray → Bool) (r : Option Nat) : Prop where
  at_ : ∀ a, r = some a → a < K.n ∧ 0 < K.lv a ∧ p (K.key a) = true
  nx : ∀ j, K.nxt r 0 = some j → j < K.n ∧ p (K.key j) = false

theorem stop_of {K : SK} (hI : Inv K) {p : ByteArray → Bool} {r : Option Nat} (ha : ∀ a, r = some a → a < K.n ∧ 0 < K.lv a ∧ p (K.key a) = true) (hn : ∀ j, K.nxt r 0 = some j → p (K.key j) = false) : Stop K p r :=
  ⟨ha, fun j hj => ⟨(hI.link (by omega) (fun i hi => ⟨(ha i hi).1, (ha i hi).2.1⟩) hj).1, hn j hj⟩⟩

theorem seek_nil (key : ByteArray) (w : World) : Calls Try.prog 19 #[.pointer none, .string key] w (TextExt ByteArray.empty false w) := by
  go_enter Try.func19, Try.ntmps19
  go_wp2
  go_ret2
  exact ⟨rfl, (Ext.rfl w).al _⟩
theorem before_nil (key : ByteArray) (w : World) : Calls Try.prog 20 #[.pointer none, .string key] w (TextExt ByteArray.empty false w) := by
  go_enter Try.func20, Try.ntmps20
  go_wp2
  go_ret2
  exact ⟨rfl, (Ext.rfl w).al _⟩
theorem last_nil (w : World) : Calls Try.prog 21 #[.pointer none] w (TextExt ByteArray.empty false w) := by
  go_enter Try.func21, Try.ntmps21
  go_wp2
  go_ret2
  exact ⟨rfl, Ext.rfl w⟩

def SeekPost (K : SK) (p : ByteArray → Bool) (f : Option Nat → Option Nat) (w : World) (e : Ending) (w' : World) : Prop :=
  ∃ r, Stop K p r ∧ e = .returned (.tuple #[.string (tellO K (f r)).1, .bool (tellO K (f r)).2]) ∧ Ext w w'

set_option maxHeartbeats 400000 in
theorem seek_rep {w : World} {L : Loc} {K : SK} (h : Rep w L K) (hI : Inv K) (key : ByteArray) :
    Calls Try.prog 19 #[.pointer (some ⟨L.lb, 0, none⟩), .string key] w (SeekPost K (fun k => kl k key) (fun r => K.nxt r 0) w) := by
  have HH := hid h
  have HI := hid hI
  clear h hI
  go_enter Try.func19, Try.ntmps19
  go_wp2_with fail
  have hR := HH.out.ext ((Ext.rfl w).al (.cells #[.string key] 9))
  have hE : Ext w (w.alloc (.cells #[.string key] 9)) := (Ext.rfl w).al _
  have hc : (w.alloc (.cells #[.string key] 9)).cell? ⟨w.heap.size, 0, none⟩ = some (.string key) := by rw [cell_of_row _ _ _ _ _ _ (heap_alloc_new w _)]; rfl
  generalize w.alloc (.cells #[.string key] 9) = w1 at hR hE hc ⊢
  refine (before_rep hR HI.out (fun k => kl k key) 62 [.pointer (some ⟨w.heap.size, 0, none⟩)] (.inl rfl) (fun k => seek1 k key _ _ hc)).mono ?_
  rintro e w2 ⟨r, rfl, ha, hn, rfl⟩
  have hs := stop_of (p := fun k => kl k key) HI.out ha hn
  have c1 : w1.cell? ⟨refB L r, 1, none⟩ = some (.pointer (adr L (K.nxt r 0))) := by
    obtain ⟨cs, T, h1, _, h3⟩ := hR.ref (fun a h => (hs.at_ a h).1)
    rw [cell_of_row _ _ _ _ _ _ h1]; exact h3 0 (by omega)
  have HR := hid hR
  have HE := hid hE
  have HS := hid hs
  clear hR hE ha hn hs hc
  go_wp2_with fail
  refine (told_adr HR.out (fun a h => (HS.out.nx a h).1)).mono ?_
  rintro e w2 ⟨rfl, rfl⟩
  go_wp2
  go_ret2
  exact ⟨r, HS.out, rfl, HE.out⟩

set_option maxHeartbeats 400000 in
theorem before_key_rep {w : World} {L : Loc} {K : SK} (h : Rep w L K) (hI : Inv K) (key : ByteArray) :
    Calls Try.prog 20 #[.pointer (some ⟨L.lb, 0, none⟩), .string key] w (SeekPost K (fun k => kl k key) (fun r => r) w) := by
  have HH := hid h
  have HI := hid hI
  clear h hI
  go_enter Try.func20, Try.ntmps20
  go_wp2_with fail
  have hR := HH.out.ext ((Ext.rfl w).al (.cells #[.string key] 9))
  have hE : Ext w (w.alloc (.cells #[.string key] 9)) := (Ext.rfl w).al _
  have hc : (w.alloc (.cells #[.string key] 9)).cell? ⟨w.heap.size, 0, none⟩ = some (.string key) := by rw [cell_of_row _ _ _ _ _ _ (heap_alloc_new w _)]; rfl
  generalize w.alloc (.cells #[.string key] 9) = w1 at hR hE hc ⊢
  refine (before_rep hR HI.out (fun k => kl k key) 63 [.pointer (some ⟨w.heap.size, 0, none⟩)] (.inr (.inl rfl)) (fun k => before1 k key _ _ hc)).mono ?_
  rintro e w2 ⟨r, rfl, ha, hn, rfl⟩
  have HS := hid (stop_of (p := fun k => kl k key) HI.out ha hn)
  have HR := hid hR
  have HE := hid hE
  clear hR hE ha hn hc
  go_wp2_with fail
  refine (told_any HR.out (fun a h => (HS.out.at_ a h).1)).mono ?_
  rintro e w2 ⟨rfl, rfl⟩
  go_wp2
  go_ret2
  exact ⟨r, HS.out, rfl, HE.out⟩

set_option maxHeartbeats 400000 in
theorem last_rep {w : World} {L : Loc} {K : SK} (h : Rep w L K) (hI : Inv K) :
    Calls Try.prog 21 #[.pointer (some ⟨L.lb, 0, none⟩)] w (SeekPost K (fun _ => true) (fun r => r) w) := by
  have HH := hid h
  have HI := hid hI
  clear h hI
  go_enter Try.func21, Try.ntmps21
  go_wp2_with fail
  refine (before_rep HH.out HI.out (fun k => true) 64 [] (.inr (.inr rfl)) (fun k => last1 k _)).mono ?_
  rintro e w2 ⟨r, rfl, ha, hn, rfl⟩
  have HS := hid (stop_of (p := fun _ => true) HI.out ha hn)
  clear ha hn
  go_wp2_with fail
  refine (told_any HH.out (fun a h => (HS.out.at_ a h).1)).mono ?_
  rintro e w2 ⟨rfl, rfl⟩
  go_wp2
  go_ret2
  exact ⟨r, HS.out, rfl, Ext.rfl w⟩
end Go.Proofs.Ytoonhcmeklmnlaa
