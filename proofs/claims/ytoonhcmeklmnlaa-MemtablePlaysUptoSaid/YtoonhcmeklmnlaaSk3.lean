/- The walks of package skip: Step, New, Begin. -/
import Derived.Test.YtoonhcmeklmnlaaSk2
set_option linter.unusedSimpArgs false
set_option linter.unusedVariables false
set_option linter.unnecessarySimpa false
namespace Go.Proofs.Ytoonhcmeklmnlaa
open Go.RowKit Go.Rg Go.St

def StepPost (w : World) (L : Loc) (K : SK) (i : Nat) (e : Ending) (w' : World) : Prop :=
  e = .returned (.tuple #[.bool (decide ((stepK K i).lv i = K.ht i)), .int .i64 0]) ∧ Rep w' L (stepK K i) ∧ Ch (Foot L K.n) w w'

theorem do_any {w : World} {L : Loc} {K : SK} (h : Rep w L K) (hI : Inv K) {i : Nat} (hi : i < K.n) (hlt : K.lv i < K.ht i) :
    ∃ f, doV (L.ob i) (K.ph i) = mth f (L.ob i) ∧ (f = 89 ∨ f = 108 ∨ f = 127) ∧ Calls Try.prog f #[.pointer (some ⟨L.ob i, 0, none⟩)] w (DoPost w L K i) := by
  have h2 := hI.ph i hi
  obtain hp | hp | hp : K.ph i = 0 ∨ K.ph i = 1 ∨ K.ph i = 2 := by omega
  · exact ⟨_, by rw [hp]; rfl, .inl rfl, do_look h hI hi hlt hp⟩
  · exact ⟨_, by rw [hp]; rfl, .inr (.inl rfl), do_link h hI hi hlt hp⟩
  · exact ⟨_, by rw [hp]; rfl, .inr (.inr rfl), do_swap h hI hi hlt hp⟩

theorem do_f {w : World} {L : Loc} {K : SK} (h : Rep w L K) (hI : Inv K) {i : Nat} (hi : i < K.n) (hlt : K.lv i < K.ht i) {f : FuncId} (hf : doV (L.ob i) (K.ph i) = mth f (L.ob i)) :
    Calls Try.prog f #[.pointer (some ⟨L.ob i, 0, none⟩)] w (DoPost w L K i) := by
  obtain ⟨f', h1, _, h2⟩ := do_any h hI hi hlt
  rw [hf] at h1
  have : f = f' := by simp [mth] at h1; exact h1
  rw [this]; exact h2

theorem ret_bt {a b : Bool} {v : Value} (h : a = b) : Ending.returned (.tuple #[.bool a, v]) = Ending.returned (.tuple #[.bool b, v]) := by rw [h]
theorem int_beq (a b : Nat) : ((a : Int) == (b : Int)) = decide (a = b) := by
  by_cases h : a = b
  · subst h; simp
  · simp [h]; omega

set_option maxHeartbeats 400000 in
theorem step_done {w : World} {L : Loc} {K : SK} (h : Rep w L K) (hI : Inv K) {i : Nat} (hi : i < K.n) (hd : K.lv i = K.ht i) :
    Calls Try.prog 18 #[.pointer (some ⟨L.lb, 0, none⟩), .int .i64 i] w (StepPost w L K i) := by
  obtain ⟨g, cap, e, hcap, hm, hgc⟩ := h.opsv hi
  have hL : w.cell? ⟨L.lb, 10, none⟩ = some L.ops := cell_of_row _ _ _ _ _ _ h.hd
  rw [e] at hL
  have hop := h.op i hi
  unfold opK at hop
  obtain ⟨c0, c1, c2, c3, c4, c5, c6, c7, f⟩ := op_cells hop
  have est : stepK K i = K := by unfold stepK; rw [if_pos hd]
  have H := hid h
  have HE := hid est
  have hd' : ((K.lv i : Int) < (K.ht i : Int)) = False := by simp; omega
  rw [hd] at c3
  have hm' : K.n ≤ 9223372036854775807 := by unfold maxLen at hm; omega
  clear hop h c0 c1 c4 c5 c6 c7 f est hI e hm
  go_enter Try.func18, Try.ntmps18
  go_wp2
  go_quiet (fail)
  go_wp2
  go_quiet (fail)
  go_wp2
  go_ret2
  refine ⟨by rw [HE.out]; simp [hd], ?_, ?_⟩
  · rw [HE.out]; exact H.out.ext (((Ext.rfl w).drN _).drN _)
  · exact ((Ch.rfl _ w).drN _).drN _

set_option maxHeartbeats 400000 in
theorem step_on {w : World} {L : Loc} {K : SK} (h : Rep w L K) (hI : Inv K) {i : Nat} (hi : i < K.n) (hlt : K.lv i < K.ht i) :
    Calls Try.prog 18 #[.pointer (some ⟨L.lb, 0, none⟩), .int .i64 i] w (StepPost w L K i) := by
  obtain ⟨g, cap, e, hcap, hm, hgc⟩ := h.opsv hi
  have hL : w.cell? ⟨L.lb, 10, none⟩ = some L.ops := cell_of_row _ _ _ _ _ _ h.hd
  rw [e] at hL
  have hop := h.op i hi
  unfold opK at hop
  obtain ⟨c0, c1, c2, c3, c4, c5, c6, c7, f⟩ := op_cells hop
  obtain ⟨fn, hfn, hcase, _⟩ := do_any h hI hi hlt
  have HD := hid (fun n => do_f (h.ext ((Ext.rfl w).drN n)) hI hi hlt hfn)
  have hst := stepK_n K i
  rw [hfn] at c7
  unfold mth at c7
  have hm' : K.n ≤ 9223372036854775807 := by unfold maxLen at hm; omega
  clear hop h c0 c1 c4 c5 c6 f hI e hm hfn
  rcases hcase with rfl | rfl | rfl
  all_goals
    go_enter Try.func18, Try.ntmps18
    go_wp2
    go_quiet (fail)
    go_wp2_with fail
    refine (HD.out nq).mono ?_
    rintro e w2 ⟨rfl, k1, k2⟩
    have hop2 := k1.op i (by rw [hst.1]; exact hi)
    unfold opK at hop2
    obtain ⟨_, _, c2', c3', _, _, _, _, _⟩ := op_cells hop2
    rw [hst.2.2.1] at c2'
    have K1 := hid k1
    have K2 := hid k2
    clear hop2 k1 k2 hgc hL c2 c3 c7 HD hst
    go_wp2
    go_quiet (fail)
    go_wp2
    go_ret2
    refine ⟨ret_bt (int_beq _ _), K1.out.ext ((Ext.rfl _).drN _), (((Ch.rfl _ w).drN _).tr K2.out).drN _⟩

theorem step_rep {w : World} {L : Loc} {K : SK} (h : Rep w L K) (hI : Inv K) {i : Nat} (hi : i < K.n) :
    Calls Try.prog 18 #[.pointer (some ⟨L.lb, 0, none⟩), .int .i64 i] w (StepPost w L K i) := by
  by_cases hd : K.lv i = K.ht i
  · exact step_done h hI hi hd
  · exact step_on h hI hi (by have := hI.lv i hi; omega)

/-! ### New -/
def newL (w : World) : Loc := { lb := w.heap.size + 1, mb := w.heap.size, ops := .slice none 0 0, ob := fun _ => 0, nb := fun _ => 0 }

theorem rep_new (w : World) (room : Int) : Rep ((w.alloc (.map #[] 0)).alloc (.cells (headC (newL w) (fun _ => none) room) 109)) (newL w) (SK.new room) := by
  have e : (w.alloc (.map #[] 0)).heap.size = w.heap.size + 1 := by show (w.heap.push _).size = _; simp
  refine ⟨?_, fun i hi => absurd hi (Nat.not_lt_zero _), fun i hi => absurd hi (Nat.not_lt_zero _), World.ownsRow_nil _ _ _ _, ⟨#[], 0, ?_, rfl⟩, fun i j hi => absurd hi (Nat.not_lt_zero _), fun i j hi => absurd hi (Nat.not_lt_zero _)⟩
  · show (World.alloc _ _).heap[w.heap.size + 1]? = _
    rw [← e]; exact heap_alloc_new _ _
  · show (World.alloc _ _).heap[w.heap.size]? = _
    rw [heap_alloc_old _ _ (by omega)]; exact heap_alloc_new _ _

def NewPost (room : Int) (w : World) (e : Ending) (w' : World) : Prop := e = .returned (.tuple #[.pointer (some ⟨w.heap.size + 1, 0, none⟩), .int .i64 0]) ∧ Rep w' (newL w) (SK.new room) ∧ Ext w w'

set_option maxHeartbeats 400000 in
theorem new_ok (room : Int) (h0 : 0 ≤ room) (h1 : room ≤ 1000) (w : World) : Calls Try.prog 57 #[.int .i64 room] w (NewPost room w) := by
  have hmm := @run_makeMap Try.prog
  go_enter Try.func57, Try.ntmps57
  go_wp2
  go_ret2
  exact ⟨rfl, rep_new w room, ((Ext.rfl w).al _).al _⟩
set_option maxHeartbeats 400000 in
theorem new_bad (room : Int) (h0 : room < 0 ∨ 1000 < room) (w : World) : Calls Try.prog 57 #[.int .i64 room] w (fun e w' => e = .returned (.tuple #[.pointer none, .int .i64 1]) ∧ w = w') := by
  rcases h0 with h | h
  all_goals
    go_enter Try.func57, Try.ntmps57
    go_wp2
    go_ret2
    exact ⟨rfl, rfl⟩
end Go.Proofs.Ytoonhcmeklmnlaa
