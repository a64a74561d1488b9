/- The walks of check sums: that they come to some number. -/
import Derived.Test.YtoonhcmeklmnlaaLib
import Derived.Test.YtoonhcmeklmnlaaRows
import Derived.WalkSpells
import Derived.WalkLawsBesides
import Derived.Deep.MidRow
import Derived.Laws.EntriesVeiled
set_option linter.unusedSimpArgs false
set_option linter.unusedVariables false
set_option linter.unnecessarySimpa false
namespace Go.Proofs.Ytoonhcmeklmnlaa
open Go.RowKit Go.Rg Go.St

def SomeU32 (w : World) (e : Ending) (w' : World) : Prop := ∃ n : Int, e = .returned (.int .u32 n) ∧ w = w'

set_option maxHeartbeats 400000 in
theorem crc_step (n : Int) (w : World) : Calls Try.prog 111 #[.int .u32 n] w (SomeU32 w) := by
  go_enter Try.func111, Try.ntmps111
  go_wp2
  all_goals
    go_ret
    exact ⟨_, rfl, rfl⟩

/-- a row of so many numbers -/
def U32s (w : World) (b : Nat) (T : TypeId) : Prop := ∃ cs : Array Value, w.heap[b]? = some (.cells cs T (0, 0)) ∧ cs.size = 256 ∧ ∀ i, i < 256 → ∃ n : Int, cs[i]? = some (.int .u32 n)
def TablePost (w : World) (e : Ending) (w' : World) : Prop := ∃ cs : Array Value, e = .returned (.agg cs) ∧ cs.size = 256 ∧ (∀ i, i < 256 → ∃ n : Int, cs[i]? = some (.int .u32 n)) ∧ Ext w w'

theorem U32s.cell {w : World} {b : Nat} {T : TypeId} (h : U32s w b T) {i : Nat} (hi : i < 256) : ∃ n : Int, w.cell? ⟨b, i, none⟩ = some (.int .u32 n) := by
  obtain ⟨cs, h1, h2, h3⟩ := h
  obtain ⟨n, hn⟩ := h3 i hi
  exact ⟨n, by rw [cell_of_row _ _ _ _ _ _ h1]; exact hn⟩
theorem U32s.frozen {w : World} {b : Nat} {T : TypeId} (h : U32s w b T) (i : Nat) : w.frozen? ⟨b, i, none⟩ = false := by
  obtain ⟨cs, h1, h2, h3⟩ := h
  exact frozen_of_row _ _ _ _ _ h1
theorem U32s.lt {w : World} {b : Nat} {T : TypeId} (h : U32s w b T) : b < w.heap.size := by
  obtain ⟨cs, h1, h2, h3⟩ := h
  exact (Array.getElem?_eq_some_iff.1 h1).1
theorem U32s.ext {w w' : World} {b : Nat} {T : TypeId} (h : U32s w b T) (he : Ext w w') : U32s w' b T := by
  have hl := h.lt
  obtain ⟨cs, h1, h2, h3⟩ := h
  exact ⟨cs, (he.block b hl).trans h1, h2, h3⟩
theorem U32s.set {w : World} {b : Nat} {T : TypeId} (h : U32s w b T) (i : Nat) (n : Int) : U32s (w.setCell ⟨b, i, none⟩ (.int .u32 n)) b T := by
  obtain ⟨cs, h1, h2, h3⟩ := h
  refine ⟨cs.setIfInBounds i (.int .u32 n), heap_setCell_same w b i _ _ _ h1, by simpa using h2, fun j hj => ?_⟩
  rw [Array.getElem?_setIfInBounds]
  by_cases e : i = j
  · subst e; rw [if_pos rfl, if_pos (by omega)]; exact ⟨n, rfl⟩
  · rw [if_neg e]; exact h3 j hj
theorem U32s.far {w : World} {b b' i : Nat} {T : TypeId} {v : Value} (h : U32s w b T) (hne : b ≠ b') : U32s (w.setCell ⟨b', i, none⟩ v) b T := by
  obtain ⟨cs, h1, h2, h3⟩ := h
  exact ⟨cs, (heap_setCell_other _ _ _ _ hne).trans h1, h2, h3⟩
theorem U32s.sets {b : Nat} {T : TypeId} : ∀ (vs : List Value) (o : Nat) (w : World), U32s w b T → (∀ v, v ∈ vs → ∃ n : Int, v = .int .u32 n) → U32s (w.setCells b o vs) b T
  | [], _, _, h, _ => h
  | v :: vs, o, w, h, hv => by
    obtain ⟨n, rfl⟩ := hv v (List.mem_cons_self ..)
    exact U32s.sets vs (o + 1) _ (h.set o n) (fun u hu => hv u (List.mem_cons_of_mem _ hu))
theorem ext_sets {w0 : World} {b : Nat} (hb : w0.heap.size ≤ b) : ∀ (vs : List Value) (o : Nat) (w : World), Ext w0 w → Ext w0 (w.setCells b o vs)
  | [], _, _, h => h
  | v :: vs, o, w, h => ext_sets hb vs (o + 1) _ (Below.setCell h hb _)
theorem U32s.there {w : World} {b : Nat} {T : TypeId} (h : U32s w b T) : w.there b 0 256 := fun j hj => by
  obtain ⟨n, hn⟩ := h.cell hj
  rw [Nat.zero_add]
  exact ⟨by rw [hn]; rfl, h.frozen j⟩
theorem u32s_list {cs : Array Value} (h2 : cs.size = 256) (h3 : ∀ i, i < 256 → ∃ n : Int, cs[i]? = some (.int .u32 n)) : ∀ v, v ∈ cs.toList → ∃ n : Int, v = .int .u32 n := by
  intro v hv
  obtain ⟨i, hi, rfl⟩ := List.mem_iff_getElem.1 hv
  have hi' : i < cs.size := by simpa using hi
  obtain ⟨n, hn⟩ := h3 i (by omega)
  rw [Array.getElem?_eq_getElem hi'] at hn
  exact ⟨n, by simpa using hn⟩
theorem u32s_one {cs : Array Value} (h2 : cs.size = 256) (h3 : ∀ i, i < 256 → ∃ n : Int, cs[i]? = some (.int .u32 n)) : cs.all (·.oneCell') = true :=
  Array.all_eq_true_iff_forall_mem.2 fun v hv => by
    obtain ⟨n, rfl⟩ := u32s_list h2 h3 v (by simpa using hv)
    rfl
theorem zero155 : Try.zeroCells161 = Array.replicate 256 (.int .u32 0) := by kernel_rfl
theorem u32s_new (w : World) : U32s (w.alloc (.cells Try.zeroCells161 161)) w.heap.size 161 :=
  ⟨_, heap_alloc_new w _, by rw [zero155]; simp, fun i hi => ⟨0, by rw [zero155]; simp [hi]⟩⟩
theorem info155 : (Try.prog.info? 161).map (·.size) = some 256 := by kernel_rfl

set_option maxRecDepth 100000 in
set_option maxHeartbeats 1000000 in
theorem crc_table (w : World) : Calls Try.prog 93 #[] w (TablePost w) := by
  have h0 := hid (u32s_new w)
  have h1 := hid (u32s_new (w.alloc (.cells Try.zeroCells161 161)))
  go_enter Try.func93, Try.ntmps93
  go_wp2
  go_loopw [5] (fun t wr => ∃ i : Nat, i ≤ 256 ∧ t = .int .i64 i ∧ Ext w wr ∧ U32s wr w.heap.size 161 ∧ U32s wr (w.heap.size + 1) 161) (fun t _ => 256 - (intOf t).toNat)
  case atStart => exact ⟨0, by omega, rfl, ((Ext.rfl w).al _).al _, h0.out.ext ((Ext.rfl _).al _), by have := h1.out; rwa [show (w.alloc (.cells Try.zeroCells161 161)).heap.size = w.heap.size + 1 by show (w.heap.push _).size = _; simp] at this⟩
  case round =>
    clear h0 h1
    obtain ⟨i, hi, rfl, he, hz, hu⟩ := hrel
    have HE := hid he
    have HZ := hid hz
    have HU := hid hu
    clear he hz hu
    by_cases hlt : i < 256
    · have hdd : decide ((i : Int) < 256) = true := by simp; omega
      go_wp2
      go_loop [4, 10] (fun s t => ∃ j : Nat, j ≤ 8 ∧ t = .int .i64 j ∧ ∃ n : Int, s = .int .u32 n) (fun _ t => 8 - (intOf t).toNat)
      case atStart => exact ⟨0, by omega, rfl, _, rfl⟩
      case round =>
        obtain ⟨j, hj, rfl, n, rfl⟩ := hrel
        by_cases hlt2 : j < 8
        · go_wp2_with fail
          refine (crc_step _ _).mono ?_
          rintro e w2 ⟨m, rfl, rfl⟩
          go_wp2
          go_round
          case rel => exact ⟨j + 1, by omega, by go_num, _, rfl⟩
          case measure => simp [intOf]; omega
        · have : j = 8 := by omega
          subst this
          obtain ⟨m, hm⟩ := HU.out.cell hlt
          have hf := HU.out.frozen i
          go_wp2
          go_roundw
          case rel => exact ⟨i + 1, by omega, by go_num, Below.setCell HE.out (Nat.le_succ _) _, HZ.out.far (by omega), HU.out.set _ _⟩
          case measure => simp [intOf]; omega
    · have : i = 256 := by omega
      subst this
      obtain ⟨cs, hc1, hc2, hc3⟩ := HU.out
      go_wp2_with (first | (with_reducible refine wpList_load_row rfl 161 (.tmp 1) rfl (w.heap.size + 1) rfl _ cs _ _ hc1 Try.underlying161 rfl (by rw [info155, hc2]) ?_) | (with_reducible refine wpList_store_mid rfl 161 (.tmp 0) (.tmp 20) rfl w.heap.size 0 cs rfl rfl (by rw [hc2]; exact HZ.out.there) (by rw [info155, hc2]) (u32s_one hc2 hc3) ?_))
      obtain ⟨C, e1, e2, e3⟩ := U32s.sets cs.toList 0 _ HZ.out (u32s_list hc2 hc3)
      have EE := hid (ext_sets (Nat.le_refl _) cs.toList 0 _ HE.out)
      generalize wr.setCells w.heap.size 0 cs.toList = wz at *
      refine bodyPost_ret (v := .agg C) (results_cell_row rfl _ _ w.heap.size _ C _ _ rfl e1 Try.underlying161 rfl (by rw [info155, e2])) rfl ⟨C, rfl, e2, e3, EE.out⟩

/-- a slice of bytes -/
def SlByte (w : World) (v : Value) (bs : List UInt8) : Prop := Sl1 w v bs.length (fun i => .int .u8 (nth bs i).toNat)
theorem SlByte.go {w w' : World} {v : Value} {xs : List UInt8} (h : SlByte w v xs) (he : Ext w w') : SlByte w' v xs := Sl1.go h he
theorem xor_u8 (a b : Int) : 0 ≤ bits .xor .u8 a b ∧ bits .xor .u8 a b < 256 := by
  simp only [bits, IntKind.wrap_u8]
  omega
def SomeU32E (w : World) (e : Ending) (w' : World) : Prop := ∃ n : Int, e = .returned (.int .u32 n) ∧ Ext w w'

set_option maxRecDepth 100000 in
set_option maxHeartbeats 1000000 in
theorem crc_in (v : Value) (bs : List UInt8) (w : World) (h : SlByte w v bs) : Calls Try.prog 68 #[v] w (SomeU32E w) := by
  obtain ⟨a, cap, rfl, hcap, hm, hc⟩ := h.ex
  unfold maxLen at hm
  have HC := hid hc
  clear hc h
  go_enter Try.func68, Try.ntmps68
  go_wp2_with fail
  refine (crc_table _).mono ?_
  rintro e w1 ⟨cs, rfl, hc2, hc3, he1⟩
  have E1 := hid he1
  have H0 := hid (u32s_new w1)
  go_wp2_with (with_reducible refine wpList_store_mid rfl 161 (.tmp 3) (.tmp 7) rfl w1.heap.size 0 cs rfl rfl (by rw [hc2]; exact H0.out.there) (by rw [info155, hc2]) (u32s_one hc2 hc3) ?_)
  have hU := hid (U32s.sets cs.toList 0 _ H0.out (u32s_list hc2 hc3))
  have hE := hid (ext_sets (w0 := w) he1.size cs.toList 0 _ (E1.out.al (.cells Try.zeroCells161 161)))
  generalize (w1.alloc (.cells Try.zeroCells161 161)).setCells w1.heap.size 0 cs.toList = wz at *
  generalize w1.heap.size = B at *
  clear he1 H0 E1
  go_loop [4, 10] (fun s t => ∃ k : Nat, k ≤ bs.length ∧ t = .int .i64 k ∧ ∃ n : Int, s = .int .u32 n) (fun _ t => bs.length - (intOf t).toNat)
  case atStart => exact ⟨0, Nat.zero_le _, rfl, _, rfl⟩
  case round =>
    obtain ⟨k, hk, rfl, n, rfl⟩ := hrel
    by_cases hlt : k < bs.length
    · obtain ⟨b, off, rfl, hcell⟩ := HC.out (by omega)
      have c0 := ext_cell hE.out (hcell k hlt)
      obtain ⟨hx0, hx1⟩ := xor_u8 (n % 256) ((nth bs k).toNat : Int)
      obtain ⟨q, hq⟩ := hU.out.cell (i := (bits .xor .u8 (n % 256) ((nth bs k).toNat : Int)).toNat) (by omega)
      clear hcell
      go_wp2
      go_round
      case rel => exact ⟨k + 1, by omega, by go_num, _, rfl⟩
      case measure => simp [intOf]; omega
    · have : k = bs.length := by omega
      subst this
      go_wp2
      go_ret
      exact ⟨_, rfl, hE.out⟩
end Go.Proofs.Ytoonhcmeklmnlaa
