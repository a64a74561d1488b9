/- The set of files in memory: is a number there; a file taken away. -/
import Derived.Test.YtoonhcmeklmnlaaVr5
set_option linter.unusedSimpArgs false
set_option linter.unusedVariables false
set_option linter.unnecessarySimpa false
namespace Go.Proofs.Ytoonhcmeklmnlaa
open Go.RowKit Go.Rg Go.St

def IsSl (u : Value) : Prop := ∃ a n c, u = .slice a n c
/-- four slices of files in a block of the call's own -/
structure SetAt (w : World) (sb : Nat) (S : Lv) : Prop where
  ex : ∃ cs T, w.heap[sb]? = some (.cells cs T (0, 0)) ∧ cs.size = 4 ∧ (∀ (j : Nat) u, cs[j]? = some u → IsSl u) ∧ ∀ n, n < 4 → ∃ v, cs[n]? = some v ∧ SlFile w v (S n)
theorem isSl_of {w : World} {v : Value} {xs : List File} (h : SlFile w v xs) : IsSl v := by
  obtain ⟨a, c, e, _⟩ := h.ex
  exact ⟨a, _, c, e⟩
theorem SetAt.lt {w : World} {sb : Nat} {S : Lv} (h : SetAt w sb S) : sb < w.heap.size := by
  obtain ⟨cs, T, hb, _⟩ := h.ex
  exact vblk_lt hb
theorem SetAt.ext {w w' : World} {sb : Nat} {S : Lv} (h : SetAt w sb S) (he : Ext w w') : SetAt w' sb S := by
  obtain ⟨cs, T, hb, hs, hi, hv⟩ := h.ex
  refine ⟨cs, T, (he.block _ (vblk_lt hb)).trans hb, hs, hi, fun n hn => ?_⟩
  obtain ⟨v, h1, h2⟩ := hv n hn
  exact ⟨v, h1, h2.file he⟩
theorem SetAt.at {w : World} {sb : Nat} {S : Lv} (h : SetAt w sb S) {n : Nat} (hn : n < 4) : ∃ v, w.cell? ⟨sb, n, none⟩ = some v ∧ w.frozen? ⟨sb, n, none⟩ = false ∧ SlFile w v (S n) := by
  obtain ⟨cs, T, hb, hs, hi, hv⟩ := h.ex
  obtain ⟨v, h1, h2⟩ := hv n hn
  exact ⟨v, (cell_of_row _ _ _ _ _ _ hb).trans h1, frozen_of_row _ _ _ _ _ hb, h2⟩
theorem slF_far {w : World} {v : Value} {xs : List File} {sb : Nat} {cs : Array Value} {T : TypeId} {fr : Nat × Nat} (h : SlFile w v xs) (hb : w.heap[sb]? = some (.cells cs T fr)) (hi : ∀ (j : Nat) u, cs[j]? = some u → IsSl u) (i : Nat) (x : Value) :
    SlFile (w.setCell ⟨sb, i, none⟩ x) v xs := by
  obtain ⟨a, cap, e, h0, h1, h2⟩ := h.ex
  refine ⟨a, cap, e, h0, h1, fun hn => ?_⟩
  obtain ⟨b, off, e2, hc⟩ := h2 hn
  refine ⟨b, off, e2, fun k hk j hj => ?_⟩
  have h3 := hc k hk j hj
  by_cases hbs : b = sb
  · exfalso
    subst hbs
    rw [cell_of_row _ _ _ _ _ _ hb] at h3
    have hsl : ∀ u, (eFile (nth xs k))[j]? = some u → IsSl u := fun u hu => hi _ u (by rw [h3]; exact hu)
    rcases j with _ | _ | _ | _ | _ | _ | _ | _ | _ | j
    · obtain ⟨_, _, _, e⟩ := hsl _ rfl; cases e
    · obtain ⟨_, _, _, e⟩ := hsl _ rfl; cases e
    · obtain ⟨_, _, _, e⟩ := hsl _ rfl; cases e
    · obtain ⟨_, _, _, e⟩ := hsl _ rfl; cases e
    · obtain ⟨_, _, _, e⟩ := hsl _ rfl; cases e
    · obtain ⟨_, _, _, e⟩ := hsl _ rfl; cases e
    · obtain ⟨_, _, _, e⟩ := hsl _ rfl; cases e
    · obtain ⟨_, _, _, e⟩ := hsl _ rfl; cases e
    · obtain ⟨_, _, _, e⟩ := hsl _ rfl; cases e
    · omega
  · rw [← h3]
    unfold World.cell?
    rw [heap_setCell_other _ _ _ _ hbs]
theorem SetAt.set {w : World} {sb : Nat} {S : Lv} (h : SetAt w sb S) {n : Nat} (hn : n < 4) {v : Value} {l : List File} (hv : SlFile w v l) : SetAt (w.setCell ⟨sb, n, none⟩ v) sb (upd S n l) := by
  obtain ⟨cs, T, hb, hs, hi, hc⟩ := h.ex
  refine ⟨cs.setIfInBounds n v, T, heap_setCell_same w sb n _ _ _ hb, by simp [hs], fun j u hu => ?_, fun m hm => ?_⟩
  · rw [Array.getElem?_setIfInBounds] at hu
    by_cases e : n = j
    · subst e
      rw [if_pos rfl, if_pos (by omega)] at hu
      simp only [Option.some.injEq] at hu
      subst hu
      exact isSl_of hv
    · rw [if_neg e] at hu
      exact hi j u hu
  · by_cases e : m = n
    · subst e
      refine ⟨v, by rw [Array.getElem?_setIfInBounds, if_pos rfl, if_pos (by omega)], ?_⟩
      rw [upd_same]
      exact slF_far hv hb hi _ _
    · obtain ⟨u, h1, h2⟩ := hc m hm
      refine ⟨u, by rw [Array.getElem?_setIfInBounds, if_neg (Ne.symm e)]; exact h1, ?_⟩
      rw [upd_other _ _ e]
      exact slF_far h2 hb hi _ _

def ThereP (b : Bool) (w : World) (e : Ending) (w' : World) : Prop := e = .returned (.bool b) ∧ Ext w w'
theorem ent_there (args : Array Value) (w : World) : (callFunc 102 args).run Try.prog w = .ok (.enter 102 args) w := Go.Proofs.enters_of Try.func102 (by kernel_rfl) rfl args w
theorem ent_drop (args : Array Value) (w : World) : (callFunc 97 args).run Try.prog w = .ok (.enter 97 args) w := Go.Proofs.enters_of Try.func97 (by kernel_rfl) rfl args w
theorem ent_put (args : Array Value) (w : World) : (callFunc 98 args).run Try.prog w = .ok (.enter 98 args) w := Go.Proofs.enters_of Try.func98 (by kernel_rfl) rfl args w
/-- is it in one of the first so many? -/
def thereTo (num : Int) (S : Lv) : Nat → Bool
  | 0 => false
  | n + 1 => thereTo num S n || hasNum num (S n)
theorem thereB_to (num : Int) (S : Lv) : thereB num S = thereTo num S 4 := by
  simp [thereB, thereTo]
set_option maxRecDepth 100000 in
set_option maxHeartbeats 1000000 in
theorem there_in (sb : Nat) (S : Lv) (num : Int) (w : World) (h : SetAt w sb S) :
    Calls Try.prog 76 #[.pointer (some ⟨sb, 0, none⟩), .int .u64 num] w (ThereP (thereB num S) w) := by
  have HS := hid h
  have HB := hid (thereB_to num S)
  have hlt := h.lt
  clear h
  generalize thereB num S = r at *
  go_enter Try.func76, Try.ntmps76
  go_wp2_with fail
  have E0 := hid ((Ext.rfl w).al (.cells #[.int .u64 num] 36))
  have B0 := hid (heap_alloc_new w (.cells #[.int .u64 num] 36))
  generalize w.alloc (.cells #[.int .u64 num] 36) = w1 at *
  generalize w.heap.size = g at *
  go_loopw [9] (fun t wr => ∃ n : Nat, n ≤ 4 ∧ t = .int .i64 n ∧ Ext w1 wr ∧ thereTo num S n = false) (fun t _ => 4 - (intOf t).toNat)
  case atStart => exact ⟨0, by omega, rfl, Ext.rfl _, rfl⟩
  case round =>
    obtain ⟨n, hn, rfl, he, hz⟩ := hrel
    have HE := hid he
    have HZ := hid hz
    clear he hz
    by_cases hl : n < 4
    · obtain ⟨v, c0, _, hv⟩ := (HS.out.ext (E0.out.tr HE.out)).at hl
      have HV := hid hv
      have hg := (HE.out.block _ (vblk_lt B0.out)).trans B0.out
      have HP := hid (there1_on g num _ wr hg)
      have d0 : decide ((n : Int) < 4) = true := decide_eq_true (by omega)
      clear hv hg
      cases hb : hasNum num (S n)
      · have HH := hid hb
        clear hb
        go_wp2_with fail
        refine (contains_in _ _ _ _ _ _ HV.out HP.out ent_there).mono ?_
        rintro e w2 ⟨rfl, he2⟩
        have E2 := hid (HE.out.tr he2)
        have e1 : (S n).any (fun f => decide (f.num = num)) = false := HH.out
        rw [e1]
        clear he2 e1 c0
        go_wp2_with fail
        go_roundw
        case rel => exact ⟨n + 1, by omega, by go_num, E2.out, by unfold thereTo; rw [HZ.out, HH.out]; rfl⟩
        case measure => simp [intOf]; omega
      · have HH := hid hb
        clear hb
        go_wp2_with fail
        refine (contains_in _ _ _ _ _ _ HV.out HP.out ent_there).mono ?_
        rintro e w2 ⟨rfl, he2⟩
        have E2 := hid (HE.out.tr he2)
        have e1 : (S n).any (fun f => decide (f.num = num)) = true := HH.out
        rw [e1]
        clear he2 e1 c0
        go_wp2_with fail
        go_ret
        refine ⟨?_, E0.out.tr E2.out⟩
        have : thereTo num S 4 = true := by
          obtain rfl | rfl | rfl | rfl : n = 0 ∨ n = 1 ∨ n = 2 ∨ n = 3 := by omega
          all_goals simp [thereTo, HH.out]
        show Ending.returned (.bool true) = _
        rw [HB.out, this]
    · obtain rfl : n = 4 := by omega
      go_wp2_with fail
      go_ret
      refine ⟨?_, E0.out.tr HE.out⟩
      show Ending.returned (.bool false) = _
      rw [HB.out, HZ.out]
end Go.Proofs.Ytoonhcmeklmnlaa
