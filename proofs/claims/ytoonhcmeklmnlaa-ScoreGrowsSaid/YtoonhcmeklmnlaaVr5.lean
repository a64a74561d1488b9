/- Files cloned, sought; the set of files in memory. -/
import Derived.Test.YtoonhcmeklmnlaaVrP
import Derived.Test.YtoonhcmeklmnlaaRgL
import Derived.Test.YtoonhcmeklmnlaaRg1
import Derived.Test.YtoonhcmeklmnlaaRg2
import Derived.Shelf.Abstract
set_option linter.unusedSimpArgs false
set_option linter.unusedVariables false
set_option linter.unnecessarySimpa false
namespace Go.Proofs.Ytoonhcmeklmnlaa
open Go.RowKit Go.Rg Go.St

theorem flat_len : ∀ xs : List File, (xs.flatMap eFile).length = xs.length * 9
  | [] => rfl
  | x :: xs => by rw [List.flatMap_cons, List.length_append, flat_len xs, eFile_length, List.length_cons]; omega
theorem slF_news {w : World} {a : Addr} {xs : List File} {b off : Nat} (ha : a = ⟨b, off, none⟩) (h : ∀ i, i < xs.length → ∀ j, j < 9 → w.cell? ⟨b, off + i * 9 + j, none⟩ = (eFile (nth xs i))[j]?) :
    ∀ j u, (xs.flatMap eFile)[j]? = some u → w.cell? (a.add j) = some u := by
  intro j u hu
  subst ha
  have hj : j < (xs.flatMap eFile).length := (List.getElem?_eq_some_iff.1 hu).1
  have hlen : (xs.flatMap eFile).length = xs.length * 9 := flat_len xs
  have hi : j / 9 < xs.length := by omega
  have hm : j % 9 < 9 := Nat.mod_lt _ (by decide)
  have e := h (j / 9) hi (j % 9) hm
  rw [← flat_get eFile_length xs (j / 9) (j % 9) hi hm] at e
  have e2 : j / 9 * 9 + j % 9 = j := by omega
  rw [e2, hu] at e
  rw [Addr.add_lit]
  rw [show off + j / 9 * 9 + j % 9 = off + j by omega] at e
  exact e
theorem one_files (xs : List File) : ∀ u ∈ xs.flatMap eFile, u.oneCell' = true := by
  intro u hu
  obtain ⟨f, hf, hu⟩ := List.mem_flatMap.1 hu
  exact one_file f u hu

theorem owns_n {w : World} {base : Nat} {v : Value} {n : Nat} {xs : List File} (h : w.ownsRow base 80 9 v n ([] ++ xs.flatMap eFile)) (hn : n = xs.length) : OwnFiles w base v xs := by subst hn; exact h
theorem eq_nil (a : Option Addr) (n c : Nat) (w : World) : (binOp .eql 64 (.slice a n c) (.slice none 0 0)).run Try.prog w = .ok (.bool a.isNone) w := Go.Lib.run_eql_slice_nil w _ _ a n c 0 0 Try.underlying64
set_option maxRecDepth 100000 in
set_option maxHeartbeats 1000000 in
theorem clone_in (v : Value) (xs : List File) (w : World) (h : SlFile w v xs) (hn : xs.length ≤ 1000000) :
    Calls Try.prog 73 #[v] w (FilesExt xs w) := by
  obtain ⟨a, cap, rfl, hcap, hm, hc⟩ := h.ex
  clear h
  unfold maxLen at hm
  cases a with
  | none =>
    have hx : xs.length = 0 := by
      rcases Nat.eq_zero_or_pos xs.length with h0 | h0
      · exact h0
      · obtain ⟨b, off, e, _⟩ := hc h0
        cases e
    obtain rfl := List.eq_nil_of_length_eq_zero hx
    clear hc hx
    have hq := eq_nil
    go_enter Try.func73, Try.ntmps73
    go_wp2
    go_ret
    exact ⟨_, rfl, World.ownsRow_nil _ _ _ _, Ext.rfl _⟩
  | some ad =>
    have hnews : ∀ w', Ext w w' → ∀ j u, (xs.flatMap eFile)[j]? = some u → w'.cell? (ad.add j) = some u := by
      rcases Nat.eq_zero_or_pos xs.length with h0 | h0
      · obtain rfl := List.eq_nil_of_length_eq_zero h0
        intro w' he j u hu
        simp at hu
      · obtain ⟨b, off, e, hcell⟩ := hc h0
        simp only [Option.some.injEq] at e
        intro w' he
        exact slF_news e fun i hi j hj => ext_cellq he (hcell i hi j hj) hj rfl
    have HN := hid hnews
    clear hnews hc
    have hq := eq_nil
    go_enter Try.func73, Try.ntmps73
    go_wp2_with (at_builtin; go_loud (refine wpList_app el_file rfl (owns_new w #[] _ 0 9 _ rfl (Nat.le_refl _) (by decide)) rfl (flat_len xs) (HN.out _ ((Ext.rfl w).al _)) (one_files xs) (by omega) ((Ext.rfl w).al _).size ?_); intro v' w1 hown1 hg1 hb1; have O1 := hid hown1; have E1 := hid (Below.trans ((Ext.rfl w).al _) hb1); clear hown1 hg1 hb1)
    go_ret
    exact ⟨v', rfl, owns_n O1.out (Nat.zero_add _), E1.out⟩

def PredOn (g : FuncId) (lb : List Value) (p : File → Bool) (w : World) : Prop :=
  ∀ W x, Ext w W → Calls Try.prog g (aFile x :: lb).toArray W (fun e w' => e = .returned (.bool (p x)) ∧ Ext W w')
def idxV (p : File → Bool) (l : List File) : Int := if l.findIdx p < l.length then (l.findIdx p : Int) else -1
theorem idx_hit {p : File → Bool} {l : List File} {k : Nat} (hk : k < l.length) (h : ∀ j, j < k → p (nth l j) = false) (hp : p (nth l k) = true) : l.findIdx p = k := by
  rw [List.findIdx_eq hk]
  refine ⟨by rwa [← nth_eq l k hk], fun j hj => ?_⟩
  have := h j hj
  rw [nth_eq l j (by omega)] at this
  simpa using this
theorem idx_none {p : File → Bool} {l : List File} (h : ∀ j, j < l.length → p (nth l j) = false) : l.findIdx p = l.length := by
  rw [List.findIdx_eq_length]
  intro x hx
  obtain ⟨j, hj, rfl⟩ := List.getElem_of_mem hx
  have := h j hj
  rw [nth_eq l j hj] at this
  simpa using this
set_option maxRecDepth 100000 in
set_option maxHeartbeats 1000000 in
theorem index_in (v : Value) (xs : List File) (g : FuncId) (lb : List Value) (p : File → Bool) (w : World) (h : SlFile w v xs) (hp : PredOn g lb p w) (hen : ∀ (args : Array Value) (w : World), (callFunc g args).run Try.prog w = .ok (.enter g args) w) :
    Calls Try.prog 96 #[v, .func (.func g) #[] lb.toArray] w (IntV (idxV p xs) w) := by
  obtain ⟨a, cap, rfl, hcap, hm, hc⟩ := h.ex
  have HC := hid hc
  have HP := hid hp
  clear h hc hp
  unfold maxLen at hm
  go_enter Try.func96, Try.ntmps96
  go_wp2
  go_loopw [8] (fun t wr => ∃ k : Nat, k ≤ xs.length ∧ t = .int .i64 k ∧ Ext w wr ∧ ∀ j, j < k → p (nth xs j) = false) (fun t _ => xs.length - (intOf t).toNat)
  case atStart => exact ⟨0, Nat.zero_le _, rfl, Ext.rfl _, fun j h => absurd h (Nat.not_lt_zero _)⟩
  case round =>
    obtain ⟨k, hk, rfl, he, hz⟩ := hrel
    have HE := hid he
    have HZ := hid hz
    clear he hz
    by_cases hlt : k < xs.length
    · obtain ⟨b, off, rfl, hcell⟩ := HC.out (by omega)
      obtain ⟨c0, c1, c2, c3, c4, c5, c6, c7, c8⟩ := SlS.at9 (w := wr) (enc := eFile) (xs := xs) (k := k) (fun i hi => ext_cellq HE.out (hcell k hlt i hi) hi rfl) rfl
      clear hcell
      cases hpv : p (nth xs k)
      · have HV := hid hpv
        clear hpv
        go_wp2_with fail
        refine (HP.out _ (nth xs k) HE.out).mono ?_
        rintro e w1 ⟨rfl, he1⟩
        rw [HV.out]
        have E1 := hid (HE.out.tr he1)
        clear he1 c0 c1 c2 c3 c4 c5 c6 c7 c8
        go_wp2
        go_roundw
        case rel => exact ⟨k + 1, by omega, by go_num, E1.out, fun j hj => by
          rcases Nat.lt_succ_iff_lt_or_eq.1 hj with h1 | rfl
          · exact HZ.out j h1
          · exact HV.out⟩
        case measure => simp [intOf]; omega
      · have HV := hid hpv
        clear hpv
        go_wp2_with fail
        refine (HP.out _ (nth xs k) HE.out).mono ?_
        rintro e w1 ⟨rfl, he1⟩
        rw [HV.out]
        have E1 := hid (HE.out.tr he1)
        clear he1 c0 c1 c2 c3 c4 c5 c6 c7 c8
        go_wp2
        go_ret
        refine ⟨?_, E1.out⟩
        show Ending.returned (.int .i64 (k : Nat)) = Ending.returned (.int .i64 (idxV p xs))
        unfold idxV
        rw [idx_hit hlt HZ.out HV.out, if_pos hlt]
    · have : k = xs.length := by omega
      subst this
      clear hen
      go_wp2
      go_ret
      refine ⟨?_, HE.out⟩
      show Ending.returned (.int .i64 (-1)) = Ending.returned (.int .i64 (idxV p xs))
      unfold idxV
      rw [idx_none HZ.out, if_neg (Nat.lt_irrefl _)]
set_option maxRecDepth 100000 in
set_option maxHeartbeats 1000000 in
theorem contains_in (v : Value) (xs : List File) (g : FuncId) (lb : List Value) (p : File → Bool) (w : World) (h : SlFile w v xs) (hp : PredOn g lb p w) (hen : ∀ (args : Array Value) (w : World), (callFunc g args).run Try.prog w = .ok (.enter g args) w) :
    Calls Try.prog 101 #[v, .func (.func g) #[] lb.toArray] w (fun e w' => e = .returned (.bool (xs.any p)) ∧ Ext w w') := by
  have hi := index_in v xs g lb p w h hp hen
  have hd : decide (0 ≤ idxV p xs) = xs.any p := by
    unfold idxV
    by_cases hh : xs.findIdx p < xs.length
    · rw [if_pos hh, decide_eq_true (by omega)]
      exact (List.any_eq_true.2 (List.findIdx_lt_length.1 hh)).symm
    · rw [if_neg hh]
      cases ha : xs.any p with
      | false => rfl
      | true => exact absurd (List.findIdx_lt_length.2 (List.any_eq_true.1 ha)) hh
  have HI := hid hi
  have HD := hid hd
  clear hi hd h hp
  generalize idxV p xs = z at *
  generalize xs.any p = b at *
  go_enter Try.func101, Try.ntmps101
  go_wp2_with fail
  refine HI.out.mono ?_
  rintro e w1 ⟨rfl, he1⟩
  have E1 := hid he1
  clear he1
  go_wp2
  go_ret
  refine ⟨?_, E1.out⟩
  show Ending.returned (.bool (decide (0 ≤ z))) = _
  rw [HD.out]

/-! ### predicates -/
set_option maxHeartbeats 1000000 in
theorem drop1_on (db : Nat) (l n : Int) (T : TypeId) (w : World) (hd : w.heap[db]? = some (.cells #[.int .i64 l, .int .u64 n] T (0, 0))) : PredOn 97 [.pointer (some ⟨db, 0, none⟩)] (fun f => decide (f.num = n)) w := by
  intro W x he
  have c1 : W.cell? ⟨db, 1, none⟩ = some (.int .u64 n) := by
    rw [cell_of_row _ _ _ _ _ _ ((he.block _ (vblk_lt hd)).trans hd)]; rfl
  have hlt : db < W.heap.size := cell_lt c1
  clear he hd
  go_enter Try.func97, Try.ntmps97
  go_wp2
  go_ret
  refine ⟨?_, (Ext.rfl W).al _⟩
  rfl
set_option maxHeartbeats 1000000 in
theorem there1_on (db : Nat) (n : Int) (T : TypeId) (w : World) (hd : w.heap[db]? = some (.cells #[.int .u64 n] T (0, 0))) : PredOn 102 [.pointer (some ⟨db, 0, none⟩)] (fun f => decide (f.num = n)) w := by
  intro W x he
  have c1 : W.cell? ⟨db, 0, none⟩ = some (.int .u64 n) := by
    rw [cell_of_row _ _ _ _ _ _ ((he.block _ (vblk_lt hd)).trans hd)]; rfl
  have hlt : db < W.heap.size := cell_lt c1
  clear he hd
  go_enter Try.func102, Try.ntmps102
  go_wp2
  go_ret
  refine ⟨?_, (Ext.rfl W).al _⟩
  rfl
theorem cmpB_neg (a b : ByteArray) : decide (Lib.compareBytes a.data.toList b.data.toList < 0) = kl a b := by
  rw [cmpB_eq]
  cases h1 : kl a b
  · cases h2 : kl b a <;> rfl
  · rfl
set_option maxHeartbeats 1000000 in
theorem put1_on (db : Nat) (f : File) (T : TypeId) (w : World) (hd : w.heap[db]? = some (.cells (fileCells f) T (0, 0))) : PredOn 98 [.pointer (some ⟨db, 0, none⟩)] (aheadF f) w := by
  intro W x he
  obtain ⟨c0, c1, c2, c3, c4, c5, c6, c7, c8⟩ := file_cells ((he.block _ (vblk_lt hd)).trans hd)
  have hlt : db < W.heap.size := cell_lt c0
  have HA := hid (show aheadF f x = if f.level = 0 then decide (x.num < f.num) else kl f.large.user x.small.user from rfl)
  have HK := hid (cmpB_neg f.large.user x.small.user)
  generalize aheadF f x = r at *
  clear he hd c2 c3 c4 c5 c7 c8
  by_cases hl : f.level = 0
  · have d1 : (f.level == 0) = true := by simpa using hl
    rw [if_pos hl] at HA
    clear hl
    go_enter Try.func98, Try.ntmps98
    go_wp2_with fail
    go_ret
    refine ⟨?_, (Ext.rfl W).al _⟩
    show Ending.returned (.bool (decide (x.num < f.num))) = _
    rw [HA.out]
  · have d1 : (f.level == 0) = false := by simpa using hl
    rw [if_neg hl] at HA
    clear hl
    go_enter Try.func98, Try.ntmps98
    go_wp2_with fail
    refine (Try.strings_Compare _ _ _).mono ?_
    rintro e w1 ⟨rfl, rfl⟩
    go_wp2_with fail
    go_ret
    refine ⟨?_, (Ext.rfl W).al _⟩
    show Ending.returned (.bool (decide (Lib.compareBytes f.large.user.data.toList x.small.user.data.toList < 0))) = _
    rw [HA.out, HK.out]
end Go.Proofs.Ytoonhcmeklmnlaa
