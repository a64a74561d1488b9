/- A table's row of lists grows by a list: the plain part. -/
import Derived.Test.YtoonhcmeklmnlaaMtA
set_option linter.unusedSimpArgs false
set_option linter.unusedVariables false
set_option linter.unnecessarySimpa false
namespace Go.Proofs.Ytoonhcmeklmnlaa
open Go.RowKit Go.Rg Go.St

theorem TRep.row_ne {w : World} {T : TLoc} {M : MT} (h : TRep w T M) {b : Nat} {cs : Array Value} {ty : TypeId} {fr : Nat × Nat} (hb : w.heap[b]? = some (.cells cs ty fr)) (hT : ty ≠ 23) : T.lv.ownBlock ≠ some b := by
  intro e
  rcases h.row.2 with ⟨h1, _⟩ | ⟨g, cap, cur, h1, _, hg, _⟩
  · rw [h1] at e; cases e
  · rw [h1] at e
    simp [Value.ownBlock] at e
    subst e
    exact cells_ne hg hb (Ne.symm hT) rfl
theorem TRep.row_map {w : World} {T : TLoc} {M : MT} (h : TRep w T M) {b : Nat} {es : Array MapEntry} {c : Nat} (hb : w.heap[b]? = some (.map es c)) : T.lv.ownBlock ≠ some b := by
  intro e
  rcases h.row.2 with ⟨h1, _⟩ | ⟨g, cap, cur, h1, _, hg, _⟩
  · rw [h1] at e; cases e
  · rw [h1] at e
    simp [Value.ownBlock] at e
    subst e
    rw [hb] at hg
    cases hg
theorem TRep.feet {w : World} {T : TLoc} {M : MT} (h : TRep w T M) {i : Nat} (hi : i < M.ls.length) {b : Nat} (hb : Foot (T.L i) (nthK M i).n b) : b ≠ T.tb ∧ T.lv.ownBlock ≠ some b := by
  rcases (h.ls i hi).foot hb with ⟨es, c, hm⟩ | ⟨cs, ty, fr, hm, hty⟩
  · refine ⟨fun e => ?_, h.row_map hm⟩
    rw [e, h.tb] at hm; cases hm
  · refine ⟨fun e => ?_, h.row_ne hm ?_⟩
    · rw [e, h.tb] at hm
      cases hm
      revert hty; unfold skipTy; decide
    · intro e
      subst e
      revert hty; unfold skipTy; decide
theorem grown_ch {w w' : World} {row : Option Nat} (h : w.grownBy w' row) : Ch (fun x => row = some x) w w' :=
  ⟨h.os, h.tape, h.output, h.size, fun k hk hn => h.block k hk (Ne.symm hn)⟩
theorem foot_new {w : World} {b : Nat} (h : Foot (newL w) (SK.new 1000).n b) : w.heap.size ≤ b := by
  rcases h with rfl | rfl | h | ⟨i, hi, _⟩
  · exact Nat.le_succ _
  · exact Nat.le_refl _
  · cases h
  · exact absurd hi (Nat.not_lt_zero _)
def growT (w2 : World) (T : TLoc) (M : MT) (v' : Value) : TLoc := { T with lv := v', L := fun i => if i = M.ls.length then newL w2 else T.L i }
set_option maxHeartbeats 1000000 in
theorem grow_rep {w2 w3 w4 : World} {o : Obj} {T : TLoc} {M : MT} {av : Option Addr} {cv : Nat} (H : TRep w2 T M) (hX : Ext w2 w3) (R3 : Rep w3 (newL w2) (SK.new 1000))
    (M2 : w4.ownsRow 0 23 1 (.slice av (M.ls.length + 1) cv) (M.ls.length + 1) (((List.range M.ls.length).map fun i => .pointer (some ⟨(T.L i).lb, 0, none⟩)) ++ [.pointer (some ⟨w2.heap.size + 1, 0, none⟩)]))
    (M3 : (w3.alloc o).grownBy w4 T.lv.ownBlock) (M4 : (Value.slice av (M.ls.length + 1) cv).ownBlock = T.lv.ownBlock ∨ (Value.slice av (M.ls.length + 1) cv).ownBlock = some (w3.alloc o).heap.size) :
    TRep (w4.setCell ⟨T.tb, 0, none⟩ (.slice av (M.ls.length + 1) cv)) (growT w2 T M (.slice av (M.ls.length + 1) cv)) { M with ls := M.ls ++ [SK.new 1000] } ∧
    Ch (fun x => x = T.tb ∨ T.lv.ownBlock = some x) w2 (w4.setCell ⟨T.tb, 0, none⟩ (.slice av (M.ls.length + 1) cv)) ∧
    ∀ b, TFoot (growT w2 T M (.slice av (M.ls.length + 1) cv)) { M with ls := M.ls ++ [SK.new 1000] } b → TFoot T M b ∨ w2.heap.size ≤ b := by
  have hsz : w2.heap.size < (w3.alloc o).heap.size := by
    have := hX.size
    show _ < (w3.heap.push _).size
    rw [Array.size_push]; omega
  have hlen : (M.ls ++ [SK.new 1000]).length = M.ls.length + 1 := by simp
  have C3 : Ch (fun x => T.lv.ownBlock = some x) w3 w4 := (Ch.of_ext ((Ext.rfl w3).al o)).tr (grown_ch M3)
  have C3' : Ch (fun x => x = T.tb ∨ T.lv.ownBlock = some x) w3 (w4.setCell ⟨T.tb, 0, none⟩ (.slice av (M.ls.length + 1) cv)) := (C3.mono fun k _ h => .inr h).setC (.inl rfl)
  have C : Ch (fun x => x = T.tb ∨ T.lv.ownBlock = some x) w2 (w4.setCell ⟨T.tb, 0, none⟩ (.slice av (M.ls.length + 1) cv)) := (Ch.of_ext hX).tr C3'
  have htlt := blk_lt H.tb
  have tb4 : w4.heap[T.tb]? = some (.cells (tabC T M) 121 (0, 0)) := (C3.block _ (blk_lt (H.ext hX).tb) ((H.ext hX).row_ne (H.ext hX).tb (by decide))).trans (H.ext hX).tb
  have htb5 := heap_setCell_same w4 T.tb 0 (tabC T M) _ (.slice av (M.ls.length + 1) cv) tb4
  have hvtb : (Value.slice av (M.ls.length + 1) cv).ownBlock ≠ some T.tb := by
    rcases M4 with e | e
    · rw [e]; exact H.row_ne H.tb (by decide)
    · rw [e]; intro h; have := Option.some.inj h; omega
  have hown : ∀ b, (Value.slice av (M.ls.length + 1) cv).ownBlock = some b → T.lv.ownBlock = some b ∨ w2.heap.size ≤ b := fun b hb => by
    rcases M4 with e | e
    · exact .inl (e ▸ hb)
    · right; rw [e] at hb; have := Option.some.inj hb; omega
  have hold : ∀ i, i < M.ls.length → (growT w2 T M (.slice av (M.ls.length + 1) cv)).L i = T.L i := fun i hi => if_neg (by omega)
  have hnew : (growT w2 T M (.slice av (M.ls.length + 1) cv)).L M.ls.length = newL w2 := if_pos rfl
  have hcase : ∀ i, i < M.ls.length + 1 → (i < M.ls.length ∧ nthK { M with ls := M.ls ++ [SK.new 1000] } i = nthK M i) ∨ (i = M.ls.length ∧ nthK { M with ls := M.ls ++ [SK.new 1000] } i = SK.new 1000) := fun i hi => by
    by_cases h1 : i < M.ls.length
    · exact .inl ⟨h1, nthK_grow i h1⟩
    · have : i = M.ls.length := by omega
      subst this
      exact .inr ⟨rfl, nthK_last⟩
  have hfl : ∀ i, i < M.ls.length → ∀ b, Foot (T.L i) (nthK M i).n b → b < w2.heap.size := fun i hi b hb => by
    rcases (H.ls i hi).foot hb with ⟨es, c, hm⟩ | ⟨cs, ty, fr, hm, _⟩
    · exact blk_lt hm
    · exact blk_lt hm
  refine ⟨⟨?_, ?_, ?_, ?_, fun i hi => ?_, fun i j hi hj hij b hb hb2 => ?_, H.kv, fun i hi => ?_⟩, C, fun b hb => ?_⟩
  · exact htb5.trans rfl
  · have hx : (List.range (M.ls ++ [SK.new 1000]).length).map (fun i => Value.pointer (some ⟨((growT w2 T M (.slice av (M.ls.length + 1) cv)).L i).lb, 0, none⟩)) = ((List.range M.ls.length).map fun i => .pointer (some ⟨(T.L i).lb, 0, none⟩)) ++ [.pointer (some ⟨w2.heap.size + 1, 0, none⟩)] := by
      rw [hlen, List.range_succ, List.map_append]
      congr 1
      · refine List.map_congr_left fun i hi => ?_
        rw [hold i (List.mem_range.1 hi)]
      · show [Value.pointer (some ⟨((growT w2 T M (.slice av (M.ls.length + 1) cv)).L M.ls.length).lb, 0, none⟩)] = _
        rw [hnew]; rfl
    show World.ownsRow _ 0 _ 1 (.slice av (M.ls.length + 1) cv) (M.ls ++ [SK.new 1000]).length _
    rw [hx, hlen]
    exact owns_ch M2 fun g hg => heap_setCell_other _ _ _ _ (fun e => hvtb (hg.trans (congrArg some e)))
  · refine H.km.go (C.block _ H.km.lt ?_)
    obtain ⟨es, c, h1, _⟩ := H.km
    rintro (e | e)
    · rw [e, H.tb] at h1; cases h1
    · exact H.row_map h1 e
  · refine H.vm.go (C.block _ H.vm.lt ?_)
    obtain ⟨es, c, h1, _⟩ := H.vm
    rintro (e | e)
    · rw [e, H.tb] at h1; cases h1
    · exact H.row_map h1 e
  · rcases hcase i (by simpa using hi) with ⟨h1, h2⟩ | ⟨h1, h2⟩
    · rw [h2, hold i h1]
      refine (H.ls i h1).go C fun k hk hF => ?_
      obtain ⟨f1, f2⟩ := H.feet h1 hk
      exact hF.elim f1 f2
    · rw [h2, h1, hnew]
      refine R3.go C3' fun k hk hF => ?_
      have := foot_new hk
      rcases hF with e | e
      · omega
      · have := (H.row.lt k e).2
        omega
  · rcases hcase i (by simpa using hi) with ⟨h1, h2⟩ | ⟨h1, h2⟩ <;> rcases hcase j (by simpa using hj) with ⟨h3, h4⟩ | ⟨h3, h4⟩
    · rw [h2, hold i h1] at hb
      rw [h4, hold j h3] at hb2
      exact H.ap i j h1 h3 hij b hb hb2
    · rw [h2, hold i h1] at hb
      rw [h4, h3, hnew] at hb2
      have := hfl i h1 b hb
      have := foot_new hb2
      omega
    · rw [h2, h1, hnew] at hb
      rw [h4, hold j h3] at hb2
      have := hfl j h3 b hb2
      have := foot_new hb
      omega
    · omega
  · have k1 := H.km.lt
    have k2 := H.vm.lt
    rcases hcase i (by simpa using hi) with ⟨h1, h2⟩ | ⟨h1, h2⟩
    · rw [h2, hold i h1]; exact H.mo i h1
    · rw [h2, h1, hnew]
      exact ⟨fun h => by have := foot_new h; simp only [growT] at this; omega, fun h => by have := foot_new h; simp only [growT] at this; omega⟩
  · rcases hb with rfl | rfl | rfl | hb | ⟨i, hi, hb⟩
    · exact .inl (.inl rfl)
    · exact .inl (.inr (.inl rfl))
    · exact .inl (.inr (.inr (.inl rfl)))
    · rcases hown b hb with h | h
      · exact .inl (.inr (.inr (.inr (.inl h))))
      · exact .inr h
    · rcases hcase i (by simpa using hi) with ⟨h1, h2⟩ | ⟨h1, h2⟩
      · rw [h2, hold i h1] at hb
        exact .inl (.inr (.inr (.inr (.inr ⟨i, h1, hb⟩))))
      · rw [h2, h1, hnew] at hb
        exact .inr (foot_new hb)
end Go.Proofs.Ytoonhcmeklmnlaa
