/- Files that a crash cuts: Copy. -/
import Derived.Test.YtjekfifnhdoamaaSfB
import Derived.BigRegion
set_option linter.unusedSimpArgs false
set_option linter.unusedVariables false
set_option linter.unnecessarySimpa false
namespace Go.Proofs.Ytjekfifnhdoamaa
open Go.RowKit Go.Rg Go.St

/-- names that have been laid into a map, behind so many rounds of a loop over another one -/
structure PartN (w : World) (mb : Nat) (L : FL) (D : Nat → Prop) (ψ : Nat → Nat) (E1 : Ent ByteArray) (seen : Array Nat) (pl : Nm) : Prop where
  at_ : ∃ E c, NmAt nmK w mb E c ∧ NmTells ψ E pl
  dom : ∀ p, p ∈ pl → D p.2
  src : (pl.map fun p => (p.1, L.φ p.2)).Perm ((E1.filter fun p => seen.contains p.2.2).map fun p => (p.1, p.2.1))
theorem PartN.go {w w' : World} {mb : Nat} {L : FL} {D : Nat → Prop} {ψ : Nat → Nat} {E1 : Ent ByteArray} {seen : Array Nat} {pl : Nm} (h : PartN w mb L D ψ E1 seen pl) (he : w'.heap[mb]? = w.heap[mb]?) : PartN w' mb L D ψ E1 seen pl :=
  ⟨h.at_.elim fun E hE => hE.elim fun c hc => ⟨E, c, hc.1.go he, hc.2⟩, h.dom, h.src⟩
theorem PartN.ext {w : World} {mb : Nat} {L : FL} {D D' : Nat → Prop} {ψ ψ' : Nat → Nat} {E1 : Ent ByteArray} {seen : Array Nat} {pl : Nm} (h : PartN w mb L D ψ E1 seen pl) (hd : ∀ i, D i → D' i) (hψ : ∀ i, D i → ψ' i = ψ i) : PartN w mb L D' ψ' E1 seen pl := by
  obtain ⟨E, c, h1, h2⟩ := h.at_
  refine ⟨⟨E, c, h1, ?_⟩, fun p hp => hd _ (h.dom p hp), h.src⟩
  unfold NmTells at h2 ⊢
  have : pl.map (fun p => (p.1, ψ' p.2)) = pl.map (fun p => (p.1, ψ p.2)) := List.map_congr_left fun p hp => by rw [hψ _ (h.dom p hp)]
  rw [this]
  exact h2
theorem seen_push_perm (p : ByteArray × Nat × Nat) (seen : Array Nat) (hs : seen.contains p.2.2 = false) : ∀ E : Ent ByteArray, (bornE E).Nodup → p ∈ E → (E.filter fun q => (seen.push p.2.2).contains q.2.2).Perm (p :: E.filter fun q => seen.contains q.2.2)
  | [], _, h => by cases h
  | q :: E, hn, h => by
    unfold bornE at hn
    rw [List.map_cons, List.nodup_cons] at hn
    rw [List.filter_cons, List.filter_cons]
    rcases List.mem_cons.1 h with rfl | h
    · have e : E.filter (fun x => (seen.push p.2.2).contains x.2.2) = E.filter (fun x => seen.contains x.2.2) := by
        apply List.filter_congr
        intro x hx
        rw [contains_push]
        have : (x.2.2 == p.2.2) = false := by
          rw [beq_eq_false_iff_ne]
          intro e
          exact hn.1 (by rw [← e]; exact List.mem_map_of_mem (f := fun z : ByteArray × Nat × Nat => z.2.2) hx)
        rw [this, Bool.or_false]
      have h1 : (seen.push p.2.2).contains p.2.2 = true := by rw [contains_push]; simp
      rw [h1, hs, e]
      exact List.Perm.refl _
    · have ih := seen_push_perm p seen hs E hn.2 h
      have hne : (q.2.2 == p.2.2) = false := by
        rw [beq_eq_false_iff_ne]
        intro e
        exact hn.1 (by rw [e]; exact List.mem_map_of_mem (f := fun z : ByteArray × Nat × Nat => z.2.2) h)
      have hc : (seen.push p.2.2).contains q.2.2 = seen.contains q.2.2 := by rw [contains_push, hne, Bool.or_false]
      rw [hc]
      cases seen.contains q.2.2 with
      | true => simp only [if_true]; exact (ih.cons q).trans (List.Perm.swap _ _ _)
      | false => simp only [Bool.false_eq_true, if_false]; exact ih
theorem nodup_of_tells {φ ψ : Nat → Nat} {E E1 : Ent ByteArray} {pl : Nm} {seen : Array Nat} (hE : NmTells ψ E pl) (hs : (pl.map fun p => (p.1, φ p.2)).Perm ((E1.filter fun p => seen.contains p.2.2).map fun p => (p.1, p.2.1))) (hk : (keysE E1).Nodup) : (keysE E).Nodup := by
  have h1 := hE.map (·.1)
  have h2 := hs.map (·.1)
  rw [List.map_map] at h1 h2
  rw [List.map_map] at h2
  rw [keys_pr]
  refine h1.symm.nodup ?_
  refine h2.symm.nodup ?_
  exact (List.Sublist.map _ List.filter_sublist).nodup hk
/-- one name more -/
theorem PartN.step {w w' : World} {mb : Nat} {L : FL} {D : Nat → Prop} {ψ : Nat → Nat} {E1 : Ent ByteArray} {seen : Array Nat} {pl : Nm} (h : PartN w mb L D ψ E1 seen pl) {p : ByteArray × Nat × Nat} (hp : p ∈ E1) (hs : seen.contains p.2.2 = false) (hb : (bornE E1).Nodup) (hk : (keysE E1).Nodup) {i : Nat} (hi : D i) (he : p.2.1 = L.φ i)
    {E : Ent ByteArray} {c : Nat} (hE : NmTells ψ E pl) (hn : NmAt nmK w' mb (putEn E p.1 (ψ i) c) (clkE E p.1 c)) : PartN w' mb L D ψ E1 (seen.push p.2.2) (pl ++ [(p.1, i)]) := by
  have hperm := seen_push_perm p seen hs E1 hb hp
  have hnot : ∀ q, q ∈ pl → q.1 ≠ p.1 := fun q hq e => by
    have h1 : (q.1, L.φ q.2) ∈ (E1.filter fun p => seen.contains p.2.2).map fun p => (p.1, p.2.1) := h.src.mem_iff.1 (List.mem_map.2 ⟨q, hq, rfl⟩)
    obtain ⟨x, hx, ex⟩ := List.mem_map.1 h1
    rw [List.mem_filter] at hx
    simp only [Prod.mk.injEq] at ex
    have hxp : x = p := by
      obtain ⟨a, ha, ea⟩ := List.getElem_of_mem hx.1
      obtain ⟨b, hb2, eb⟩ := List.getElem_of_mem hp
      have e : a = b := nodup_inj hk (by simpa [keysE] using ha) (by simpa [keysE] using hb2) (by simp [keysE, ea, eb, ex.1, e])
      subst e
      rw [← ea, ← eb]
    rw [hxp, hs] at hx
    cases hx.2
  have hEk : ∀ q, q ∈ E → q.1 ≠ p.1 := fun q hq e => by
    have h1 : (q.1, q.2.1) ∈ pr E := List.mem_map.2 ⟨q, hq, rfl⟩
    obtain ⟨x, hx, ex⟩ := List.mem_map.1 (hE.mem_iff.1 h1)
    simp only [Prod.mk.injEq] at ex
    exact hnot x hx (ex.1.trans e)
  refine ⟨⟨_, _, hn, ?_⟩, fun q hq => ?_, ?_⟩
  · rw [keys_put (E := E) (k := p.1) (v := ψ i) (c := c) (nodup_of_tells hE h.src hk) hEk]
    unfold NmTells pr
    rw [List.map_append, List.map_append]
    exact hE.append (List.Perm.refl _)
  · rcases List.mem_append.1 hq with hq | hq
    · exact h.dom q hq
    · rw [List.mem_singleton.1 hq]; exact hi
  · rw [List.map_append]
    refine List.Perm.trans ?_ (hperm.map _).symm
    rw [List.map_cons]
    refine (List.perm_append_singleton _ _).trans ?_
    rw [← he]
    exact h.src.cons _
theorem PartN.done {w : World} {mb : Nat} {L : FL} {D : Nat → Prop} {ψ : Nat → Nat} {E1 : Ent ByteArray} {seen : Array Nat} {pl l : Nm} (h : PartN w mb L D ψ E1 seen pl) (hinj : ∀ i j, L.R i → L.R j → L.φ i = L.φ j → i = j) (hD : ∀ i, D i → L.R i) (hl : ∀ p, p ∈ l → L.R p.2) (hT : NmTells L.φ E1 l) (hall : ∀ p, p ∈ E1 → seen.contains p.2.2 = true) : NamesAt w mb ψ l ∧ ∀ p, p ∈ l → D p.2 := by
  obtain ⟨E, c, h1, h2⟩ := h.at_
  have hs := h.src
  rw [List.filter_eq_self.2 hall] at hs
  have hp : (pl.map fun p => (p.1, L.φ p.2)).Perm (l.map fun p => (p.1, L.φ p.2)) := hs.trans hT
  have hd : ∀ p, p ∈ l → D p.2 := fun p hp2 => by
    have h3 : (p.1, L.φ p.2) ∈ pl.map fun p => (p.1, L.φ p.2) := hp.mem_iff.2 (List.mem_map.2 ⟨p, hp2, rfl⟩)
    obtain ⟨q, hq, e⟩ := List.mem_map.1 h3
    simp only [Prod.mk.injEq] at e
    have := hinj _ _ (hD _ (h.dom q hq)) (hl p hp2) e.2
    rw [← this]
    exact h.dom q hq
  refine ⟨⟨E, c, h1, ?_⟩, hd⟩
  let g : Nat → Nat := fun b => @dite _ (∃ i, L.R i ∧ L.φ i = b) (Classical.propDecidable _) (fun h => ψ (Classical.choose h)) (fun _ => 0)
  have hg : ∀ i, L.R i → g (L.φ i) = ψ i := fun i hi => by
    have hx : ∃ j, L.R j ∧ L.φ j = L.φ i := ⟨i, hi, rfl⟩
    show @dite _ (∃ j, L.R j ∧ L.φ j = L.φ i) (Classical.propDecidable _) (fun h => ψ (Classical.choose h)) (fun _ => 0) = _
    rw [dif_pos hx]
    have hs := Classical.choose_spec hx
    rw [hinj _ _ hs.1 hi hs.2]
  have hm := hp.map fun q => (q.1, g q.2)
  rw [List.map_map, List.map_map] at hm
  have e1 : pl.map ((fun q => (q.1, g q.2)) ∘ fun p => (p.1, L.φ p.2)) = pl.map fun p => (p.1, ψ p.2) := List.map_congr_left fun p hp => by simp only [Function.comp]; rw [hg _ (hD _ (h.dom p hp))]
  have e2 : l.map ((fun q => (q.1, g q.2)) ∘ fun p => (p.1, L.φ p.2)) = l.map fun p => (p.1, ψ p.2) := List.map_congr_left fun p hp => by simp only [Function.comp]; rw [hg _ (hl p hp)]
  rw [e1, e2] at hm
  exact h2.trans hm
theorem tw_new (w : World) (L : FL) (M : FsM) : TwAt w.heap.size ((w.alloc (.map #[] 0)).alloc (.cells #[.map (some w.heap.size)] 106)) L M (w.heap.size + 1) w.heap.size (fun _ => False) (fun _ => 0) (fun _ => .slice none 0 0) := by
  have s1 : (w.alloc (.map #[] 0)).heap.size = w.heap.size + 1 := by show (w.heap.push _).size = _; simp
  refine ⟨?_, ⟨[], 0, (nmAt_new w ptrV).go ?_, List.nodup_nil, fun p hp => (by cases hp), fun i hi => hi.elim⟩, fun i hi => hi.elim, fun i hi => hi.elim, fun i hi => hi.elim, fun i j hi => hi.elim, fun i j hi => hi.elim, Nat.le_succ _, Nat.le_refl _⟩
  · have := heap_alloc_new (w.alloc (.map #[] 0)) (.cells #[.map (some w.heap.size)] 106)
    rw [s1] at this
    exact this
  · exact ((Ext.rfl (w.alloc (.map #[] 0))).al _).block _ (by rw [s1]; exact Nat.lt_succ_self _)
theorem kind_ne {w : World} {a b : Nat} {x y : Obj} (ha : w.heap[a]? = some x) (hb : w.heap[b]? = some y) (h : x ≠ y) : a ≠ b := obj_ne ha hb h
/-- two empty maps and a head over them -/
structure OutAt (w : World) (ob n2 l2 : Nat) (sv : Value) (M : FsM) : Prop where
  row : w.heap[ob]? = some (.cells #[.map (some n2), .map (some l2), sv, .int .i64 (M.quota : Nat), .int .i64 (M.ops : Nat), .int .i64 M.fuse, .int .i64 M.fail] 92 (0, 0))
  ne : n2 ≠ l2
theorem OutAt.cells {w : World} {ob n2 l2 : Nat} {sv : Value} {M : FsM} (h : OutAt w ob n2 l2 sv M) : w.cell? ⟨ob, 0, none⟩ = some (.map (some n2)) ∧ w.cell? ⟨ob, 1, none⟩ = some (.map (some l2)) ∧ w.cell? ⟨ob, 2, none⟩ = some sv ∧ ∀ i, w.frozen? ⟨ob, i, none⟩ = false := by
  have c := fun j => cell_of_row w ob j _ _ _ h.row
  exact ⟨c 0, c 1, c 2, fun i => frozen_of_row _ _ _ _ _ h.row⟩
theorem out_new (w1 : World) (M : FsM) (x y : Nat) (h : (x = w1.heap.size ∧ y = w1.heap.size + 1) ∨ (x = w1.heap.size + 1 ∧ y = w1.heap.size)) :
    ∃ ob n2 l2, Value.pointer (some ⟨w1.heap.size + 1 + 1, 0, none⟩) = ptrV ob ∧ OutAt (((w1.alloc (.map #[] 0)).alloc (.map #[] 0)).alloc (.cells #[.map (some x), .map (some y), .slice none 0 0, .int .i64 (M.quota : Nat), .int .i64 (M.ops : Nat), .int .i64 M.fuse, .int .i64 M.fail] 92)).drew ob n2 l2 (.slice none 0 0) M ∧
      (((w1.alloc (.map #[] 0)).alloc (.map #[] 0)).alloc (.cells #[.map (some x), .map (some y), .slice none 0 0, .int .i64 (M.quota : Nat), .int .i64 (M.ops : Nat), .int .i64 M.fuse, .int .i64 M.fail] 92)).drew.heap[n2]? = some (.map #[] 0) ∧
      (((w1.alloc (.map #[] 0)).alloc (.map #[] 0)).alloc (.cells #[.map (some x), .map (some y), .slice none 0 0, .int .i64 (M.quota : Nat), .int .i64 (M.ops : Nat), .int .i64 M.fuse, .int .i64 M.fail] 92)).drew.heap[l2]? = some (.map #[] 0) ∧
      Ext w1 (((w1.alloc (.map #[] 0)).alloc (.map #[] 0)).alloc (.cells #[.map (some x), .map (some y), .slice none 0 0, .int .i64 (M.quota : Nat), .int .i64 (M.ops : Nat), .int .i64 M.fuse, .int .i64 M.fail] 92)).drew ∧ w1.heap.size ≤ ob ∧ w1.heap.size ≤ n2 ∧ w1.heap.size ≤ l2 := by
  have s1 : (w1.alloc (.map #[] 0)).heap.size = w1.heap.size + 1 := by show (w1.heap.push _).size = _; simp
  have s2 : ((w1.alloc (.map #[] 0)).alloc (.map #[] 0)).heap.size = w1.heap.size + 2 := by show ((w1.heap.push _).push _).size = _; simp
  obtain ⟨o, ho⟩ : ∃ o : Obj, o = (.cells #[.map (some x), .map (some y), .slice none 0 0, .int .i64 (M.quota : Nat), .int .i64 (M.ops : Nat), .int .i64 M.fuse, .int .i64 M.fail] 92) := ⟨_, rfl⟩
  have r2 := heap_alloc_new ((w1.alloc (.map #[] 0)).alloc (.map #[] 0)) o
  rw [s2] at r2
  have r0 : (((w1.alloc (.map #[] 0)).alloc (.map #[] 0)).alloc o).heap[w1.heap.size]? = some (.map #[] 0) := ((((Ext.rfl (w1.alloc (.map #[] 0))).al (.map #[] 0)).al o).block _ (by rw [s1]; exact Nat.lt_succ_self _)).trans (heap_alloc_new w1 _)
  have r1' := heap_alloc_new (w1.alloc (.map #[] 0)) (.map #[] 0)
  rw [s1] at r1'
  have r1 : (((w1.alloc (.map #[] 0)).alloc (.map #[] 0)).alloc o).heap[w1.heap.size + 1]? = some (.map #[] 0) := (((Ext.rfl ((w1.alloc (.map #[] 0)).alloc (.map #[] 0))).al o).block _ (by rw [s2]; exact Nat.lt_succ_self _)).trans r1'
  have hx : Ext w1 (((w1.alloc (.map #[] 0)).alloc (.map #[] 0)).alloc o).drew := (((Ext.rfl w1).al _).al _).al _ |>.dr
  rw [← ho]
  refine ⟨w1.heap.size + 2, x, y, rfl, ⟨by rw [ho] at r2 ⊢; exact r2, by omega⟩, ?_, ?_, hx, by omega, by omega, by omega⟩
  · rcases h with ⟨rfl, rfl⟩ | ⟨rfl, rfl⟩
    · exact r0
    · exact r1
  · rcases h with ⟨rfl, rfl⟩ | ⟨rfl, rfl⟩
    · exact r1
    · exact r0
structure CopySt (w0 w : World) (L : FL) (M : FsM) (ob n2 l2 : Nat) (sv : Value) (B : Nat) (D : Nat → Prop) (ψ : Nat → Nat) (bw : Nat → Value) : Prop where
  ext : Ext w0 w
  src : FsAt w L M
  tw : TwAt B w L M (B + 1) B D ψ bw
  out : OutAt w ob n2 l2 sv M
def NoCells (w : World) (k : Nat) : Prop := ∀ cs ty, w.heap[k]? ≠ some (.cells cs ty (0, 0))
theorem ext_chB {w0 w w' : World} {F : Nat → Prop} (h : Ext w0 w) (hc : Ch F w w') (hF : ∀ k, F k → w0.heap.size ≤ k) : Ext w0 w' :=
  ((Ch.of_ext h).tr hc).ext fun k hk hf => by have := hF k hf; omega
def Other (w : World) (k : Nat) : Prop := ∀ cs ty, w.heap[k]? = some (.cells cs ty (0, 0)) → ty = 99
theorem CopySt.goO {w0 w w' : World} {L : FL} {M : FsM} {ob n2 l2 : Nat} {sv : Value} {B : Nat} {D : Nat → Prop} {ψ : Nat → Nat} {bw : Nat → Value} (h : CopySt w0 w L M ob n2 l2 sv B D ψ bw) (h0 : FsAt w0 L M) {F : Nat → Prop} (hc : Ch F w w') (hF : ∀ k, F k → w0.heap.size ≤ k) (hn : ∀ k, F k → Other w k) (hB : ¬ F B) : CopySt w0 w' L M ob n2 l2 sv B D ψ bw := by
  have hx := ext_chB h.ext hc hF
  have hno : ∀ {b : Nat} {cs : Array Value} {ty : TypeId}, w.heap[b]? = some (.cells cs ty (0, 0)) → ty ≠ 99 → ¬ F b := fun hb ht hf => ht (hn _ hf _ _ hb)
  refine ⟨hx, h0.ext hx, h.tw.go hc (hno h.tw.box (by decide)) hB fun i hi => ⟨hno (h.tw.fil i hi).1 (by decide), fun k hk => ?_⟩, ⟨(hc.block _ (blk_lt h.out.row) (hno h.out.row (by decide))).trans h.out.row, h.out.ne⟩⟩
  obtain ⟨cs, hcs⟩ := own_ltG (h.tw.fil i hi).2 hk
  exact hno hcs (by decide)
theorem CopySt.go {w0 w w' : World} {L : FL} {M : FsM} {ob n2 l2 : Nat} {sv : Value} {B : Nat} {D : Nat → Prop} {ψ : Nat → Nat} {bw : Nat → Value} (h : CopySt w0 w L M ob n2 l2 sv B D ψ bw) (h0 : FsAt w0 L M) {F : Nat → Prop} (hc : Ch F w w') (hF : ∀ k, F k → w0.heap.size ≤ k) (hn : ∀ k, F k → NoCells w k) (hB : ¬ F B) : CopySt w0 w' L M ob n2 l2 sv B D ψ bw :=
  h.goO h0 hc hF (fun k hk cs ty e => absurd e (hn k hk cs ty)) hB
theorem CopySt.twin {w0 w w' : World} {L : FL} {M : FsM} {ob n2 l2 : Nat} {sv : Value} {B : Nat} {D D' : Nat → Prop} {ψ ψ' : Nat → Nat} {bw bw' : Nat → Value} (h : CopySt w0 w L M ob n2 l2 sv B D ψ bw) (h0 : FsAt w0 L M) (hB : w0.heap.size ≤ B) (hc : Ch (fun k => k = B) w w') (ht : TwAt B w' L M (B + 1) B D' ψ' bw') : CopySt w0 w' L M ob n2 l2 sv B D' ψ' bw' := by
  have hx := ext_chB h.ext hc fun k hk => by rw [hk]; exact hB
  refine ⟨hx, h0.ext hx, ht, ⟨(hc.block _ (blk_lt h.out.row) fun e => ?_).trans h.out.row, h.out.ne⟩⟩
  obtain ⟨E, c, hN, _⟩ := h.tw.map
  exact obj_ne h.out.row hN.map (by simp) e
def KeepA (w : World) (mb : Nat) (D : Nat → Prop) (ψ : Nat → Nat) (l : Nm) : Prop := NamesAt w mb ψ l ∧ ∀ p, p ∈ l → D p.2
theorem KeepA.go {w w' : World} {mb : Nat} {D : Nat → Prop} {ψ : Nat → Nat} {l : Nm} (h : KeepA w mb D ψ l) (he : w'.heap[mb]? = w.heap[mb]?) : KeepA w' mb D ψ l := ⟨h.1.go he, h.2⟩
theorem KeepA.ext {w : World} {mb : Nat} {D D' : Nat → Prop} {ψ ψ' : Nat → Nat} {l : Nm} (h : KeepA w mb D ψ l) (hd : ∀ i, D i → D' i) (hψ : ∀ i, D i → ψ' i = ψ i) : KeepA w mb D' ψ' l :=
  ⟨h.1.cong fun p hp => hψ _ (h.2 p hp), fun p hp => hd _ (h.2 p hp)⟩
theorem PartN.lt {w : World} {mb : Nat} {L : FL} {D : Nat → Prop} {ψ : Nat → Nat} {E1 : Ent ByteArray} {seen : Array Nat} {pl : Nm} (h : PartN w mb L D ψ E1 seen pl) : ∃ es c, w.heap[mb]? = some (.map es c) := by
  obtain ⟨E, c, h1, _⟩ := h.at_
  exact ⟨_, _, h1.map⟩
theorem map_no {w : World} {k : Nat} {es : Array MapEntry} {c : Nat} (h : w.heap[k]? = some (.map es c)) : NoCells w k := fun cs ty e => by rw [h] at e; cases e
theorem iter_no {w : World} {k : Nat} {a : Option Nat} {s c : Nat} {seen : Array Nat} (h : w.heap[k]? = some (.mapIter a s seen c)) : NoCells w k := fun cs ty e => by rw [h] at e; cases e
theorem filter_none (E : Ent ByteArray) : (E.filter fun p => (#[] : Array Nat).contains p.2.2) = [] := by
  rw [List.filter_eq_nil_iff]
  simp
theorem CopySt.ext' {w0 w w' : World} {L : FL} {M : FsM} {ob n2 l2 : Nat} {sv : Value} {B : Nat} {D : Nat → Prop} {ψ : Nat → Nat} {bw : Nat → Value} (h : CopySt w0 w L M ob n2 l2 sv B D ψ bw) (he : Ext w w') : CopySt w0 w' L M ob n2 l2 sv B D ψ bw :=
  ⟨h.ext.tr he, h.src.ext he, h.tw.ext he, ⟨(he.block _ (blk_lt h.out.row)).trans h.out.row, h.out.ne⟩⟩
theorem PartN.blt {w : World} {mb : Nat} {L : FL} {D : Nat → Prop} {ψ : Nat → Nat} {E1 : Ent ByteArray} {seen : Array Nat} {pl : Nm} (h : PartN w mb L D ψ E1 seen pl) : mb < w.heap.size := by
  obtain ⟨es, c, hm⟩ := h.lt
  exact blk_lt hm
theorem ent_any {L : FL} {l : Nm} (hr : ∀ p, p ∈ l → L.R p.2) {E : Ent ByteArray} (hT : NmTells L.φ E l) {p : ByteArray × Nat × Nat} (hp : p ∈ E) : ∃ i, L.R i ∧ p.2.1 = L.φ i := by
  have h1 : (p.1, p.2.1) ∈ pr E := List.mem_map.2 ⟨p, hp, rfl⟩
  obtain ⟨q, hq, e⟩ := List.mem_map.1 (hT.mem_iff.1 h1)
  simp only [Prod.mk.injEq] at e
  exact ⟨q.2, hr q hq, e.2.symm⟩
theorem copy_put {w wz w6 : World} {L : FL} {M : FsM} {ob n2 l2 mt mo : Nat} {sv : Value} {B i : Nat} {D : Nat → Prop} {ψ ψ' : Nat → Nat} {bw bw' : Nat → Value} {E1 : Ent ByteArray} {seen : Array Nat} {pl lo : Nm} (H : FsAt w L M) (hB : B = w.heap.size) (CZ : CopySt w wz L M ob n2 l2 sv B D ψ bw) (PZ : PartN wz mt L D ψ E1 seen pl) (KZ : KeepA wz mo D ψ lo)
    (T6 : TwAt B w6 L M (B + 1) B (fun j => D j ∨ j = i) ψ' bw') (e6 : ∀ j, D j → ψ' j = ψ j ∧ bw' j = bw j) (ch6 : Ch (fun k => k = B) wz.drew w6) (h1 : B ≠ mt) (h2 : B ≠ mo) (hk : (keysE E1).Nodup) (k : ByteArray) :
    CopySt w w6 L M ob n2 l2 sv B (fun j => D j ∨ j = i) ψ' bw' ∧ PartN w6 mt L (fun j => D j ∨ j = i) ψ' E1 seen pl ∧ KeepA w6 mo (fun j => D j ∨ j = i) ψ' lo ∧ (∀ r o, wz.heap[r]? = some o → r ≠ B → w6.heap[r]? = some o) ∧
    ∃ w7 Eo co, (Instr.mapUpdate 89 (.map (some mt)) (nmK k) (ptrV (ψ' i))).run Try.prog w6 = .ok () w7 ∧ NmAt nmK w7 mt (putEn Eo k (ψ' i) co) (clkE Eo k co) ∧ Ch (fun x => x = mt) w6 w7 ∧ NmTells ψ' Eo pl ∧ NmAt nmK w6 mt Eo co := by
  have ch : Ch (fun k => k = B) wz w6 := ((Ch.rfl (fun k => k = B) wz).dr).tr ch6
  have P6 := (PZ.ext (D' := fun j => D j ∨ j = i) (ψ' := ψ') (fun j h => .inl h) (fun j h => (e6 j h).1)).go (ch.block _ PZ.blt (Ne.symm h1))
  have K6 := (KZ.ext (D' := fun j => D j ∨ j = i) (ψ' := ψ') (fun j h => .inl h) (fun j h => (e6 j h).1)).go (ch.block _ KZ.1.lt (Ne.symm h2))
  refine ⟨CZ.twin H (Nat.le_of_eq hB.symm) ch T6, P6, K6, fun r o hr hne => (ch.block _ (blk_lt hr) hne).trans hr, ?_⟩
  obtain ⟨Eo, co, hEo, hTo⟩ := P6.at_
  obtain ⟨w7, hput, n7, ch7⟩ := nm_put mN_map mN_key hEo (nodup_of_tells hTo P6.src hk) k (ψ' i) trivial (fun _ _ => trivial)
  exact ⟨w7, Eo, co, hput, n7, ch7, hTo, hEo⟩
/-- changes that have been copied -/
structure PartC (w : World) (sv : Value) (M : FsM) (D : Nat → Prop) (ψ : Nat → Nat) (B i : Nat) : Prop where
  row : w.ownsRow 0 99 3 sv i ((M.since.take i).flatMap (eChg ψ))
  dom : ∀ c, c ∈ M.since.take i → c.to_.size ≠ 0 → D c.x
  new : ∀ k, sv.ownBlock = some k → B ≤ k
theorem PartC.ch {w w' : World} {sv : Value} {M : FsM} {D : Nat → Prop} {ψ : Nat → Nat} {B i : Nat} {F : Nat → Prop} (h : PartC w sv M D ψ B i) (hc : Ch F w w') (hF : ∀ k, sv.ownBlock = some k → ¬ F k) : PartC w' sv M D ψ B i :=
  ⟨owns_ch h.row fun g hg => by
    obtain ⟨cs, hcs⟩ := own_ltG h.row hg
    exact hc.block g (blk_lt hcs) (hF g hg), h.dom, h.new⟩
theorem PartC.ext {w : World} {sv : Value} {M : FsM} {D D' : Nat → Prop} {ψ ψ' : Nat → Nat} {B i : Nat} (h : PartC w sv M D ψ B i) (hd : ∀ i, D i → D' i) (hψ : ∀ i, D i → ψ' i = ψ i) : PartC w sv M D' ψ' B i := by
  refine ⟨?_, fun c hc h0 => hd _ (h.dom c hc h0), h.new⟩
  have e : (M.since.take i).flatMap (eChg ψ') = (M.since.take i).flatMap (eChg ψ) := flatMap_congrG fun c hc => by
    unfold eChg xChg
    by_cases h0 : c.to_.size = 0
    · rw [if_pos h0, if_pos h0]
    · rw [if_neg h0, if_neg h0, hψ _ (h.dom c hc h0)]
  rw [e]
  exact h.row
/-- what stands while changes are copied -/
structure CopyC (w0 w : World) (L : FL) (M : FsM) (ob n2 l2 : Nat) (sv : Value) (B : Nat) (D : Nat → Prop) (ψ : Nat → Nat) (bw : Nat → Value) (i : Nat) : Prop where
  st : CopySt w0 w L M ob n2 l2 sv B D ψ bw
  kn : KeepA w n2 D ψ M.names
  kl : KeepA w l2 D ψ M.lasts
  pc : PartC w sv M D ψ w0.heap.size i
theorem CopyC.ext {w0 w w' : World} {L : FL} {M : FsM} {ob n2 l2 : Nat} {sv : Value} {B : Nat} {D : Nat → Prop} {ψ : Nat → Nat} {bw : Nat → Value} {i : Nat} (h : CopyC w0 w L M ob n2 l2 sv B D ψ bw i) (he : Ext w w') : CopyC w0 w' L M ob n2 l2 sv B D ψ bw i :=
  ⟨h.st.ext' he, h.kn.go (he.block _ h.kn.1.lt), h.kl.go (he.block _ h.kl.1.lt), h.pc.ch (F := fun _ => False) (Ch.of_ext he) fun _ _ => id⟩
/-- a block of the loop's own -/
theorem CopyC.own {w0 w w' : World} {L : FL} {M : FsM} {ob n2 l2 : Nat} {sv : Value} {B : Nat} {D : Nat → Prop} {ψ : Nat → Nat} {bw : Nat → Value} {i b : Nat} {cs : Array Value} (h : CopyC w0 w L M ob n2 l2 sv B D ψ bw i) (h0 : FsAt w0 L M) (hb : w.heap[b]? = some (.cells cs 99 (0, 0))) (hlt : w0.heap.size ≤ b) (hsv : sv.ownBlock ≠ some b) (hc : Ch (fun k => k = b) w w') : CopyC w0 w' L M ob n2 l2 sv B D ψ bw i := by
  refine ⟨h.st.goO h0 hc (fun k hk => by rw [hk]; exact hlt) (fun k hk cs2 ty e => by rw [hk, hb] at e; cases e; rfl) (fun e => ?_), h.kn.go (hc.block _ h.kn.1.lt fun e => ?_), h.kl.go (hc.block _ h.kl.1.lt fun e => ?_), h.pc.ch hc fun k hk e => hsv (by rw [hk, e])⟩
  · obtain ⟨E, c, hN, _⟩ := h.st.tw.map
    have hm := hN.map
    rw [e] at hm
    rw [hb] at hm
    cases hm
  · obtain ⟨es, c, hm⟩ := h.kn.1.map
    rw [e, hb] at hm; cases hm
  · obtain ⟨es, c, hm⟩ := h.kl.1.map
    rw [e, hb] at hm; cases hm
theorem CopyC.twin {w0 w w' : World} {L : FL} {M : FsM} {ob n2 l2 : Nat} {sv : Value} {B x : Nat} {D : Nat → Prop} {ψ ψ' : Nat → Nat} {bw bw' : Nat → Value} {i : Nat} (h : CopyC w0 w L M ob n2 l2 sv B D ψ bw i) (h0 : FsAt w0 L M) (hB : w0.heap.size ≤ B) (hn : B ≠ n2) (hl : B ≠ l2) (ht : TwAt B w' L M (B + 1) B (fun j => D j ∨ j = x) ψ' bw') (he : ∀ j, D j → ψ' j = ψ j ∧ bw' j = bw j) (hc : Ch (fun k => k = B) w w') :
    CopyC w0 w' L M ob n2 l2 sv B (fun j => D j ∨ j = x) ψ' bw' i := by
  refine ⟨h.st.twin h0 hB hc ht, (h.kn.ext (fun j h => .inl h) (fun j h => (he j h).1)).go (hc.block _ h.kn.1.lt (Ne.symm hn)), (h.kl.ext (fun j h => .inl h) (fun j h => (he j h).1)).go (hc.block _ h.kl.1.lt (Ne.symm hl)), (h.pc.ext (fun j h => .inl h) (fun j h => (he j h).1)).ch hc fun k hk e => ?_⟩
  obtain ⟨E, c, hN, _⟩ := h.st.tw.map
  obtain ⟨cs, hcs⟩ := own_ltG h.pc.row hk
  rw [e, hN.map] at hcs
  cases hcs
/-- one change more -/
theorem CopyC.app {w0 w w6 : World} {L : FL} {M : FsM} {ob n2 l2 : Nat} {a2 a6 : Option Addr} {cap2 cap6 B : Nat} {D : Nat → Prop} {ψ : Nat → Nat} {bw : Nat → Value} {i : Nat} {o : Obj} (h : CopyC w0 w L M ob n2 l2 (.slice a2 i cap2) B D ψ bw i) (h0 : FsAt w0 L M) (hi : i < M.since.length) (hx : (nth M.since i).to_.size ≠ 0 → D (nth M.since i).x) (hob : w0.heap.size ≤ ob)
    (hp : AppP (w.drew.alloc o) w6 99 3 (.slice a2 i cap2) (.slice a6 (i + 1) cap6) (i + 1) ((M.since.take i).flatMap (eChg ψ) ++ eChg ψ (nth M.since i))) :
    CopyC w0 (w6.setCell ⟨ob, 2, none⟩ (.slice a6 (i + 1) cap6)) L M ob n2 l2 (.slice a6 (i + 1) cap6) B D ψ bw (i + 1) := by
  have hA : CopyC w0 (w.drew.alloc o) L M ob n2 l2 (.slice a2 i cap2) B D ψ bw i := h.ext (show Ext w (w.drew.alloc o) from (Ext.rfl w).dr.al o)
  obtain ⟨F, hF⟩ : ∃ F : Nat → Prop, F = fun k => k = ob ∨ (Value.slice a2 i cap2).ownBlock = some k := ⟨_, rfl⟩
  have hc : Ch F (w.drew.alloc o) (w6.setCell ⟨ob, 2, none⟩ (.slice a6 (i + 1) cap6)) := by
    rw [hF]
    exact (hp.ch.mono fun k _ hk => .inr hk).setC (.inl rfl)
  have hFo : ∀ k, F k → w0.heap.size ≤ k := fun k hk => by
    rw [hF] at hk
    rcases hk with rfl | hk
    · exact hob
    · exact hA.pc.new k hk
  have hno : ∀ {b : Nat} {x : Obj}, (w.drew.alloc o).heap[b]? = some x → (∀ cs, x ≠ .cells cs 92 (0, 0)) → (∀ cs, x ≠ .cells cs 99 (0, 0)) → ¬ F b := fun {b} {x} hb h1 h2 hf => by
    rw [hF] at hf
    rcases hf with rfl | hf
    · rw [hA.st.out.row] at hb
      exact h1 _ (Option.some.inj hb).symm
    · obtain ⟨cs, hcs⟩ := own_ltG hA.pc.row hf
      rw [hcs] at hb
      exact h2 _ (Option.some.inj hb).symm
  have hx2 := ext_chB hA.st.ext hc hFo
  have hr6 : w6.heap[ob]? = (w.drew.alloc o).heap[ob]? := hp.ch.block _ (blk_lt hA.st.out.row) (own_neG hA.pc.row hA.st.out.row (by simp))
  have hrow := heap_setCell_same _ _ 2 _ _ (.slice a6 (i + 1) cap6) (hr6.trans hA.st.out.row)
  have hown : (w6.setCell ⟨ob, 2, none⟩ (.slice a6 (i + 1) cap6)).ownsRow 0 99 3 (.slice a6 (i + 1) cap6) (i + 1) ((M.since.take i).flatMap (eChg ψ) ++ eChg ψ (nth M.since i)) := owns_ch hp.own fun g hg => heap_setCell_other _ _ _ _ (fun e => own_neG hp.own (hr6.trans hA.st.out.row) (by simp) (by rw [hg, e]))
  refine ⟨⟨hx2, h0.ext hx2, hA.st.tw.go hc (hno hA.st.tw.box (by simp) (by simp)) ?_ fun j hj => ⟨hno (hA.st.tw.fil j hj).1 (by simp) (by simp), fun k hk => ?_⟩, ⟨hrow.trans rfl, hA.st.out.ne⟩⟩, hA.kn.go ?_, hA.kl.go ?_, ⟨?_, fun c hc2 h2 => ?_, fun k hk => ?_⟩⟩
  · obtain ⟨E, c, hN, _⟩ := hA.st.tw.map
    exact hno hN.map (by simp) (by simp)
  · obtain ⟨cs, hcs⟩ := own_ltG (hA.st.tw.fil j hj).2 hk
    exact hno hcs (by simp) (by simp)
  · obtain ⟨es, c, hm⟩ := hA.kn.1.map
    exact hc.block _ (blk_lt hm) (hno hm (by simp) (by simp))
  · obtain ⟨es, c, hm⟩ := hA.kl.1.map
    exact hc.block _ (blk_lt hm) (hno hm (by simp) (by simp))
  · rw [take_succ_nth _ _ hi, List.flatMap_append]
    simpa using hown
  · rw [take_succ_nth _ _ hi] at hc2
    rcases List.mem_append.1 hc2 with h3 | h3
    · exact h.pc.dom c h3 h2
    · rw [List.mem_singleton.1 h3] at h2 ⊢
      exact hx h2
  · rcases hp.blk k hk with h3 | h3
    · exact h.pc.new k h3
    · have := hA.st.ext.size
      omega
theorem CopyC.fin {w0 w : World} {L : FL} {M : FsM} {ob n2 l2 : Nat} {sv : Value} {B : Nat} {D : Nat → Prop} {ψ : Nat → Nat} {bw : Nat → Value} (h : CopyC w0 w L M ob n2 l2 sv B D ψ bw M.since.length) (h0 : FsAt w0 L M) (hB : w0.heap.size ≤ B) (hob : w0.heap.size ≤ ob) (hn : w0.heap.size ≤ n2) (hl : w0.heap.size ≤ l2) :
    FsAt w ⟨ob, n2, l2, sv, ψ, bw, D⟩ M ∧ Ext w0 w ∧ ∀ k, FsFoot ⟨ob, n2, l2, sv, ψ, bw, D⟩ k → w0.heap.size ≤ k := by
  have hp := h.pc
  have hrow := hp.row
  have hdom := hp.dom
  rw [List.take_length] at hrow hdom
  refine ⟨⟨h.st.out.row, h.kn.1, h.kl.1, hrow, fun i hi => ?_, fun i hi => h0.lt i (h.st.tw.sub i hi), h.st.tw.fil, h.st.out.ne, h.st.tw.inj, h.st.tw.ap⟩, h.st.ext, fun k hk => ?_⟩
  · rcases hi with ⟨p, hp, rfl⟩ | ⟨p, hp, rfl⟩ | ⟨c, hc, h1, rfl⟩
    · exact h.kn.2 p hp
    · exact h.kl.2 p hp
    · exact hdom c hc h1
  · rcases hk with rfl | rfl | rfl | hk | ⟨i, hi, rfl | hk⟩
    · exact hob
    · exact hn
    · exact hl
    · exact hp.new k hk
    · exact Nat.le_trans hB (h.st.tw.new i hi).1
    · exact Nat.le_trans hB ((h.st.tw.new i hi).2 k hk)
theorem CopyC.app_out {w0 w w6 : World} {L : FL} {M : FsM} {ob n2 l2 : Nat} {sv sv6 : Value} {B : Nat} {D : Nat → Prop} {ψ : Nat → Nat} {bw : Nat → Value} {i m : Nat} {o : Obj} {ys : List Value} (h : CopyC w0 w L M ob n2 l2 sv B D ψ bw i) (hp : AppP (w.drew.alloc o) w6 99 3 sv sv6 m ys) : OutAt w6 ob n2 l2 sv M := by
  have hA : CopyC w0 (w.drew.alloc o) L M ob n2 l2 sv B D ψ bw i := h.ext (show Ext w (w.drew.alloc o) from (Ext.rfl w).dr.al o)
  exact ⟨(hp.ch.block _ (blk_lt hA.st.out.row) (own_neG hA.pc.row hA.st.out.row (by simp))).trans hA.st.out.row, hA.st.out.ne⟩
theorem app_cast {w w6 : World} {E : TypeId} {sz n : Nat} {v v' : Value} {ys xs news : List Value} (h : xs = news) (hp : AppP w w6 E sz v v' n (ys ++ news)) : AppP w w6 E sz v v' n (ys ++ xs) := by rw [h]; exact hp
theorem CopyC.start {w0 w : World} {L : FL} {M : FsM} {ob n2 l2 : Nat} {B : Nat} {D : Nat → Prop} {ψ : Nat → Nat} {bw : Nat → Value} (h : CopySt w0 w L M ob n2 l2 (.slice none 0 0) B D ψ bw) (hn : KeepA w n2 D ψ M.names) (hl : KeepA w l2 D ψ M.lasts) : CopyC w0 w L M ob n2 l2 (.slice none 0 0) B D ψ bw 0 :=
  ⟨h, hn, hl, ⟨⟨rfl, .inl ⟨rfl, rfl⟩⟩, fun c hc => (by cases hc), fun k hk => (by cases hk)⟩⟩
/-- the cells of a change, in any world -/
theorem chg_cells {w : World} {g : Nat} {x y z : Value} (h : w.heap[g]? = some (.cells #[x, y, z] 99 (0, 0))) : w.cell? ⟨g, 0, none⟩ = some x ∧ w.cell? ⟨g, 1, none⟩ = some y ∧ w.cell? ⟨g, 2, none⟩ = some z ∧ ∀ i, w.frozen? ⟨g, i, none⟩ = false := by
  have c := fun j => cell_of_row w g j _ _ _ h
  exact ⟨c 0, c 1, c 2, fun i => frozen_of_row _ _ _ _ _ h⟩
theorem CopyC.sv_ne {w0 w : World} {L : FL} {M : FsM} {ob n2 l2 : Nat} {sv : Value} {B : Nat} {D : Nat → Prop} {ψ : Nat → Nat} {bw : Nat → Value} {i : Nat} (h : CopyC w0 w L M ob n2 l2 sv B D ψ bw i) : sv.ownBlock ≠ some w.heap.size := fun e => by
  obtain ⟨cs, hcs⟩ := own_ltG h.pc.row e
  exact absurd (blk_lt hcs) (Nat.lt_irrefl _)
/-- the change's own box told anew -/
theorem CopyC.told {w0 w w6 : World} {L : FL} {M : FsM} {ob n2 l2 : Nat} {sv : Value} {B x g : Nat} {D : Nat → Prop} {ψ ψ' : Nat → Nat} {bw bw' : Nat → Value} {i : Nat} {p q : ByteArray} {z z' : Value} (h : CopyC w0 w L M ob n2 l2 sv B D ψ bw i) (h0 : FsAt w0 L M) (hB : w0.heap.size ≤ B) (hn : B ≠ n2) (hl : B ≠ l2) (hs : sv.ownBlock ≠ some g) (hg : w0.heap.size ≤ g) (hb : w.heap[g]? = some (.cells #[.string p, .string q, z] 99 (0, 0)))
    (ht : TwAt B w6 L M (B + 1) B (fun j => D j ∨ j = x) ψ' bw') (he : ∀ j, D j → ψ' j = ψ j ∧ bw' j = bw j) (hc : Ch (fun k => k = B) w w6) : g ≠ B ∧ w6.heap[g]? = some (.cells #[.string p, .string q, z] 99 (0, 0)) ∧ (w6.setCell ⟨g, 2, none⟩ z').heap[g]? = some (.cells #[.string p, .string q, z'] 99 (0, 0)) ∧ CopyC w0 (w6.setCell ⟨g, 2, none⟩ z') L M ob n2 l2 sv B (fun j => D j ∨ j = x) ψ' bw' i := by
  have hne : g ≠ B := fun e => by
    obtain ⟨E, c, hN, _⟩ := h.st.tw.map
    have hm := hN.map
    rw [← e, hb] at hm
    cases hm
  have h6 := h.twin h0 hB hn hl ht he hc
  have hb6 := (hc.block _ (blk_lt hb) hne).trans hb
  exact ⟨hne, hb6, (heap_setCell_same _ _ _ _ _ _ hb6).trans rfl, h6.own h0 hb6 hg hs ((Ch.rfl _ w6).setC rfl)⟩
set_option maxRecDepth 100000 in
set_option maxHeartbeats 16000000 in
theorem fsCopy_in (L : FL) (M : FsM) (w : World) (h : FsAt w L M) (ok : M.Ok) (ho : M.ops ≤ OpsMax) :
    Calls Try.prog 34 #[ptrV L.fb] w (fun e w' => ∃ L2 : FL, e = .returned (ptrV L2.fb) ∧ FsAt w' L2 M ∧ Ext w w' ∧ ∀ k, FsFoot L2 k → w.heap.size ≤ k) := by
  have hmm := @run_makeMap Try.prog
  have H := hid h
  have OK := hid ok
  have HO := hid ho
  have hlf := h.foot_lt (k := L.fb) (.inl rfl)
  obtain ⟨c0, c1, c2, c3, c4, c5, c6, _⟩ := fs_cells h.row
  obtain ⟨E1, k1, hN1, hT1⟩ := h.now
  obtain ⟨E2, k2, hN2, hT2⟩ := h.las
  have N1 := hid hN1
  have N2 := hid hN2
  have HT1 := hid hT1
  have HT2 := hid hT2
  clear h ok ho hN1 hN2 hT1 hT2
  go_enter Try.func34, Try.ntmps34
  go_wp2_with fail
  have X1 := hid (((Ext.rfl w).al (.map #[] 0)).al (.cells #[.map (some w.heap.size)] 106))
  have T0 := hid (tw_new w L M)
  have H1 := hid (H.out.ext X1.out)
  generalize (w.alloc (.map #[] 0)).alloc (.cells #[.map (some w.heap.size)] 106) = w1 at *
  obtain ⟨B, hB⟩ : ∃ B, B = w.heap.size := ⟨_, rfl⟩
  rw [← hB] at T0 ⊢
  have HB := hid hB
  clear c0 c1 c2 c3 c4 c5 c6 hB hlf
  obtain ⟨c0, c1, c2, c3, c4, c5, c6, _⟩ := fs_cells H1.out.row
  have hlf := H1.out.foot_lt (k := L.fb) (.inl rfl)
  have hlf2 := Nat.ne_of_gt hlf
  go_cut [5] from 16 to 35 (fun v wx => ∃ ob n2 l2, v = ptrV ob ∧ OutAt wx ob n2 l2 (.slice none 0 0) M ∧ wx.heap[n2]? = some (.map #[] 0) ∧ wx.heap[l2]? = some (.map #[] 0) ∧ Ext w1 wx ∧ w1.heap.size ≤ ob ∧ w1.heap.size ≤ n2 ∧ w1.heap.size ≤ l2)
  case first =>
    go_region
    all_goals
      go_wp2_with fail
      go_meet
      case rel =>
        first
          | exact out_new w1 M _ _ (.inl ⟨rfl, rfl⟩)
          | exact out_new w1 M _ _ (.inr ⟨rfl, rfl⟩)
  case rest =>
    obtain ⟨ob, n2, l2, rfl, hout, hn2, hl2, hx2, lob, ln2, ll2⟩ := hcut
    have hts : B + 1 < w1.heap.size := blk_lt T0.out.box
    have HNE := hid (show B ≠ n2 ∧ B ≠ l2 ∧ n2 ≠ l2 ∧ w.heap.size ≤ n2 ∧ w.heap.size ≤ l2 ∧ w.heap.size ≤ ob from by have := HB.out; have := hout.ne; omega)
    have CS0 := hid (show CopySt w wc L M ob n2 l2 (.slice none 0 0) B (fun _ => False) (fun _ => 0) (fun _ => .slice none 0 0) from ⟨X1.out.tr hx2, H1.out.ext hx2, T0.out.ext hx2, hout⟩)
    have KL0 := hid (show KeepA wc l2 (fun _ => False) (fun _ => 0) [] from ⟨⟨[], 0, ⟨hl2, fun p hp => (by cases hp), List.nodup_nil⟩, List.Perm.refl _⟩, fun p hp => (by cases hp)⟩)
    have PN0 := hid (show PartN wc n2 L (fun _ => False) (fun _ => 0) E1 #[] [] from ⟨⟨[], 0, ⟨hn2, fun p hp => (by cases hp), List.nodup_nil⟩, List.Perm.refl _⟩, fun p hp => (by cases hp), by rw [filter_none]; exact List.Perm.refl _⟩)
    clear hout hn2 hl2 hx2 lob ln2 ll2 c0 c1 c2 c3 c4 c5 c6 hlf hlf2 T0 X1 H1 hts
    obtain ⟨c0, c1, _, _, _, _, _, _⟩ := fs_cells CS0.out.src.row
    have hrg := run_range_map (P := Try.prog) wc 89 9 94 L.nb _ k1 mN_map (N1.out.go (CS0.out.ext.block _ N1.out.lt)).map
    go_wp2_with fail
    have IT0 := hid (heap_alloc_new wc (.mapIter (some L.nb) k1 #[] k1))
    have XI := hid ((Ext.rfl wc).al (.mapIter (some L.nb) k1 #[] k1))
    have CI := hid (CS0.out.ext' XI.out)
    have PI := hid (PN0.out.go (XI.out.block _ PN0.out.blt))
    have KI := hid (KL0.out.go (XI.out.block _ KL0.out.1.lt))
    obtain ⟨r, hr⟩ : ∃ r, r = wc.heap.size := ⟨_, rfl⟩
    have HRS := hid (show w.heap.size ≤ r from by rw [hr]; exact CS0.out.ext.size)
    rw [← hr] at IT0 ⊢
    generalize wc.alloc (.mapIter (some L.nb) k1 #[] k1) = wi at *
    clear hrg c0 c1 hr XI CS0 PN0 KL0
    go_loopw [6] (fun s wr => ∃ (seen : Array Nat) (D : Nat → Prop) (ψ : Nat → Nat) (bw : Nat → Value) (pl : Nm), wr.heap[r]? = some (.mapIter (some L.nb) k1 seen k1) ∧ CopySt w wr L M ob n2 l2 (.slice none 0 0) B D ψ bw ∧ PartN wr n2 L D ψ E1 seen pl ∧ KeepA wr l2 D ψ []) (fun _ wr => leftE E1 (wr.iterSeen r))
    case atStart => exact ⟨#[], _, _, _, [], IT0.out, CI.out, PI.out, KI.out⟩
    case round =>
      clear CI PI KI IT0
      obtain ⟨seen, D, ψ, bw, pl, hit, hcs, hpn, hkp⟩ := hrel
      have NR := N1.out.go (hcs.ext.block _ N1.out.lt)
      rcases nm_next (P := Try.prog) NR hit with ⟨hall, hnx⟩ | ⟨p, wz, hp, hns, hnx, hen, hit2, hch, hle⟩
      · have hdone := hpn.done H.out.inj hcs.tw.sub (fun p hp => H.out.ref _ (.inl ⟨p, hp, rfl⟩)) HT1.out hall
        have CS1 := hid hcs
        have KA1 := hid (show KeepA wr n2 D ψ M.names from hdone)
        have KB1 := hid hkp
        clear hit hcs hpn hkp NR hall hdone HRS
        have PN1 := hid (show PartN wr l2 L D ψ E2 #[] [] from ⟨KB1.out.1, fun p hp => (by cases hp), by rw [filter_none]; exact List.Perm.refl _⟩)
        clear KB1
        obtain ⟨c0, c1, _, _, _, _, _, _⟩ := fs_cells CS1.out.src.row
        have hrg := run_range_map (P := Try.prog) wr 89 9 94 L.lb _ k2 mN_map (N2.out.go (CS1.out.ext.block _ N2.out.lt)).map
        go_wp2_with fail
        have IT0 := hid (heap_alloc_new wr (.mapIter (some L.lb) k2 #[] k2))
        have XI := hid ((Ext.rfl wr).al (.mapIter (some L.lb) k2 #[] k2))
        have CI := hid (CS1.out.ext' XI.out)
        have PI := hid (PN1.out.go (XI.out.block _ PN1.out.blt))
        have KI := hid (KA1.out.go (XI.out.block _ KA1.out.1.lt))
        obtain ⟨r, hr⟩ : ∃ r, r = wr.heap.size := ⟨_, rfl⟩
        have HRS := hid (show w.heap.size ≤ r from by rw [hr]; exact CS1.out.ext.size)
        rw [← hr] at IT0 ⊢
        generalize wr.alloc (.mapIter (some L.lb) k2 #[] k2) = wi at *
        clear hrg c0 c1 hr XI CS1 PN1 KA1
        go_loopw [8] (fun s wr => ∃ (seen : Array Nat) (D : Nat → Prop) (ψ : Nat → Nat) (bw : Nat → Value) (pl : Nm), wr.heap[r]? = some (.mapIter (some L.lb) k2 seen k2) ∧ CopySt w wr L M ob n2 l2 (.slice none 0 0) B D ψ bw ∧ PartN wr l2 L D ψ E2 seen pl ∧ KeepA wr n2 D ψ M.names) (fun _ wr => leftE E2 (wr.iterSeen r))
        case atStart => exact ⟨#[], _, _, _, [], IT0.out, CI.out, PI.out, KI.out⟩
        case round =>
          clear CI PI KI IT0
          obtain ⟨seen, D, ψ, bw, pl, hit, hcs, hpn, hkp⟩ := hrel
          have NR := N2.out.go (hcs.ext.block _ N2.out.lt)
          rcases nm_next (P := Try.prog) NR hit with ⟨hall, hnx⟩ | ⟨p, wz, hp, hns, hnx, hen, hit2, hch, hle⟩
          · have hdone := hpn.done H.out.inj hcs.tw.sub (fun p hp => H.out.ref _ (.inr <| .inl ⟨p, hp, rfl⟩)) HT2.out hall
            have CS3 := hid hcs
            have KL3 := hid (show KeepA wr l2 D ψ M.lasts from hdone)
            have KN3 := hid hkp
            clear hit hcs hpn hkp NR hall hdone HRS
            obtain ⟨c0, c1, c2, _, _, _, _, _⟩ := fs_cells CS3.out.src.row
            obtain ⟨aS, capS, hsv, _⟩ := slice_ofG H.out.sin
            rw [hsv] at c2
            have HSV := hid hsv
            have CC0 := hid (CopyC.start CS3.out KN3.out KL3.out)
            clear hsv c0 c1 CS3 KN3 KL3
            go_wp2_with fail
            clear c2
            go_loopw [77] (fun t wx => ∃ (i : Nat) (D : Nat → Prop) (ψ : Nat → Nat) (bw : Nat → Value) (a2 : Option Addr) (cap2 : Nat), i ≤ M.since.length ∧ t = .int .i64 i ∧ CopyC w wx L M ob n2 l2 (.slice a2 i cap2) B D ψ bw i) (fun t _ => M.since.length - (intOf t).toNat)
            case atStart => exact ⟨0, _, _, _, none, 0, Nat.zero_le _, rfl, CC0.out⟩
            case round =>
              clear CC0
              obtain ⟨i, D3, ψ3, bw3, a2, cap2, hi, rfl, hcc⟩ := hrel
              have CC := hid hcc
              by_cases hlt : i < M.since.length
              · have d1 : decide ((i : Int) < (M.since.length : Int)) = true := decide_eq_true (by omega)
                have HLT := hid hlt
                have hml : M.since.length ≤ 1099511627776 := by have h1 := OK.out.ll; have h2 := HO.out; unfold OpsMax at h2; omega
                have HBY := hid (show (i + 1) * 40 ≤ 140737488355328 by omega)
                have hwi : wrap64 ((i : Int) + 1) = (i : Int) + 1 := by unfold wrap64; omega
                have HWI := hid hwi
                have hsn : SlS wr (.slice aS M.since.length capS) 3 (eChg L.φ) M.since := by
                  rw [← HSV.out]
                  exact owns_slG CC.out.st.src.sin rfl (fun _ => rfl) (by decide)
                obtain ⟨_, _, he, _, _, hcl⟩ := hsn.ex
                simp only [Value.slice.injEq] at he
                obtain ⟨rfl, _, rfl⟩ := he
                obtain ⟨b, off, rfl, hcell⟩ := hcl (by omega)
                have e0 := hcell i hlt 0 (by decide)
                have e1 := hcell i hlt 1 (by decide)
                have e2 := hcell i hlt 2 (by decide)
                simp only [eChg, List.getElem?_cons_zero, List.getElem?_cons_succ, Nat.add_zero] at e0 e1 e2
                clear hcell hcl hsn hcc hi hml hlt hwi
                by_cases hz : (nth M.since i).to_.size = 0
                · rw [show xChg L.φ (nth M.since i) = .pointer none from if_pos hz] at e2
                  have HX := hid (show (nth M.since i).to_.size ≠ 0 → D3 (nth M.since i).x from fun h => absurd hz h)
                  have HEQ := hid (show eChg ψ3 (nth M.since i) = [.string (nth M.since i).frm, .string (nth M.since i).to_, .pointer none] by unfold eChg xChg; rw [if_pos hz])
                  clear hz
                  go_wp2_with fail
                  have CY := hid (CC.out.ext ((Ext.rfl wr).al (.cells #[.string (nth M.since i).frm, .string (nth M.since i).to_, .pointer none] 99)))
                  have HROW := hid (heap_alloc_new wr (.cells #[.string (nth M.since i).frm, .string (nth M.since i).to_, .pointer none] 99))
                  obtain ⟨g, hg⟩ : ∃ g, g = wr.heap.size := ⟨_, rfl⟩
                  rw [← hg] at HROW ⊢
                  generalize wr.alloc (.cells #[.string (nth M.since i).frm, .string (nth M.since i).to_, .pointer none] 99) = wy at *
                  clear CC hg e0 e1 e2 d1
                  have HBX := hid (blk_lt HROW.out)
                  obtain ⟨m0, m1, m2, mf⟩ := chg_cells HROW.out
                  obtain ⟨d0, d1, d2, df⟩ := CY.out.st.out.cells
                  have hq0 : ob < wy.heap.size := blk_lt CY.out.st.out.row
                  have hq1 : wy.heap.size ≠ ob := Nat.ne_of_gt hq0
                  have hq2 : g < wy.heap.size := HBX.out
                  have hq3 : wy.heap.size ≠ g := Nat.ne_of_gt hq2
                  have HO3 := hid CY.out.pc.row
                  go_wp2_with fail
                  go_region_law (refine step_appG rfl (.tmp 93) (.tmp 95) 90 rfl chgE (by simp [Act.eval, Act.put]) (owns_ext HO3.out (show Ext wy (wy.drew.alloc _) from (Ext.rfl wy).dr.al _)) (ad := ⟨wy.heap.size, 0, none⟩) (m := 1) (c := 1) (news := [.string (nth M.since i).frm, .string (nth M.since i).to_, .pointer none]) (by simp [Act.eval, Act.put]) rfl (news_atG wy.drew #[.string (nth M.since i).frm, .string (nth M.since i).to_, .pointer none] 99) (by intro u hu; simp at hu; rcases hu with rfl | rfl | rfl <;> rfl) HBY.out ?_; intro v' w6 hp; obtain ⟨a6, cap6, rfl, _⟩ := slice_ofG hp.own; have HP := hid (app_cast HEQ.out hp); have HR6 := hid (CY.out.app_out hp); obtain ⟨_, _, z2, zf⟩ := HR6.out.cells; clear hp)
                  all_goals
                    go_wp2_with fail
                    go_roundw
                    case rel => exact ⟨i + 1, _, _, _, a6, cap6, HLT.out, by rw [HWI.out]; rfl, CY.out.app H.out HLT.out (fun h => by first | exact HX.out h | exact .inr rfl) HNE.out.2.2.2.2.2 HP.out⟩
                    case measure => exact ms_lt HLT.out HWI.out
                · rw [show xChg L.φ (nth M.since i) = .pointer (some ⟨L.φ (nth M.since i).x, 0, none⟩) from if_neg hz] at e2
                  have hri := H.out.ref (nth M.since i).x (.inr (.inr ⟨_, nth_mem M.since i HLT.out, hz, rfl⟩))
                  have HZ := hid hz
                  clear hz
                  go_wp2_with fail
                  have CX := hid (CC.out.ext ((Ext.rfl wr).al (.cells #[.string (nth M.since i).frm, .string (nth M.since i).to_, .pointer (some ⟨L.φ (nth M.since i).x, 0, none⟩)] 99)))
                  have hrow := heap_alloc_new wr (.cells #[.string (nth M.since i).frm, .string (nth M.since i).to_, .pointer (some ⟨L.φ (nth M.since i).x, 0, none⟩)] 99)
                  have hsv := CC.out.sv_ne
                  have hgl := CC.out.st.ext.size
                  obtain ⟨g, hg⟩ : ∃ g, g = wr.heap.size := ⟨_, rfl⟩
                  rw [← hg] at hrow hsv hgl ⊢
                  generalize wr.alloc (.cells #[.string (nth M.since i).frm, .string (nth M.since i).to_, .pointer (some ⟨L.φ (nth M.since i).x, 0, none⟩)] 99) = wx at *
                  have HROW0 := hid hrow
                  have HSG := hid (And.intro hsv hgl)
                  have HTW := hid (twin_in B L M (B + 1) B D3 ψ3 bw3 (nth M.since i).x wx CX.out.st.src CX.out.st.tw hri (OK.out.fl (nth M.since i).x).2 (show B ≤ wx.heap.size by have := CX.out.st.ext.size; have := HB.out; omega))
                  clear CC hg e0 e1 e2 d1 hrow hsv hgl hri
                  first
                    | refine HTW.out.mono ?_
                    | (go_at_call 55; refine HTW.out.mono ?_)
                  rintro e w6 ⟨ψ', bw', rfl, T6, e6, ch6⟩
                  obtain ⟨q0, q1, q2, q3⟩ := CX.out.told H.out (Nat.le_of_eq HB.out.symm) HNE.out.1 HNE.out.2.1 HSG.out.1 HSG.out.2 HROW0.out (z' := .pointer (some ⟨ψ' (nth M.since i).x, 0, none⟩)) T6 e6 ch6
                  obtain ⟨_, _, m2, mf⟩ := chg_cells q1
                  have HROW := hid q2
                  have CY := hid q3
                  have HX := hid (show (nth M.since i).to_.size ≠ 0 → (D3 (nth M.since i).x ∨ (nth M.since i).x = (nth M.since i).x) from fun _ => .inr rfl)
                  have HEQ := hid (show eChg ψ' (nth M.since i) = [.string (nth M.since i).frm, .string (nth M.since i).to_, .pointer (some ⟨ψ' (nth M.since i).x, 0, none⟩)] by unfold eChg xChg; rw [if_neg HZ.out])
                  clear q0 q1 q2 q3 T6 e6 ch6 CX HTW HROW0 HSG
                  go_wp2_with fail
                  generalize w6.setCell ⟨g, 2, none⟩ (.pointer (some ⟨ψ' (nth M.since i).x, 0, none⟩)) = wy at *
                  clear m2 mf
                  have HBX := hid (blk_lt HROW.out)
                  obtain ⟨m0, m1, m2, mf⟩ := chg_cells HROW.out
                  obtain ⟨d0, d1, d2, df⟩ := CY.out.st.out.cells
                  have hq0 : ob < wy.heap.size := blk_lt CY.out.st.out.row
                  have hq1 : wy.heap.size ≠ ob := Nat.ne_of_gt hq0
                  have hq2 : g < wy.heap.size := HBX.out
                  have hq3 : wy.heap.size ≠ g := Nat.ne_of_gt hq2
                  have HO3 := hid CY.out.pc.row
                  go_wp2_with fail
                  go_region_law (refine step_appG rfl (.tmp 93) (.tmp 95) 90 rfl chgE (by simp [Act.eval, Act.put]) (owns_ext HO3.out (show Ext wy (wy.drew.alloc _) from (Ext.rfl wy).dr.al _)) (ad := ⟨wy.heap.size, 0, none⟩) (m := 1) (c := 1) (news := [.string (nth M.since i).frm, .string (nth M.since i).to_, .pointer (some ⟨ψ' (nth M.since i).x, 0, none⟩)]) (by simp [Act.eval, Act.put]) rfl (news_atG wy.drew #[.string (nth M.since i).frm, .string (nth M.since i).to_, .pointer (some ⟨ψ' (nth M.since i).x, 0, none⟩)] 99) (by intro u hu; simp at hu; rcases hu with rfl | rfl | rfl <;> rfl) HBY.out ?_; intro v' w6 hp; obtain ⟨a6, cap6, rfl, _⟩ := slice_ofG hp.own; have HP := hid (app_cast HEQ.out hp); have HR6 := hid (CY.out.app_out hp); obtain ⟨_, _, z2, zf⟩ := HR6.out.cells; clear hp)
                  all_goals
                    go_wp2_with fail
                    go_roundw
                    case rel => exact ⟨i + 1, _, _, _, a6, cap6, HLT.out, by rw [HWI.out]; rfl, CY.out.app H.out HLT.out (fun h => by first | exact HX.out h | exact .inr rfl) HNE.out.2.2.2.2.2 HP.out⟩
                    case measure => exact ms_lt HLT.out HWI.out
              · obtain rfl : i = M.since.length := by omega
                have d1 : decide ((M.since.length : Int) < (M.since.length : Int)) = false := decide_eq_false (by omega)
                clear hcc hi hlt
                go_wp2_with fail
                go_ret
                obtain ⟨f1, f2, f3⟩ := CC.out.fin H.out (Nat.le_of_eq HB.out.symm) HNE.out.2.2.2.2.2 HNE.out.2.2.2.1 HNE.out.2.2.2.2.1
                exact ⟨⟨ob, n2, l2, .slice a2 M.since.length cap2, ψ3, bw3, D3⟩, rfl, f1, f2, f3⟩
          · have hrB : r ≠ B := fun e => by
              obtain ⟨Es, cs, hs, _⟩ := hcs.tw.map
              rw [e, hs.map] at hit; cases hit
            have hrT : r ≠ l2 := fun e => by
              obtain ⟨es, cc, hm⟩ := hpn.lt
              rw [e, hm] at hit; cases hit
            have hrO : r ≠ n2 := fun e => by
              obtain ⟨es, cc, hm⟩ := hkp.1.map
              rw [e, hm] at hit; cases hit
            have CZ := hid (hcs.go H.out hch (fun k hk => by rw [hk]; exact HRS.out) (fun k hk => by rw [hk]; exact iter_no hit) (fun e => hrB e.symm))
            have PZ := hid (hpn.go (hch.block _ hpn.blt (Ne.symm hrT)))
            have KZ := hid (hkp.go (hch.block _ hkp.1.lt (Ne.symm hrO)))
            obtain ⟨i, hi, ep⟩ := ent_any (fun p hp => H.out.ref _ (.inr <| .inl ⟨p, hp, rfl⟩)) HT2.out hp
            rw [ep] at hnx hen
            obtain ⟨d0, d1, d2, df⟩ := CZ.out.out.cells
            have HP := hid (And.intro hp hns)
            have HI := hid (And.intro hi ep)
            have IT2 := hid hit2
            have IT := hid hit
            have LE := hid hle
            have HR3 := hid (And.intro hrB (And.intro hrT hrO))
            have hbl := OK.out.fl i
            have HTW := hid (fun (h1 : FsAt wz.drew L M) (h2 : TwAt B wz.drew L M (B + 1) B D ψ bw) => twin_in B L M (B + 1) B D ψ bw i wz.drew h1 h2 hi hbl.2 (show B ≤ wz.heap.size by have := CZ.out.ext.size; have := HB.out; omega))
            clear hit hcs hpn hkp NR hp hns hi ep hit2 hle hrB hrT hrO hbl hch
            go_wp2_with fail
            go_region_with (go_at_call 55; refine (HTW.out (CZ.out.src.ext ((Ext.rfl wz).dr)) (CZ.out.tw.ext ((Ext.rfl wz).dr))).mono ?_; rintro e w6 ⟨ψ', bw', rfl, T6, e6, ch6⟩; obtain ⟨q1, q2, q3, q4, w7, Eo, co, hput, q5, q6, q7, q8⟩ := copy_put H.out HB.out CZ.out PZ.out KZ.out T6 e6 ch6 HNE.out.2.1 HNE.out.1 (HT2.out.keys OK.out.rl) p.1; have C6 := hid q1; have P6 := hid q2; have K6 := hid q3; have I6 := hid (q4 r _ IT2.out HR3.out.1); obtain ⟨g0, g1, g2, gf⟩ := q1.out.cells; have N7 := hid q5; have C7 := hid q6; have HTo := hid q7; have HEo := hid q8; clear T6 e6 ch6 q1 q2 q3 q4 q5 q6 q7 q8)
            all_goals
              go_wp2_with fail
              go_roundw
              case rel =>
                have hstep := P6.out.step HP.out.1 HP.out.2 N2.out.nd (HT2.out.keys OK.out.rl) (.inr rfl) HI.out.2 HTo.out N7.out
                have hcs7 := C6.out.go H.out C7.out (fun k hk => by rw [hk]; have := HNE.out; omega) (fun k hk => by rw [hk]; exact map_no HEo.out.map) (fun e => HNE.out.2.1 e)
                have hk7 := K6.out.go (C7.out.block _ K6.out.1.lt (by have := HNE.out; omega))
                exact ⟨seen.push p.2.2, _, ψ', bw', _, (C7.out.block _ (blk_lt I6.out) HR3.out.2.1).trans I6.out, hcs7, hstep, hk7⟩
              case measure =>
                unfold World.iterSeen
                rw [(C7.out.block _ (blk_lt I6.out) HR3.out.2.1).trans I6.out, IT.out]
                exact LE.out
      · have hrB : r ≠ B := fun e => by
          obtain ⟨Es, cs, hs, _⟩ := hcs.tw.map
          rw [e, hs.map] at hit; cases hit
        have hrT : r ≠ n2 := fun e => by
          obtain ⟨es, cc, hm⟩ := hpn.lt
          rw [e, hm] at hit; cases hit
        have hrO : r ≠ l2 := fun e => by
          obtain ⟨es, cc, hm⟩ := hkp.1.map
          rw [e, hm] at hit; cases hit
        have CZ := hid (hcs.go H.out hch (fun k hk => by rw [hk]; exact HRS.out) (fun k hk => by rw [hk]; exact iter_no hit) (fun e => hrB e.symm))
        have PZ := hid (hpn.go (hch.block _ hpn.blt (Ne.symm hrT)))
        have KZ := hid (hkp.go (hch.block _ hkp.1.lt (Ne.symm hrO)))
        obtain ⟨i, hi, ep⟩ := ent_any (fun p hp => H.out.ref _ (.inl ⟨p, hp, rfl⟩)) HT1.out hp
        rw [ep] at hnx hen
        obtain ⟨d0, d1, d2, df⟩ := CZ.out.out.cells
        have HP := hid (And.intro hp hns)
        have HI := hid (And.intro hi ep)
        have IT2 := hid hit2
        have IT := hid hit
        have LE := hid hle
        have HR3 := hid (And.intro hrB (And.intro hrT hrO))
        have hbl := OK.out.fl i
        have HTW := hid (fun (h1 : FsAt wz.drew L M) (h2 : TwAt B wz.drew L M (B + 1) B D ψ bw) => twin_in B L M (B + 1) B D ψ bw i wz.drew h1 h2 hi hbl.2 (show B ≤ wz.heap.size by have := CZ.out.ext.size; have := HB.out; omega))
        clear hit hcs hpn hkp NR hp hns hi ep hit2 hle hrB hrT hrO hbl hch
        go_wp2_with fail
        go_region_with (go_at_call 55; refine (HTW.out (CZ.out.src.ext ((Ext.rfl wz).dr)) (CZ.out.tw.ext ((Ext.rfl wz).dr))).mono ?_; rintro e w6 ⟨ψ', bw', rfl, T6, e6, ch6⟩; obtain ⟨q1, q2, q3, q4, w7, Eo, co, hput, q5, q6, q7, q8⟩ := copy_put H.out HB.out CZ.out PZ.out KZ.out T6 e6 ch6 HNE.out.1 HNE.out.2.1 (HT1.out.keys OK.out.rn) p.1; have C6 := hid q1; have P6 := hid q2; have K6 := hid q3; have I6 := hid (q4 r _ IT2.out HR3.out.1); obtain ⟨g0, g1, g2, gf⟩ := q1.out.cells; have N7 := hid q5; have C7 := hid q6; have HTo := hid q7; have HEo := hid q8; clear T6 e6 ch6 q1 q2 q3 q4 q5 q6 q7 q8)
        all_goals
          go_wp2_with fail
          go_roundw
          case rel =>
            have hstep := P6.out.step HP.out.1 HP.out.2 N1.out.nd (HT1.out.keys OK.out.rn) (.inr rfl) HI.out.2 HTo.out N7.out
            have hcs7 := C6.out.go H.out C7.out (fun k hk => by rw [hk]; have := HNE.out; omega) (fun k hk => by rw [hk]; exact map_no HEo.out.map) (fun e => HNE.out.1 e)
            have hk7 := K6.out.go (C7.out.block _ K6.out.1.lt (by have := HNE.out; omega))
            exact ⟨seen.push p.2.2, _, ψ', bw', _, (C7.out.block _ (blk_lt I6.out) HR3.out.2.1).trans I6.out, hcs7, hstep, hk7⟩
          case measure =>
            unfold World.iterSeen
            rw [(C7.out.block _ (blk_lt I6.out) HR3.out.2.1).trans I6.out, IT.out]
            exact LE.out
end Go.Proofs.Ytjekfifnhdoamaa
