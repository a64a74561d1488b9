/- Files that a crash cuts: one of picks; Crash. -/
import Derived.Test.YtjekfifnhdoamaaSf9
set_option linter.unusedSimpArgs false
set_option linter.unusedVariables false
set_option linter.unnecessarySimpa false
namespace Go.Proofs.Ytjekfifnhdoamaa
open Go.RowKit Go.Rg Go.St

/-- numbers that are read -/
def SlI (w : World) (v : Value) (l : List Int) : Prop := Sl1 w v l.length (fun i => .int .i64 (nth l i)) ∧ ∀ x, x ∈ l → -9223372036854775808 ≤ x ∧ x < 9223372036854775808
theorem SlI.go {w w' : World} {v : Value} {l : List Int} (h : SlI w v l) (he : Ext w w') : SlI w' v l := ⟨Sl1.go h.1 he, h.2⟩
theorem xor_neg {n : Int} (h0 : n < 0) (h1 : -9223372036854775808 ≤ n) : bits .xor .i64 (-1) n = -1 - n := by
  have e : (BitVec.ofInt 64 (-1) ^^^ BitVec.ofInt 64 n).toNat = (-1 - n).toNat := by
    have h2 : BitVec.ofInt 64 (-1) = BitVec.allOnes 64 := by decide
    rw [h2, BitVec.allOnes_xor, BitVec.toNat_not, BitVec.toNat_ofInt]
    have : n % ((2 ^ 64 : Nat) : Int) = n + 18446744073709551616 := by
      rw [show ((2 ^ 64 : Nat) : Int) = 18446744073709551616 by decide]
      omega
    rw [this]
    omega
  show IntKind.i64.wrap ((BitVec.ofInt 64 (-1) ^^^ BitVec.ofInt 64 n).toNat : Int) = _
  rw [e]
  simp only [IntKind.wrap_i64]
  omega
set_option maxRecDepth 100000 in
set_option maxHeartbeats 1000000 in
theorem pick_in (v : Value) (l : List Int) (i most : Nat) (w : World) (h : SlI w v l) (hm : most < 4611686018427387904) :
    Calls Try.prog 52 #[v, .int .i64 i, .int .i64 most] w (fun e w' => e = .returned (.int .i64 (pickN l i most)) ∧ w = w') := by
  obtain ⟨a, cap, rfl, hcap, hmx, hc⟩ := h.1.ex
  have hr := h.2
  have wm : IntKind.i64.wrap ((most : Int) + 1) = (most : Int) + 1 := by simp [IntKind.wrap_i64]; omega
  have hp : Hid (pickN l i most = (if l.getD i 0 < 0 then -1 - l.getD i 0 else l.getD i 0).toNat % (most + 1)) := hid rfl
  clear h
  by_cases hi : i < l.length
  · have d1 : decide ((i : Int) < (l.length : Int)) = true := decide_eq_true (by omega)
    obtain ⟨b, off, rfl, hcell⟩ := hc (by omega)
    have hck := hcell i hi
    have hn := hr _ (nth_mem l i hi)
    have e0 : l.getD i 0 = nth l i := by simp [nth, hi]
    rw [e0] at hp
    generalize nth l i = n at *
    clear hc hcell hr e0
    by_cases h0 : n < 0
    · have d2 : decide (n < 0) = true := decide_eq_true h0
      go_enter Try.func52, Try.ntmps52
      go_wp2_with fail
      go_ret
      refine ⟨?_, rfl⟩
      show Ending.returned (.int .i64 ((bits .xor .i64 (-1) n).tmod ((most : Int) + 1))) = _
      rw [xor_neg h0 hn.1, hp.out, if_pos h0, Int.tmod_eq_emod_of_nonneg (by omega)]
      congr 2
      rw [Int.natCast_emod]
      congr 1
      omega
    · have d2 : decide (n < 0) = false := decide_eq_false h0
      go_enter Try.func52, Try.ntmps52
      go_wp2_with fail
      go_ret
      refine ⟨?_, rfl⟩
      show Ending.returned (.int .i64 (n % ((most : Int) + 1))) = _
      rw [hp.out, if_neg (by omega)]
      congr 2
      rw [Int.natCast_emod]
      congr 1
      omega
  · have d1 : decide ((i : Int) < (l.length : Int)) = false := decide_eq_false (by omega)
    have e0 : l.getD i 0 = 0 := by simp [List.getElem?_eq_none (by omega : l.length ≤ i)]
    rw [e0] at hp
    clear hc hr e0
    go_enter Try.func52, Try.ntmps52
    go_wp2_with fail
    go_ret
    refine ⟨?_, rfl⟩
    rw [hp.out, if_neg (by decide)]
    show Ending.returned (.int .i64 0) = _
    rw [show (0 : Int).toNat = 0 from rfl, Nat.zero_mod]
    rfl

theorem pick_same (v : Value) (l : List Int) (i most : Nat) (w : World) (h : SlI w v l) (hm : most < 4611686018427387904) :
    Calls Try.prog 52 #[v, .int .i64 i, .int .i64 most] w (fun e w' => e = .returned (.int .i64 (pickN l i most)) ∧ w' = w) :=
  (pick_in v l i most w h hm).mono fun e w' h => ⟨h.1, h.2.symm⟩
theorem FsAt.lasts {w w' : World} {L : FL} {M : FsM} {l : Nm} (h : FsAt w L M) (hc : Ch (fun k => k = L.lb) w w') (hl : NamesAt w' L.lb L.φ l) (hr : ∀ p, p ∈ l → L.R p.2) : FsAt w' L { M with lasts := l } := by
  have hk : ∀ k, FsFoot L k → k ≠ L.lb → w'.heap[k]? = w.heap[k]? := fun k hk hne => hc.block k (h.foot_lt hk) hne
  obtain ⟨es, cl, hm⟩ := h.las.map
  have hno : ∀ {b : Nat} {cs : Array Value} {ty : TypeId}, w.heap[b]? = some (.cells cs ty (0, 0)) → b ≠ L.lb := fun hb e => by
    rw [e, hm] at hb; cases hb
  refine ⟨(hk _ (.inl rfl) (hno h.row)).trans h.row, h.now.go (hk _ (.inr (.inl rfl)) h.nl), hl, owns_ch h.sin (fun g hg => ?_), fun i hi => ?_, h.lt, fun i hi => ⟨(hk _ (.inr (.inr (.inr (.inr ⟨i, hi, .inl rfl⟩)))) (hno (h.fil i hi).1)).trans (h.fil i hi).1, owns_ch (h.fil i hi).2 (fun g hg => ?_)⟩, h.nl, h.inj, h.ap⟩
  · obtain ⟨cs, hcs⟩ := own_ltG h.sin hg
    exact hk _ (.inr (.inr (.inr (.inl hg)))) (hno hcs)
  · rcases hi with ⟨p, hp, rfl⟩ | ⟨p, hp, rfl⟩ | hd
    · exact h.ref _ (.inl ⟨p, hp, rfl⟩)
    · exact hr p hp
    · exact h.ref _ (.inr (.inr hd))
  · obtain ⟨cs, hcs⟩ := own_ltG (h.fil i hi).2 hg
    exact hk _ (.inr (.inr (.inr (.inr ⟨i, hi, .inr hg⟩)))) (hno hcs)
theorem applyC_snoc (l : Nm) (cs : List Chg) (c : Chg) : applyC l (cs ++ [c]) = doneC c (applyC l cs) := by
  unfold applyC
  rw [List.foldl_append]
  rfl
theorem applyC_mem {l : Nm} {cs : List Chg} {p : ByteArray × Nat} (h : p ∈ applyC l cs) : p ∈ l ∨ ∃ c, c ∈ cs ∧ c.to_.size ≠ 0 ∧ p.2 = c.x := by
  induction cs generalizing l with
  | nil => exact .inl h
  | cons c cs ih =>
    rcases ih (l := doneC c l) h with h1 | ⟨d, h1, h2, h3⟩
    · rcases mem_doneC h1 with h2 | ⟨h2, rfl⟩
      · exact .inl h2
      · exact .inr ⟨c, List.mem_cons_self, h2, rfl⟩
    · exact .inr ⟨d, List.mem_cons_of_mem _ h1, h2, h3⟩
theorem FsAt.applied {w : World} {L : FL} {M : FsM} (h : FsAt w L M) (n : Nat) : ∀ p, p ∈ applyC M.lasts (M.since.take n) → L.R p.2 := fun p hp => by
  rcases applyC_mem hp with h1 | ⟨c, h1, h2, h3⟩
  · exact h.ref _ (.inr (.inl ⟨p, h1, rfl⟩))
  · rw [h3]
    exact h.ref _ (.inr (.inr ⟨c, List.mem_of_mem_take h1, h2, rfl⟩))
theorem cutF_snoc (picks : List Int) (p : ByteArray × Nat) : ∀ (l : Nm) (i : Nat) (f : Nat → Fl), cutF picks (l ++ [p]) i f =
    updF (cutF picks l i f) p.2 ⟨(cutF picks l i f p.2).b.take ((cutF picks l i f p.2).last + pickN picks (i + l.length + 1) ((cutF picks l i f p.2).b.length - (cutF picks l i f p.2).last)), (cutF picks l i f p.2).last + pickN picks (i + l.length + 1) ((cutF picks l i f p.2).b.length - (cutF picks l i f p.2).last)⟩
  | [], i, f => rfl
  | q :: l, i, f => by
    rw [List.cons_append]
    show cutF picks (l ++ [p]) (i + 1) _ = _
    rw [cutF_snoc picks p l (i + 1)]
    rw [List.length_cons, show i + 1 + l.length + 1 = i + (l.length + 1) + 1 by omega]
    rfl
theorem cut_row {w : World} {a : Option Addr} {cap n : Nat} {b : List UInt8} (h : w.ownsRow 0 5 1 (.slice a b.length cap) b.length (Lib.byteCells b)) (hn : n ≤ b.length) : w.ownsRow 0 5 1 (.slice a n cap) n (Lib.byteCells (b.take n)) := by
  have e : Lib.byteCells (b.take n) = (Lib.byteCells b).take n := by unfold Lib.byteCells; rw [List.map_take]
  rcases h.2 with ⟨h1, h2⟩ | ⟨g, c, cur, h1, hb, hg, hnc, hm, hcs, htk⟩
  · simp only [Value.slice.injEq] at h1
    obtain ⟨rfl, _, rfl⟩ := h1
    obtain rfl : n = 0 := by omega
    rw [e]
    exact World.ownsRow_nil _ _ _ _
  · simp only [Value.slice.injEq] at h1
    obtain ⟨rfl, _, rfl⟩ := h1
    refine ⟨by rw [bc_len, List.length_take]; omega, .inr ⟨g, cap, cur, rfl, hb, hg, by omega, hm, hcs, ?_⟩⟩
    rw [e, ← htk, List.take_take]
    congr 1
    omega
theorem SlI.ch {F : Nat → Prop} {w w' : World} {v : Value} {l : List Int} (h : SlI w v l) (hc : Ch F w w') (hF : 0 < l.length → ∀ k, v.ownBlock = some k → ¬ F k) : SlI w' v l := by
  refine ⟨?_, h.2⟩
  obtain ⟨a, cap, e, h0, h1, h2⟩ := h.1.ex
  refine ⟨a, cap, e, h0, h1, fun hn => ?_⟩
  obtain ⟨b, off, e2, hcell⟩ := h2 hn
  refine ⟨b, off, e2, fun i hi => ?_⟩
  have hci := hcell i hi
  exact (World.cell?_of_block (a := ⟨b, off + i, none⟩) (hc.block b (cell_lt hci) (hF hn b (by rw [e, e2]; rfl)))).trans hci
theorem fndN_of {l : Nm} (hr : Rising l) {p : ByteArray × Nat} (hp : p ∈ l) : fndN l p.1 = some p.2 := by
  cases hq : fndN l p.1 with
  | none => exact absurd rfl (fndN_none hq p hp)
  | some j =>
    have hm := fndN_mem hq
    have : (p.1, j) = p := by
      have hn := hr.nodup
      obtain ⟨a, ha, ea⟩ := List.getElem_of_mem hm
      obtain ⟨b, hb, eb⟩ := List.getElem_of_mem hp
      have e : a = b := nodup_inj hn (by simpa using ha) (by simpa using hb) (by simp [ea, eb])
      subst e
      rw [← ea, ← eb]
    rw [← this]
theorem ms_lt {i n : Nat} (h : i < n) (hw : wrap64 ((i : Int) + 1) = (i : Int) + 1) : n - (intOf (.int .i64 (wrap64 ((i : Int) + 1)))).toNat < n - (intOf (.int .i64 (i : Int))).toNat := by
  rw [hw]
  simp [intOf]
  omega
theorem foot_bv {L : FL} {bv : Nat → Value} (h : ∀ q k, (bv q).ownBlock = some k → (L.bv q).ownBlock = some k) {k : Nat} (hk : FsFoot { L with bv := bv } k) : FsFoot L k := by
  rcases hk with hk | hk | hk | hk | ⟨i, hi, hk | hk⟩
  · exact .inl hk
  · exact .inr (.inl hk)
  · exact .inr (.inr (.inl hk))
  · exact .inr (.inr (.inr (.inl hk)))
  · exact .inr (.inr (.inr (.inr ⟨i, hi, .inl hk⟩)))
  · exact .inr (.inr (.inr (.inr ⟨i, hi, .inr (h i k hk)⟩)))
theorem crash_res {w1 w2 : World} {L : FL} {M : FsM} {g c : Nat} {E : Ent ByteArray} {o : Obj} (H1 : FsAt w1 L M) (E2 : Ext w1 w2) (NG : w2.heap[g]? = some o) (HG : g = w1.heap.size) (HN : NmAt nmK w2 g E c) (HT : NmTells L.φ E M.lasts) :
    FsRes L w1 { M with names := M.lasts, since := [], fuse := -1, fail := -1 } ((((w2.setCell ⟨L.fb, 0, none⟩ (.map (some g))).setCell ⟨L.fb, 2, none⟩ (.slice none 0 0)).setCell ⟨L.fb, 5, none⟩ (.int .i64 (-1))).setCell ⟨L.fb, 6, none⟩ (.int .i64 (-1))) := by
  have H2 := H1.ext E2
  have hf := H1.foot_lt (k := L.fb) (.inl rfl)
  obtain ⟨wz, hz⟩ : ∃ wz, wz = ((((w2.setCell ⟨L.fb, 0, none⟩ (.map (some g))).setCell ⟨L.fb, 2, none⟩ (.slice none 0 0)).setCell ⟨L.fb, 5, none⟩ (.int .i64 (-1))).setCell ⟨L.fb, 6, none⟩ (.int .i64 (-1))) := ⟨_, rfl⟩
  have hch : Ch (fun k => k = L.fb) w1 wz := by rw [hz]; exact ((((Ch.of_ext (F := fun k => k = L.fb) E2).setC rfl).setC rfl).setC rfl).setC rfl
  have hrow : wz.heap[L.fb]? = some (.cells #[.map (some g), .map (some L.lb), .slice none 0 0, .int .i64 (M.quota : Nat), .int .i64 (M.ops : Nat), .int .i64 (-1), .int .i64 (-1)] 92 (0, 0)) := by
    rw [hz]
    exact (heap_setCell_same _ _ _ _ _ _ ((heap_setCell_same _ _ _ _ _ _ ((heap_setCell_same _ _ _ _ _ _ ((heap_setCell_same _ _ _ _ _ _ H2.row).trans rfl)).trans rfl)).trans rfl)).trans rfl
  have hgz : wz.heap[g]? = w2.heap[g]? := by
    rw [hz]
    rw [heap_setCell_other _ _ _ _ (show g ≠ L.fb by omega), heap_setCell_other _ _ _ _ (show g ≠ L.fb by omega), heap_setCell_other _ _ _ _ (show g ≠ L.fb by omega), heap_setCell_other _ _ _ _ (show g ≠ L.fb by omega)]
  rw [← hz]
  clear hz
  have hk : ∀ k, FsFoot1 L k → wz.heap[k]? = w1.heap[k]? := fun k hk => hch.block k (H1.foot_lt (.inr hk)) (H1.ne_fb hk)
  refine ⟨{ L with nb := g, sv := .slice none 0 0 }, rfl, ⟨hrow, ⟨E, c, HN.go hgz, HT⟩, H1.las.go (hk _ (.inr (.inl rfl))), World.ownsRow_nil _ _ _ _, fun i hi => ?_, H1.lt, fun i hi => ⟨(hk _ (.inr (.inr (.inr ⟨i, hi, .inl rfl⟩)))).trans (H1.fil i hi).1, owns_ch (H1.fil i hi).2 (fun b hb => hk _ (.inr (.inr (.inr ⟨i, hi, .inr hb⟩))))⟩, ?_, H1.inj, H1.ap⟩, hch.mono fun k _ hk => .inl hk, fun k hk => ?_⟩
  · rcases hi with ⟨p, hp, rfl⟩ | ⟨p, hp, rfl⟩ | ⟨d, hd, _⟩
    · exact H1.ref _ (.inr (.inl ⟨p, hp, rfl⟩))
    · exact H1.ref _ (.inr (.inl ⟨p, hp, rfl⟩))
    · cases hd
  · have := H1.las.lt
    show g ≠ L.lb
    omega
  · rcases hk with hk | hk | hk | hk | hk
    · exact .inl (.inl hk)
    · exact .inr (by rw [hk]; show w1.heap.size ≤ g; omega)
    · exact .inl (.inr (.inr (.inl hk)))
    · cases hk
    · exact .inl (.inr (.inr (.inr (.inr hk))))
set_option maxRecDepth 100000 in
set_option maxHeartbeats 8000000 in
theorem fsCrash_in (L : FL) (M : FsM) (vp : Value) (picks : List Int) (w : World) (h : FsAt w L M) (ok : M.Ok) (ho : M.ops ≤ OpsMax) (hp : SlI w vp picks) (hap : 0 < picks.length → ∀ k, vp.ownBlock = some k → ¬ FsFoot L k) :
    Calls Try.prog 33 #[ptrV L.fb, vp] w (FsPost L w (.tuple #[]) (M.crash picks)) := by
  have H := hid h
  have OK := hid ok
  have HP := hid hp
  have HO := hid ho
  obtain ⟨c0, c1, c2, _, _, _, _, ff⟩ := fs_cells h.row
  obtain ⟨aS, capS, hsv, _⟩ := slice_ofG h.sin
  rw [hsv] at c2
  have HSV := hid hsv
  have hsl : M.since.length ≤ capS := by
    have hs := h.sin
    rw [hsv] at hs
    rcases hs.2 with ⟨h1, h2⟩ | ⟨g, c, cur, h1, _, _, hnc, _⟩
    · omega
    · simp only [Value.slice.injEq] at h1
      omega
  obtain ⟨aP, capP, rfl, hcapP, hmP, _⟩ := hp.1.ex
  have hk := pickN_le picks 0 M.since.length
  have hpk := fun w' (he : SlI w' (.slice aP picks.length capP) picks) => pick_same (.slice aP picks.length capP) picks 0 M.since.length w' he (by have := ok.ll; unfold OpsMax at ho; omega)
  have HPK := hid hpk
  have HCR := hid (show M.crash picks = { M with files := cutF picks (applyC M.lasts (M.since.take (pickN picks 0 M.since.length))) 0 M.files, names := applyC M.lasts (M.since.take (pickN picks 0 M.since.length)), lasts := applyC M.lasts (M.since.take (pickN picks 0 M.since.length)), since := [], fuse := -1, fail := -1 } from rfl)
  generalize pickN picks 0 M.since.length = n at *
  clear h ok ho hp hsv hpk
  go_enter Try.func33, Try.ntmps33
  go_wp2_with fail
  go_quiet ((go_at_call 52; exact Calls.quiet_of_same (HPK.out _ (HP.out.go ((Ext.rfl _).drN _)))))
  go_wp2_with fail
  have hsn : SlS w (.slice aS M.since.length capS) 3 (eChg L.φ) M.since := by
    rw [← HSV.out]
    exact owns_slG H.out.sin rfl (fun _ => rfl) (by decide)
  obtain ⟨_, _, he, _, _, hcl⟩ := hsn.ex
  simp only [Value.slice.injEq] at he
  obtain ⟨rfl, _, rfl⟩ := he
  have HCL := hid hcl
  have HK := hid hk
  clear hcl hsn c0 c1 c2 ff hk
  go_loopw [24] (fun t wr => ∃ i : Nat, i ≤ n ∧ t = .int .i64 i ∧ FsAt wr L { M with lasts := applyC M.lasts (M.since.take i) } ∧ Ch (fun k => k = L.lb) w wr) (fun t _ => n - (intOf t).toNat)
  case atStart => exact ⟨0, Nat.zero_le _, rfl, H.out.ext ((Ext.rfl w).drN _), (Ch.rfl _ w).drN _⟩
  case round =>
    obtain ⟨i, hi, rfl, hR, hC⟩ := hrel
    have HR := hid hR
    have HC := hid hC
    clear hR hC
    by_cases hlt : i < n
    · have d1 : decide ((i : Int) < (n : Int)) = true := decide_eq_true (by omega)
      have hin : i < M.since.length := by have := HK.out; omega
      obtain ⟨b, off, rfl, hcell⟩ := HCL.out (by omega)
      have hbl : b ≠ L.lb := fun e => by
        obtain ⟨es, cl, hm⟩ := H.out.las.map
        have := hcell i hin 0 (by decide)
        rw [e] at this
        unfold World.cell? at this
        rw [hm] at this
        cases this
      have hbw : b < w.heap.size := cell_lt (hcell i hin 0 (by decide))
      have hq : ∀ j, j < 3 → wr.cell? ⟨b, off + i * 3 + j, none⟩ = (eChg L.φ (nth M.since i))[j]? := fun j hj => (World.cell?_of_block (a := ⟨b, off + i * 3 + j, none⟩) (HC.out.block b hbw hbl)).trans (hcell i hin j hj)
      have e0 := hq 0 (by decide)
      have e1 := hq 1 (by decide)
      have e2 := hq 2 (by decide)
      simp only [eChg, List.getElem?_cons_zero, List.getElem?_cons_succ, Nat.add_zero] at e0 e1 e2
      obtain ⟨xa, hxa⟩ : ∃ xa, xChg L.φ (nth M.since i) = .pointer xa := by unfold xChg; split <;> exact ⟨_, rfl⟩
      rw [hxa] at e2
      have HXA := hid hxa
      clear hcell hq HCL hxa
      go_wp2_with fail
      have X5 := hid ((Ext.rfl wr).al (.cells #[.string (nth M.since i).frm, .string (nth M.since i).to_, .pointer xa] 99))
      have hrow := heap_alloc_new wr (.cells #[.string (nth M.since i).frm, .string (nth M.since i).to_, .pointer xa] 99)
      generalize wr.alloc (.cells #[.string (nth M.since i).frm, .string (nth M.since i).to_, .pointer xa] 99) = w5 at *
      have d0 := cell_of_row _ _ 0 _ _ _ hrow
      have d1' := cell_of_row _ _ 1 _ _ _ hrow
      have d2 := cell_of_row _ _ 2 _ _ _ hrow
      simp only [List.getElem?_toArray, List.getElem?_cons_zero, List.getElem?_cons_succ] at d0 d1' d2
      have H5 := hid (HR.out.ext X5.out)
      obtain ⟨_, f1, _, _, _, _, _, _⟩ := fs_cells H5.out.row
      have hdone := fsDone_in L.φ (nth M.since i) (applyC M.lasts (M.since.take i)) L.lb w5.drew (H5.out.las.go rfl) (applyC_rising _ OK.out.rl)
      rw [HXA.out] at hdone
      have HDN := hid hdone
      have HIN := hid hin
      have HTK := hid (show M.since.take (i + 1) = M.since.take i ++ [nth M.since i] from take_succ_nth _ _ hin)
      have hwi : wrap64 ((i : Int) + 1) = (i : Int) + 1 := by have h1 := OK.out.ll; have h2 := HO.out; unfold OpsMax at h2; unfold wrap64; omega
      clear hdone hrow e0 e1 e2 hbl hbw hin
      go_region_with (go_at_call 53; refine HDN.out.mono ?_; rintro e w6 ⟨rfl, n6, ch6⟩; have N6 := hid n6; have C6 := hid ch6; clear n6 ch6)
      all_goals
        go_wp2_with fail
        go_roundw
        case rel =>
          have hap := applyC_snoc M.lasts (M.since.take i) (nth M.since i)
          rw [← HTK.out] at hap
          exact ⟨i + 1, hlt, by rw [hwi]; rfl, H5.out.lasts (w' := w6) (l := applyC M.lasts (M.since.take (i + 1))) (((Ch.rfl _ w5).dr).tr C6.out) (by rw [hap]; exact N6.out) (H.out.applied (i + 1)), (HC.out.tr (Ch.of_ext X5.out)).tr (((Ch.rfl _ w5).dr).tr C6.out)⟩
        case measure => exact ms_lt hlt hwi
    · obtain rfl : i = n := by omega
      have d1 : decide ((i : Int) < (i : Int)) = false := decide_eq_false (by omega)
      generalize hl0 : applyC M.lasts (M.since.take i) = l0 at *
      have HL0 := hid hl0
      have RL := hid (show Rising l0 by rw [← hl0]; exact applyC_rising _ OK.out.rl)
      have OL := hid (show OkN M.nf l0 by rw [← hl0]; exact applyC_ok OK.out.ol (fun c hc => OK.out.os c (List.mem_of_mem_take hc)))
      have LL := hid (show l0.length ≤ OpsMax by
        have h1 := applyC_len (M.since.take i) M.lasts
        rw [hl0] at h1
        have h2 : (M.since.take i).length ≤ M.since.length := by rw [List.length_take]; omega
        have := OK.out.ll
        have := HO.out
        omega)
      obtain ⟨_, f1, _, _, _, _, _, _⟩ := fs_cells HR.out.row
      have HSO := hid (fsSorted_in L.φ l0 L.lb wr HR.out.las RL.out (fun p hp => (good_size (OL.out p hp).1).2) LL.out)
      have CF := hid (HC.out.mono (G := FsFoot L) fun k _ hk => .inr (.inr (.inl hk)))
      clear hl0 HCL hsl hi hlt
      go_wp2_with fail
      refine HSO.out.mono ?_
      rintro e w2 ⟨v, rfl, hv⟩
      have hs1 : Sl1 w2 v l0.length (fun j => .string (nth l0 j).1) := Sl1.cong (owns_sl1 hv.1) fun j hj => by simp [nth, hj]
      obtain ⟨aN, capN, rfl, hcapN, hmN, hcN⟩ := hs1.ex
      have HN := hid hv
      have HCN := hid hcN
      have H2 := hid (HR.out.ext hv.2)
      have C2 := hid (CF.out.tr (Ch.of_ext hv.2))
      have HNB := hid (show ∀ k, (Value.slice aN l0.length capN).ownBlock = some k → ¬ FsFoot L k from fun k hk hf => by
        have h1 := (hv.1.lt k hk).2
        have h2 := HR.out.foot_lt hf
        first | omega | (have h3 := (hv.1.lt k hk).1; omega))
      clear hv hs1 hcN HSO f1 CF HC HR
      go_wp2_with fail
      go_loopw [41] (fun t wx => ∃ (j : Nat) (bv : Nat → Value), j ≤ l0.length ∧ t = .int .i64 j ∧ FsAt wx { L with bv := bv } { M with lasts := l0, files := cutF picks (l0.take j) 0 M.files } ∧ Ch (FsFoot L) w wx ∧ (∀ q k, (bv q).ownBlock = some k → (L.bv q).ownBlock = some k) ∧ Ch (FsFoot L) w2 wx) (fun t _ => l0.length - (intOf t).toNat)
      case atStart => exact ⟨0, L.bv, Nat.zero_le _, rfl, H2.out, C2.out, fun q k hk => hk, Ch.rfl _ _⟩
      case round =>
        obtain ⟨j, bv, hj, rfl, hR, hC, hbv, hC2⟩ := hrel
        have HR := hid hR
        have HC := hid hC
        have HBV := hid hbv
        have HC2 := hid hC2
        clear hR hC hbv hC2
        by_cases hjl : j < l0.length
        · have d2 : decide ((j : Int) < (l0.length : Int)) = true := decide_eq_true (by omega)
          have hwj : wrap64 ((j : Int) + 1) = (j : Int) + 1 := by have h2 := LL.out; unfold OpsMax at h2; unfold wrap64; omega
          obtain ⟨b, off, rfl, hcell⟩ := HCN.out (by omega)
          have hck := hcell j hjl
          have hck2 := (World.cell?_of_block (a := ⟨b, off + j, none⟩) (HC2.out.block b (cell_lt hck) (HNB.out b rfl))).trans hck
          obtain ⟨_, f1, _, _, _, _, _, _⟩ := fs_cells HR.out.row
          have hmem := nth_mem l0 j hjl
          have hlk := HR.out.las.look RL.out (nth l0 j).1
          rw [show fndN ({ M with lasts := l0, files := cutF picks (l0.take j) 0 M.files } : FsM).lasts (nth l0 j).1 = some (nth l0 j).2 from fndN_of RL.out hmem] at hlk
          simp only [Option.map_some, Option.elim_some] at hlk
          have hri := HR.out.ref (nth l0 j).2 (.inr (.inl ⟨_, hmem, rfl⟩))
          have hfi := HR.out.fil _ hri
          have hok := cutF_ok picks (l0.take j) 0 M.files OK.out.fl (nth l0 j).2
          have HSN := hid (cutF_snoc picks (nth l0 j) (l0.take j) 0 M.files)
          have f1' : wr.cell? ⟨L.fb, 1, none⟩ = some (.map (some L.lb)) := f1
          have hlk' : (Instr.lookup 89 (.map (some L.lb)) (.string (nth l0 j).1) false).run Try.prog wr = .ok (ptrV (L.φ (nth l0 j).2)) wr := hlk
          obtain ⟨F, hF⟩ : ∃ F, F = cutF picks (l0.take j) 0 M.files (nth l0 j).2 := ⟨_, rfl⟩
          have hfi' : FileAt wr (L.φ (nth l0 j).2) (bv (nth l0 j).2) F := by rw [hF]; exact hfi
          rw [← hF] at hok HSN
          have hkle := pickN_le picks (j + 1) (F.b.length - F.last)
          have HSN2 := hid (show cutF picks (l0.take (j + 1)) 0 M.files = updF (cutF picks (l0.take j) 0 M.files) (nth l0 j).2 ⟨F.b.take (F.last + pickN picks (j + 1) (F.b.length - F.last)), F.last + pickN picks (j + 1) (F.b.length - F.last)⟩ by
            have h1 := HSN.out
            have h2 : (l0.take j).length = j := by rw [List.length_take]; omega
            rw [h2, show 0 + j + 1 = j + 1 by omega, ← take_succ_nth _ _ hjl] at h1
            exact h1)
          have hpk2 := fun w' (he : SlI w' (.slice aP picks.length capP) picks) => pick_same (.slice aP picks.length capP) picks (j + 1) (F.b.length - F.last) w' he (by omega)
          have HSI := hid (HP.out.ch HC.out hap)
          obtain ⟨k0, k1, kf⟩ := file_cellsG hfi'
          obtain ⟨a1, cap1, hv1, _⟩ := slice_ofG hfi'.2
          rw [hv1] at k0
          have HV1 := hid hv1
          have HF1 := hid hfi'
          generalize pickN picks (j + 1) (F.b.length - F.last) = kb at *
          have wl : IntKind.i64.wrap ((F.b.length : Int) - (F.last : Int)) = ((F.b.length - F.last : Nat) : Int) := by simp only [IntKind.wrap_i64]; omega
          have wn : IntKind.i64.wrap ((F.last : Int) + (kb : Int)) = ((F.last + kb : Nat) : Int) := by simp only [IntKind.wrap_i64]; omega
          have wj : IntKind.i64.wrap ((j : Int) + 1) = ((j + 1 : Nat) : Int) := by have h2 := LL.out; unfold OpsMax at h2; simp only [IntKind.wrap_i64]; omega
          have HPK2 := hid hpk2
          have HRI := hid hri
          have HOK := hid hok
          have HKL := hid hkle
          clear f1 hlk hfi hF hfi' hv1 hok hkle hpk2 hri HSN hmem hck hcell HCN hap
          go_wp2_with fail
          go_cut [] from 52 to 72 (fun wx => ∃ nq, wx = (wr.drewN nq).setCell ⟨L.φ (nth l0 j).2, 1, none⟩ (.int .i64 ((F.last + kb : Nat) : Int)))
          case first =>
            go_region_with (go_at_call 52; refine (HPK2.out _ (HSI.out.go ((Ext.rfl _).dr))).mono ?_; rintro e w' ⟨rfl, rfl⟩)
            all_goals
              go_wp2_with fail
              go_meet
              case rel => exact ⟨1, rfl⟩
          case rest =>
            obtain ⟨nq2, hwc⟩ := hcut
            have hr1 : (wr.drewN nq2).heap[L.φ (nth l0 j).2]? = some (.cells #[bv (nth l0 j).2, .int .i64 (F.last : Nat)] 97 (0, 0)) := HF1.out.1
            have hrc : wc.heap[L.φ (nth l0 j).2]? = some (.cells #[bv (nth l0 j).2, .int .i64 ((F.last + kb : Nat) : Int)] 97 (0, 0)) := by
              rw [hwc]
              exact (heap_setCell_same _ _ _ _ _ _ hr1).trans rfl
            have CW := hid (show Ch (FileF { L with bv := bv } (nth l0 j).2) wr wc from by rw [hwc]; exact ((Ch.rfl _ wr).drN nq2).setC (.inl rfl))
            have OW := hid (show wc.ownsRow 0 5 1 (bv (nth l0 j).2) F.b.length (Lib.byteCells F.b) from owns_ch HF1.out.2 fun g hg => by
              rw [hwc]
              exact heap_setCell_other _ _ _ _ (fun e => own_neG HF1.out.2 HF1.out.1 (by simp) (by rw [hg, e])))
            have m0 := cell_of_row _ _ 0 _ _ _ hrc
            have m1 := cell_of_row _ _ 1 _ _ _ hrc
            simp only [List.getElem?_toArray, List.getElem?_cons_zero, List.getElem?_cons_succ] at m0 m1
            rw [HV1.out] at m0
            have mf : ∀ o, wc.frozen? ⟨L.φ (nth l0 j).2, o, none⟩ = false := fun o => frozen_of_row _ _ _ _ _ hrc
            have HRC := hid hrc
            have hcap1 : F.last + kb ≤ cap1 := by
              have h1 := OW.out
              rw [HV1.out] at h1
              have h2 := HKL.out
              have h3 := HOK.out
              rcases h1.2 with ⟨e1, e2⟩ | ⟨g, c, cur, e1, _, _, hnc, _⟩
              · omega
              · simp only [Value.slice.injEq] at e1
                omega
            clear hwc hr1 hrc k0 k1 kf f1' hlk' hck2
            go_wp2_with fail
            go_region
            all_goals
              go_wp2_with fail
              go_roundw
              case rel =>
                have hN : F.last + kb ≤ F.b.length := by have h2 := HKL.out; have h3 := HOK.out; omega
                have hown2 := cut_row (by have h1 := OW.out; rw [HV1.out] at h1; exact h1) hN
                have hcw : Ch (FileF { L with bv := bv } (nth l0 j).2) wr (wc.drew.setCell ⟨L.φ (nth l0 j).2, 0, none⟩ (.slice a1 (F.last + kb) cap1)) := (CW.out.dr).setC (.inl rfl)
                have hfa : FileAt (wc.drew.setCell ⟨L.φ (nth l0 j).2, 0, none⟩ (.slice a1 (F.last + kb) cap1)) (L.φ (nth l0 j).2) (.slice a1 (F.last + kb) cap1) ⟨F.b.take (F.last + kb), F.last + kb⟩ := by
                  refine ⟨(heap_setCell_same _ _ _ _ _ _ HRC.out).trans rfl, ?_⟩
                  show World.ownsRow _ _ _ _ _ (F.b.take (F.last + kb)).length _
                  rw [List.length_take, Nat.min_eq_left hN]
                  refine owns_ch hown2 fun g hg => heap_setCell_other _ _ _ _ (fun e => own_neG hown2 HRC.out (by simp) (by rw [hg, e]))
                have hblk : ∀ k, (Value.slice a1 (F.last + kb) cap1).ownBlock = some k → (bv (nth l0 j).2).ownBlock = some k := fun k hk => by
                  rw [HV1.out]
                  cases a1 with
                  | none => cases hk
                  | some ad => exact hk
                have hfs := HR.out.file HRI.out hcw hfa (fun k hk => .inl (hblk k hk))
                rw [← HSN2.out] at hfs
                refine ⟨j + 1, _, hjl, rfl, hfs, ?_, ?_, ?_⟩
                · refine HC.out.tr (hcw.mono fun k _ hk => ?_)
                  rcases hk with hk | hk
                  · exact .inr (.inr (.inr (.inr ⟨_, HRI.out, .inl hk⟩)))
                  · exact .inr (.inr (.inr (.inr ⟨_, HRI.out, .inr (HBV.out _ k hk)⟩)))
                · intro q k hk
                  by_cases e : q = (nth l0 j).2
                  · rw [if_pos e] at hk
                    rw [e]
                    exact HBV.out _ k (hblk k hk)
                  · rw [if_neg e] at hk
                    exact HBV.out _ k hk
                · refine HC2.out.tr (hcw.mono fun k _ hk => ?_)
                  rcases hk with hk | hk
                  · exact .inr (.inr (.inr (.inr ⟨_, HRI.out, .inl hk⟩)))
                  · exact .inr (.inr (.inr (.inr ⟨_, HRI.out, .inr (HBV.out _ k hk)⟩)))
              case measure =>
                have hms := ms_lt hjl hwj
                rw [hwj] at hms
                exact hms
        · obtain rfl : j = l0.length := by omega
          have d2 : decide ((l0.length : Int) < (l0.length : Int)) = false := decide_eq_false (by omega)
          rw [List.take_length] at HR
          obtain ⟨_, f1, _, _, _, _, _, ff⟩ := fs_cells HR.out.row
          have f1' : wr.cell? ⟨L.fb, 1, none⟩ = some (.map (some L.lb)) := f1
          have hN := HR.out.las
          obtain ⟨E, c, hNm, hT⟩ := hN
          have HCL2 := hid (show Calls Try.prog 51 #[.map (some L.lb)] wr _ from AnyW.maps_Clone Try.cloneZ L.lb _ c wr hNm.map)
          have HNM := hid hNm
          have HT := hid hT
          clear hNm hT f1 HCN hj hjl
          go_wp2_with fail
          refine HCL2.out.mono ?_
          rintro e w4 ⟨rfl, hw4⟩
          obtain ⟨g, hg⟩ : ∃ g, g = wr.heap.size := ⟨_, rfl⟩
          rw [← hg]
          have E4 := hid (show Ext wr w4 from by rw [hw4]; exact (Ext.rfl wr).al _)
          have NG := hid (show w4.heap[g]? = some (.map (eN nmK E) c) from by rw [hw4, hg]; exact heap_alloc_new wr _)
          have HG := hid hg
          have H4 := hid (HR.out.ext E4.out)
          obtain ⟨g0, g1, g2, _, _, g5, g6, gf⟩ := fs_cells H4.out.row
          have g0' : w4.cell? ⟨L.fb, 0, none⟩ = some (.map (some L.nb)) := g0
          have g2' : w4.cell? ⟨L.fb, 2, none⟩ = some L.sv := g2
          have g5' : w4.cell? ⟨L.fb, 5, none⟩ = some (.int .i64 M.fuse) := g5
          have g6' : w4.cell? ⟨L.fb, 6, none⟩ = some (.int .i64 M.fail) := g6
          have gf' : ∀ o, w4.frozen? ⟨L.fb, o, none⟩ = false := gf
          clear hw4 hg HCL2 f1' ff g0 g1 g2 g5 g6 gf
          go_wp2_with fail
          go_end0
          refine ⟨rfl, ?_⟩
          rw [HCR.out]
          have hres := crash_res HR.out E4.out NG.out HG.out ⟨NG.out, HNM.out.born, HNM.out.nd⟩ HT.out
          obtain ⟨L', e1, h1, h2, h3⟩ := hres
          refine ⟨L', e1, h1, ?_, fun k hk => ?_⟩
          · refine HC.out.tr ((h2.mono fun k _ hk => ?_))
            exact foot_bv HBV.out hk
          · rcases h3 k hk with h | h
            · exact .inl (foot_bv HBV.out h)
            · exact .inr (Nat.le_trans HC.out.size h)
end Go.Proofs.Ytjekfifnhdoamaa
