/- A file put into the set. -/
import Derived.Test.YtoonhcmeklmnlaaVr8
set_option linter.unusedSimpArgs false
set_option linter.unusedVariables false
set_option linter.unnecessarySimpa false
namespace Go.Proofs.Ytoonhcmeklmnlaa
open Go.RowKit Go.Rg Go.St

def PutP (sb : Nat) (S : Lv) (f : File) (w : World) (e : Ending) (w' : World) : Prop :=
  e = .returned (.tuple #[]) ∧ SetAt w' sb (upd S f.level.toNat (insF f (S f.level.toNat))) ∧ Below sb w w'
def PutI (w2 : World) (sb : Nat) (f : File) (xs ys : List File) (S' : Lv) (L : Nat → Bool) (p : Tmp → Value) (w : World) : Prop :=
  (L 16 = false → Below w2.heap.size w2 w) ∧
  (L 9 = true → L 13 = false → OwnFiles w w2.heap.size (p 31) xs) ∧
  (L 12 = true → L 13 = false → ∃ vb, p 34 = .slice (some ⟨vb, 0, none⟩) 1 1 ∧ w.heap[vb]? = some (.cells (fileCells f) 80 (0, 0))) ∧
  (L 9 = true → L 12 = true → L 13 = false → ∀ g vb, (p 31).ownBlock = some g → p 34 = .slice (some ⟨vb, 0, none⟩) 1 1 → vb ≠ g) ∧
  (L 13 = true → L 16 = false → OwnFiles w w2.heap.size (p 35) ys) ∧
  (L 16 = true → SetAt w sb S' ∧ Below sb w2 w)
theorem PutI.start {w2 w' : World} {sb : Nat} {f : File} {xs ys : List File} {S' : Lv} {p : Tmp → Value} (he : Ext w2 w') : PutI w2 sb f xs ys S' (fun _ => false) p w' := by
  simp [PutI]
  exact he
theorem PutI.keep {w2 : World} {sb : Nat} {f : File} {xs ys : List File} {S' : Lv} {i : Nat} (h9 : i ≠ 9) (h12 : i ≠ 12) (h13 : i ≠ 13) (h16 : i ≠ 16) :
    ∀ L p q w w', (∀ t ∈ [31, 34, 35], p t = q t) → PutI w2 sb f xs ys S' L p w → Ext w w' → PutI w2 sb f xs ys S' (setL L i) q w' := by
  intro L p q w w' hfg ⟨q1, q2, q3, q4, q5, q6⟩ he
  have e : ∀ j, j ≠ i → setL L i j = L j := fun j hj => by simp [setL, hj]
  unfold PutI
  rw [e 9 (Ne.symm h9), e 12 (Ne.symm h12), e 13 (Ne.symm h13), e 16 (Ne.symm h16), ← hfg 31 (by simp), ← hfg 34 (by simp), ← hfg 35 (by simp)]
  refine ⟨fun h => Ext.tr (q1 h) he, fun a b => owns_ext (q2 a b) he, fun a b => ?_, q4, fun a b => owns_ext (q5 a b) he, fun h => ⟨(q6 h).1.ext he, Below.trans (q6 h).2 (Below.mono he (Nat.le_of_lt (q6 h).1.lt))⟩⟩
  obtain ⟨vb, x1, x2⟩ := q3 a b
  exact ⟨vb, x1, (he.block _ (vblk_lt x2)).trans x2⟩
theorem own_lt {w : World} {base : Nat} {e : TypeId} {sz : Nat} {v : Value} {n : Nat} {xs : List Value} (h : w.ownsRow base e sz v n xs) {g : Nat} (hg : v.ownBlock = some g) : g < w.heap.size ∧ base ≤ g := by
  have := h.lt g hg
  exact ⟨this.2, this.1⟩
theorem PutI.clone {w2 w w' : World} {sb : Nat} {f : File} {xs ys : List File} {S' : Lv} {L : Nat → Bool} {a : Act} {v : Value} (h : PutI w2 sb f xs ys S' L (slot a) w) (h16 : L 16 = false) (h13 : L 13 = false) (hN : a.tmps.size = 38) (hown : OwnFiles w' w.heap.size v xs) (he : Ext w w') :
    PutI w2 sb f xs ys S' (setL L 9) (slot (a.put (some 31) v)) w' := by
  obtain ⟨q1, q2, q3, q4, q5, q6⟩ := h
  unfold PutI
  rw [put_at hN (by decide), put_far (by decide), put_far (by decide)]
  simp only [setL, show (12 = 9) = False by simp, show (13 = 9) = False by simp, show (16 = 9) = False by simp, if_false, if_true]
  refine ⟨fun _ => Ext.tr (q1 h16) he, fun _ _ => owns_base hown (q1 h16).size, fun a b => ?_, fun _ b c g vb hg hp => ?_, ?_, ?_⟩
  · obtain ⟨vb, x1, x2⟩ := q3 a b
    exact ⟨vb, x1, (he.block _ (vblk_lt x2)).trans x2⟩
  · obtain ⟨vb', x1, x2⟩ := q3 b c
    rw [x1] at hp
    simp only [Value.slice.injEq, Option.some.injEq, Addr.mk.injEq] at hp
    have := vblk_lt x2
    have := (own_lt hown hg).2
    omega
  · intro h; rw [h13] at h; cases h
  · intro h; rw [h16] at h; cases h
theorem PutI.build {w2 w : World} {sb : Nat} {f : File} {xs ys : List File} {S' : Lv} {L : Nat → Bool} {a : Act} (h : PutI w2 sb f xs ys S' L (slot a) w) (h16 : L 16 = false) (h13 : L 13 = false) (hN : a.tmps.size = 38) :
    PutI w2 sb f xs ys S' (setL L 12) (slot (a.put (some 34) (.slice (some ⟨w.heap.size, 0, none⟩) 1 1))) (w.alloc (.cells (fileCells f) 80)) := by
  obtain ⟨q1, q2, q3, q4, q5, q6⟩ := h
  have he : Ext w (w.alloc (.cells (fileCells f) 80)) := (Ext.rfl w).al _
  unfold PutI
  rw [put_at hN (by decide), put_far (by decide), put_far (by decide)]
  simp only [setL, show (9 = 12) = False by simp, show (13 = 12) = False by simp, show (16 = 12) = False by simp, if_false, if_true]
  refine ⟨fun _ => Ext.tr (q1 h16) he, fun a b => owns_ext (q2 a b) he, fun _ _ => ⟨_, rfl, heap_alloc_new w _⟩, fun b _ c g vb hg hp => ?_, ?_, ?_⟩
  · simp only [Value.slice.injEq, Option.some.injEq, Addr.mk.injEq] at hp
    have := (own_lt (q2 b c) hg).1
    omega
  · intro h; rw [h13] at h; cases h
  · intro h; rw [h16] at h; cases h
theorem PutI.ins {w2 w w' : World} {sb : Nat} {f : File} {xs ys : List File} {S' : Lv} {L : Nat → Bool} {a : Act} {v : Value} (h : PutI w2 sb f xs ys S' L (slot a) w) (h16 : L 16 = false) (hN : a.tmps.size = 38) (hown : OwnFiles w' w2.heap.size v ys) (he : Below w2.heap.size w w') :
    PutI w2 sb f xs ys S' (setL L 13) (slot (a.put (some 35) v)) w' := by
  obtain ⟨q1, q2, q3, q4, q5, q6⟩ := h
  unfold PutI
  rw [put_at hN (by decide), put_far (by decide), put_far (by decide)]
  simp only [setL, show (9 = 13) = False by simp, show (12 = 13) = False by simp, show (16 = 13) = False by simp, if_false, if_true]
  refine ⟨fun _ => Below.trans (q1 h16) he, ?_, ?_, ?_, fun _ _ => hown, ?_⟩
  · intro _ h; cases h
  · intro _ h; cases h
  · intro _ _ h; cases h
  · intro h; rw [h16] at h; cases h
theorem PutI.store {w2 w : World} {sb : Nat} {f : File} {xs ys : List File} {S' : Lv} {L : Nat → Bool} {p : Tmp → Value} (h : SetAt w sb S') (hb : Below sb w2 w) (h13 : L 13 = true) : PutI w2 sb f xs ys S' (setL L 16) p w := by
  unfold PutI
  simp only [setL, show (9 = 16) = False by simp, show (12 = 16) = False by simp, show (13 = 16) = False by simp, if_false, if_true]
  refine ⟨?_, ?_, ?_, ?_, ?_, fun _ => ⟨h, hb⟩⟩
  · intro h; cases h
  · intro _ h; rw [h13] at h; cases h
  · intro _ h; rw [h13] at h; cases h
  · intro _ _ h; rw [h13] at h; cases h
  · intro _ h; cases h
theorem exec_build1 (f : File) (ρ : Operand → Value) (w : World) (x : Operand) (d : Option Tmp) (ty : TypeId) (pos : String) (aft : Array Edge) (g : Option (Nat × Bool)) (hx : ρ x = aFile f) : (execOp ρ ⟨d, .buildSlice 64 1 #[(0, x)], ty, pos, aft, g⟩).run Try.prog w = .ok (.value (.slice (some ⟨w.heap.size, 0, none⟩) 1 1)) (w.alloc (.cells (fileCells f) 80)) := by
  have h : (Instr.buildSlice 64 1 #[(0, aFile f)]).run Try.prog w = .ok (.slice (some ⟨w.heap.size, 0, none⟩) 1 1) (w.alloc (.cells (fileCells f) 80)) := by kernel_rfl
  simp [execOp, hx, h, Result.andThen]
theorem exec_call {ρ : Operand → Value} {w : World} {f : FuncId} {xs : Array Operand} {ts : Array TypeId} {d : Option Tmp} {ty : TypeId} {pos : String} {aft : Array Edge} {g : Option (Nat × Bool)} (hρ : ρ (.func f) = .func (.func f) #[] #[]) (vs : Array Value) (hv : xs.map ρ = vs)
    (hf : ∀ (args : Array Value) (w : World), (callFunc f args).run Try.prog w = .ok (.enter f args) w) : (execOp ρ ⟨d, .call ⟨.value (.func f), xs, ts⟩, ty, pos, aft, g⟩).run Try.prog w = .ok (.enter f vs) w := by
  subst hv
  simp [execOp, resolve, hρ, Deferred.ofValue, invoke, Sem.run_bind, hf]
theorem cf_clone (args : Array Value) (w : World) : (callFunc 73 args).run Try.prog w = .ok (.enter 73 args) w := by kernel_rfl
theorem cf_insert (args : Array Value) (w : World) : (callFunc 100 args).run Try.prog w = .ok (.enter 100 args) w := by kernel_rfl
set_option maxRecDepth 100000 in
set_option maxHeartbeats 4000000 in
theorem put_in (sb : Nat) (S : Lv) (n : Nat) (num sz : Int) (sm la : IKey) (w : World) (h : SetAt w sb S) (hn : n < 4) (hl : (S n).length ≤ 1000000) :
    Calls Try.prog 75 #[.pointer (some ⟨sb, 0, none⟩), aFile ⟨n, num, sz, sm, la⟩] w (PutP sb S ⟨n, num, sz, sm, la⟩ w) := by
  obtain ⟨v, c0, f0, hv⟩ := h.at hn
  have hsb := h.lt
  obtain ⟨a, cap, rfl, hcap, hm, hc⟩ := hv.ex
  unfold maxLen at hm
  have hn0 : (0 : Int) ≤ (n : Int) := Int.natCast_nonneg _
  have hn4 : (n : Int) < 4 := by omega
  have HS := hid h
  have HV := hid hv
  clear h hv hc
  have DP := hid (fun W (db : Nat) T hd => put1_on db ⟨n, num, sz, sm, la⟩ T W hd)
  have hia := insF_at ⟨n, num, sz, sm, la⟩ (S n)
  have hkl := List.findIdx_le_length (p := aheadF ⟨n, num, sz, sm, la⟩) (xs := S n)
  have hiv : idxV (aheadF ⟨n, num, sz, sm, la⟩) (S n) = if (S n).findIdx (aheadF ⟨n, num, sz, sm, la⟩) < (S n).length then (((S n).findIdx (aheadF ⟨n, num, sz, sm, la⟩) : Nat) : Int) else -1 := rfl
  generalize (S n).findIdx (aheadF ⟨n, num, sz, sm, la⟩) = k at *
  have HA := hid hia
  have HZ := hid hiv
  clear hia hiv
  go_enter Try.func75, Try.ntmps75
  go_wp2_with fail
  go_region_held3 (fun w' => w'.cell? ⟨sb, n, none⟩ = some (.slice a (S n).length cap) ∧ w'.cell? ⟨w.heap.size, 0, none⟩ = some (.int .i64 n)) (first | go_keep | (go_split_ands; exact ⟨ext_cell he2 (by assumption), ext_cell he2 (by assumption)⟩))
    (first | (go_at_call 96; refine (index_in _ _ _ _ _ _ (HV.out.file (((Ext.rfl w).al _).drN 1)) (DP.out _ w.heap.size _ (heap_alloc_new w _)) ent_put).mono ?_; rintro e w2 ⟨rfl, he2⟩))
  have E2 := hid ((((Ext.rfl w).al (Obj.cells (fileCells ⟨n, num, sz, sm, la⟩) 80)).drN 1).tr he2)
  have HGB := hid ((he2.block _ (by show w.heap.size < (w.heap.push _).size; simp)).trans (show ((w.alloc (Obj.cells (fileCells ⟨n, num, sz, sm, la⟩) 80)).drew).heap[w.heap.size]? = _ from heap_alloc_new w _))
  have hgd : w2.cell? ⟨w.heap.size, 0, none⟩ = some (.int .i64 n) := (file_cells (a := sm) (b := la) HGB.out).1
  have hsz : w.heap.size < w2.heap.size := cell_lt hgd
  have S2 := hid (HS.out.ext E2.out)
  have SV2 := hid (HV.out.file E2.out)
  have hcs : w2.cell? ⟨sb, n, none⟩ = some (.slice a (S n).length cap) := ext_cell E2.out c0
  have hfs : w2.frozen? ⟨sb, n, none⟩ = false := below_fr E2.out hsb f0
  have hsb2 : sb < w2.heap.size := cell_lt hcs
  have HE2 := hid (Below.mono E2.out (Nat.le_of_lt hsb))
  have last : ∀ {l : List Oper} {L : Nat → Bool} {i : Nat}, Closed l.toArray L → chk l.toArray (masks l.toArray) = true → ((List.range (l.length - 1)).all fun k => ((masks l.toArray).getD (l.length - 1) 0).testBit k) = true → L i = false → l.length - 1 = 16 → i < 16 → L 16 = false := by
    intro l L i hC h1 h2 hL hl hi
    cases h : L 16 with
    | false => rfl
    | true =>
      have := closed_last h1 h2 hC (by rw [hl]; exact h) i (by omega)
      rw [hL] at this; cases this
  clear he2 c0 f0
  generalize w.heap.size = gd at *
  rw [HZ.out]
  rcases Nat.lt_or_ge k (S n).length with hk | hk
  · rw [if_pos hk]
    clear HZ
    go_wp2_with fail
    refine wp_drawV (PutI w2 sb ⟨n, num, sz, sm, la⟩ (S n) (insF ⟨n, num, sz, sm, la⟩ (S n)) (upd S n (insF ⟨n, num, sz, sm, la⟩ (S n)))) (by kernel_rfl) (by kernel_rfl) (fun w9 he => PutI.start (he)) ?_
    refine rgv_read 22 [31, 34, 35] (PutI.keep (by decide) (by decide) (by decide) (by decide)) (by rfl) (fun L p w hi hC hL => ob_move (by rfl) (by rfl)) rfl (by rfl) ?_
    refine rgv_read 23 [31, 34, 35] (PutI.keep (by decide) (by decide) (by decide) (by decide)) (by rfl) (fun L p w hi hC hL => ob_field (n := 0) 0 0 3 (by rfl) (by rfl) Try.underlying80 (by rfl) (by kernel_rfl) rfl) rfl (by rfl) ?_
    refine rgv_read 24 [31, 34, 35] (PutI.keep (by decide) (by decide) (by decide) (by decide)) (by rfl) (fun L p w hi hC hL => ob_load (v := .int .i64 n) (by rfl) (by rfl) (by kernel_rfl) (fun w' he => ext_cell he (below_cell (hi.1 (last hC (by kernel_rfl) (by kernel_rfl) hL (by rfl) (by decide))) hsz hgd))) rfl (by rfl) ?_
    refine rgv_read 25 [31, 34, 35] (PutI.keep (by decide) (by decide) (by decide) (by decide)) (by rfl) (fun L p w hi hC hL => ob_move (by rfl) (by rfl)) rfl (by rfl) ?_
    refine rgv_read 26 [31, 34, 35] (PutI.keep (by decide) (by decide) (by decide) (by decide)) (by rfl) (fun L p w hi hC hL => ob_field (n := 0) 0 0 3 (by rfl) (by rfl) Try.underlying80 (by rfl) (by kernel_rfl) rfl) rfl (by rfl) ?_
    refine rgv_read 27 [31, 34, 35] (PutI.keep (by decide) (by decide) (by decide) (by decide)) (by rfl) (fun L p w hi hC hL => ob_load (v := .int .i64 n) (by rfl) (by rfl) (by kernel_rfl) (fun w' he => ext_cell he (below_cell (hi.1 (last hC (by kernel_rfl) (by kernel_rfl) hL (by rfl) (by decide))) hsz hgd))) rfl (by rfl) ?_
    refine rgv_read 28 [31, 34, 35] (PutI.keep (by decide) (by decide) (by decide) (by decide)) (by rfl) (fun L p w hi hC hL => ob_nilck (by rfl) (by rfl)) rfl (by rfl) ?_
    refine rgv_read 29 [31, 34, 35] (PutI.keep (by decide) (by decide) (by decide) (by decide)) (by rfl) (fun L p w hi hC hL => ob_arr 1 n (by rfl) (by rfl) (by rfl) Try.underlying131 (by kernel_rfl) hn0 hn4 (by simp)) rfl (by rfl) ?_
    refine rgv_read 30 [31, 34, 35] (PutI.keep (by decide) (by decide) (by decide) (by decide)) (by rfl) (fun L p w hi hC hL => ob_load (v := .slice a (S n).length cap) (by rfl) (by rfl) (by kernel_rfl) (fun w' he => ext_cell he (below_cell (hi.1 (last hC (by kernel_rfl) (by kernel_rfl) hL (by rfl) (by decide))) hsb2 hcs))) rfl (by rfl) ?_
    refine rgv_eff anyV free_any rfl (fun a1 L w hx hi hN hC hL he => ?_) ⟨by rfl, ?_⟩
    · have h16 := last hC (by kernel_rfl) (by kernel_rfl) hL (by rfl) (by decide)
      have h13 : L 13 = false := by
        cases h : L 13 with
        | false => rfl
        | true =>
          have := hC 13 _ rfl h ⟨9, .data⟩ (by simp) rfl
          rw [hL] at this; cases this
      rw [exec_call rfl #[.slice a (S n).length cap] (by simp [hx (.tmp 30) (by simp [Op.operands, Call.operands]) _ rfl]) cf_clone]
      refine (clone_in _ (S n) _ (SV2.out.file (hi.1 h16)) hl).mono ?_
      rintro e w8 ⟨v8, rfl, ho, he8⟩
      exact ⟨v8, rfl, trivial, PutI.clone hi h16 h13 hN ho he8⟩
    refine rgv_read 32 [31, 34, 35] (PutI.keep (by decide) (by decide) (by decide) (by decide)) (by rfl) (fun L p w hi hC hL => ob_move (by rfl) (by rfl)) rfl (by rfl) ?_
    refine rgv_read 33 [31, 34, 35] (PutI.keep (by decide) (by decide) (by decide) (by decide)) (by rfl) (fun L p w hi hC hL => ob_loadrow (cs := fileCells ⟨n, num, sz, sm, la⟩) (by rfl) (by rfl) (fun w' he => (he.block _ (Nat.lt_of_lt_of_le hsz (hi.1 (last hC (by kernel_rfl) (by kernel_rfl) hL (by rfl) (by decide))).size)).trans (((hi.1 (last hC (by kernel_rfl) (by kernel_rfl) hL (by rfl) (by decide))).block _ hsz).trans HGB.out)) Try.underlying80 rfl (by kernel_rfl)) rfl (by rfl) ?_
    refine rgv_eff anyV free_any rfl (fun a1 L w hx hi hN hC hL he => ?_) ⟨by rfl, ?_⟩
    · have h16 := last hC (by kernel_rfl) (by kernel_rfl) hL (by rfl) (by decide)
      have h13 : L 13 = false := by
        cases h : L 13 with
        | false => rfl
        | true =>
          have := hC 13 _ rfl h ⟨12, .data⟩ (by simp) rfl
          rw [hL] at this; cases this
      rw [exec_build1 ⟨n, num, sz, sm, la⟩ _ _ _ _ _ _ _ _ (hx (.tmp 33) (by simp [Op.operands]) _ rfl)]
      exact ⟨trivial, PutI.build hi h16 h13 hN⟩
    refine rgv_eff anyV free_any rfl (fun a1 L w hx hi hN hC hL he => ?_) ⟨by rfl, ?_⟩
    · have h16 := last hC (by kernel_rfl) (by kernel_rfl) hL (by rfl) (by decide)
      have h9 : L 9 = true := he ⟨9, .data⟩ (by simp) rfl
      have h12 : L 12 = true := he ⟨12, .data⟩ (by simp) rfl
      obtain ⟨vb, e1, e2⟩ := hi.2.2.1 h12 hL
      have ho := hi.2.1 h9 hL
      have hne := hi.2.2.2.1 h9 h12 hL
      have hb := hi.1 h16
      have e3 : a1.eval (.tmp 34) = .slice (some ⟨vb, 0, none⟩) 1 1 := e1
      rw [exec_call rfl #[slot a1 31, .int .i64 (k : Nat), .slice (some ⟨vb, 0, none⟩) 1 1] (by simp only [List.map_toArray, List.map_cons, List.map_nil]; rw [e3, hx (.tmp 32) (by simp [Op.operands, Call.operands]) _ rfl]; rfl) cf_insert]
      refine (insert_in w w2.heap.size _ (S n) ⟨n, num, sz, sm, la⟩ k vb ho hb.size hl e2 (fun g hg => hne g vb hg e1) hkl).mono ?_
      rintro e w8 ⟨v8, rfl, ho8, he8⟩
      exact ⟨v8, rfl, trivial, PutI.ins hi h16 hN (by rw [HA.out]; exact ho8) he8⟩
    refine rgv_read 36 [31, 34, 35] (PutI.keep (by decide) (by decide) (by decide) (by decide)) (by rfl) (fun L p w hi hC hL => ob_nilck (by rfl) (by rfl)) rfl (by rfl) ?_
    refine rgv_read 37 [31, 34, 35] (PutI.keep (by decide) (by decide) (by decide) (by decide)) (by rfl) (fun L p w hi hC hL => ob_arr 1 n (by rfl) (by rfl) (by rfl) Try.underlying131 (by kernel_rfl) hn0 hn4 (by simp)) rfl (by rfl) ?_
    refine rgv_eff (.ex undef) (free_ex _) rfl (fun a1 L w hx hi hN hC hL he => ?_) ?_
    · have h13 : L 13 = true := he ⟨13, .data⟩ (by simp) rfl
      have hb := hi.1 hL
      have ho := hi.2.2.2.2.1 h13 hL
      obtain ⟨av, nv, cv, e0⟩ := isSl_of ho.sl
      rw [exec_store (hx (.tmp 37) (by simp [Op.operands]) _ rfl) (show a1.eval (.tmp 35) = _ from e0) (run_setF sb n av _ cv _ w (below_cell hb hsb2 hcs) (below_fr hb hsb2 hfs))]
      exact ⟨rfl, PutI.store ((S2.out.ext hb).set hn (by rw [← e0]; exact ho.sl)) (Below.setCell (Below.mono hb (Nat.le_of_lt hsb2)) (Nat.le_refl _) _) h13⟩
    refine rgv_end ?_
    intro L w' hall
    simp only [asg, List.set_cons_zero, List.set_cons_succ, List.map_cons, List.map_nil, opens, anyV]
    intro v31 _ v34 _ v35 _ hi
    obtain ⟨hset, hbel⟩ := hi.2.2.2.2.2 (hall 16 (by decide))
    have HSET := hid hset
    have HBEL := hid (Below.trans HE2.out hbel)
    clear hi hset hbel hall
    go_wp2_with fail
    go_end0
    exact ⟨rfl, HSET.out, HBEL.out⟩
  · obtain rfl : k = (S n).length := by omega
    rw [if_neg (by omega)]
    clear HZ hk
    go_wp2_with fail
    go_quiet (fail)
    go_wp2_with fail
    refine wp_drawV (PutI w2 sb ⟨n, num, sz, sm, la⟩ (S n) (insF ⟨n, num, sz, sm, la⟩ (S n)) (upd S n (insF ⟨n, num, sz, sm, la⟩ (S n)))) (by kernel_rfl) (by kernel_rfl) (fun w9 he => PutI.start (Ext.tr ((Ext.rfl w2).drN _) he)) ?_
    refine rgv_read 22 [31, 34, 35] (PutI.keep (by decide) (by decide) (by decide) (by decide)) (by rfl) (fun L p w hi hC hL => ob_move (by rfl) (by rfl)) rfl (by rfl) ?_
    refine rgv_read 23 [31, 34, 35] (PutI.keep (by decide) (by decide) (by decide) (by decide)) (by rfl) (fun L p w hi hC hL => ob_field (n := 0) 0 0 3 (by rfl) (by rfl) Try.underlying80 (by rfl) (by kernel_rfl) rfl) rfl (by rfl) ?_
    refine rgv_read 24 [31, 34, 35] (PutI.keep (by decide) (by decide) (by decide) (by decide)) (by rfl) (fun L p w hi hC hL => ob_load (v := .int .i64 n) (by rfl) (by rfl) (by kernel_rfl) (fun w' he => ext_cell he (below_cell (hi.1 (last hC (by kernel_rfl) (by kernel_rfl) hL (by rfl) (by decide))) hsz hgd))) rfl (by rfl) ?_
    refine rgv_read 25 [31, 34, 35] (PutI.keep (by decide) (by decide) (by decide) (by decide)) (by rfl) (fun L p w hi hC hL => ob_move (by rfl) (by rfl)) rfl (by rfl) ?_
    refine rgv_read 26 [31, 34, 35] (PutI.keep (by decide) (by decide) (by decide) (by decide)) (by rfl) (fun L p w hi hC hL => ob_field (n := 0) 0 0 3 (by rfl) (by rfl) Try.underlying80 (by rfl) (by kernel_rfl) rfl) rfl (by rfl) ?_
    refine rgv_read 27 [31, 34, 35] (PutI.keep (by decide) (by decide) (by decide) (by decide)) (by rfl) (fun L p w hi hC hL => ob_load (v := .int .i64 n) (by rfl) (by rfl) (by kernel_rfl) (fun w' he => ext_cell he (below_cell (hi.1 (last hC (by kernel_rfl) (by kernel_rfl) hL (by rfl) (by decide))) hsz hgd))) rfl (by rfl) ?_
    refine rgv_read 28 [31, 34, 35] (PutI.keep (by decide) (by decide) (by decide) (by decide)) (by rfl) (fun L p w hi hC hL => ob_nilck (by rfl) (by rfl)) rfl (by rfl) ?_
    refine rgv_read 29 [31, 34, 35] (PutI.keep (by decide) (by decide) (by decide) (by decide)) (by rfl) (fun L p w hi hC hL => ob_arr 1 n (by rfl) (by rfl) (by rfl) Try.underlying131 (by kernel_rfl) hn0 hn4 (by simp)) rfl (by rfl) ?_
    refine rgv_read 30 [31, 34, 35] (PutI.keep (by decide) (by decide) (by decide) (by decide)) (by rfl) (fun L p w hi hC hL => ob_load (v := .slice a (S n).length cap) (by rfl) (by rfl) (by kernel_rfl) (fun w' he => ext_cell he (below_cell (hi.1 (last hC (by kernel_rfl) (by kernel_rfl) hL (by rfl) (by decide))) hsb2 hcs))) rfl (by rfl) ?_
    refine rgv_eff anyV free_any rfl (fun a1 L w hx hi hN hC hL he => ?_) ⟨by rfl, ?_⟩
    · have h16 := last hC (by kernel_rfl) (by kernel_rfl) hL (by rfl) (by decide)
      have h13 : L 13 = false := by
        cases h : L 13 with
        | false => rfl
        | true =>
          have := hC 13 _ rfl h ⟨9, .data⟩ (by simp) rfl
          rw [hL] at this; cases this
      rw [exec_call rfl #[.slice a (S n).length cap] (by simp [hx (.tmp 30) (by simp [Op.operands, Call.operands]) _ rfl]) cf_clone]
      refine (clone_in _ (S n) _ (SV2.out.file (hi.1 h16)) hl).mono ?_
      rintro e w8 ⟨v8, rfl, ho, he8⟩
      exact ⟨v8, rfl, trivial, PutI.clone hi h16 h13 hN ho he8⟩
    refine rgv_read 32 [31, 34, 35] (PutI.keep (by decide) (by decide) (by decide) (by decide)) (by rfl) (fun L p w hi hC hL => ob_move (by rfl) (by rfl)) rfl (by rfl) ?_
    refine rgv_read 33 [31, 34, 35] (PutI.keep (by decide) (by decide) (by decide) (by decide)) (by rfl) (fun L p w hi hC hL => ob_loadrow (cs := fileCells ⟨n, num, sz, sm, la⟩) (by rfl) (by rfl) (fun w' he => (he.block _ (Nat.lt_of_lt_of_le hsz (hi.1 (last hC (by kernel_rfl) (by kernel_rfl) hL (by rfl) (by decide))).size)).trans (((hi.1 (last hC (by kernel_rfl) (by kernel_rfl) hL (by rfl) (by decide))).block _ hsz).trans HGB.out)) Try.underlying80 rfl (by kernel_rfl)) rfl (by rfl) ?_
    refine rgv_eff anyV free_any rfl (fun a1 L w hx hi hN hC hL he => ?_) ⟨by rfl, ?_⟩
    · have h16 := last hC (by kernel_rfl) (by kernel_rfl) hL (by rfl) (by decide)
      have h13 : L 13 = false := by
        cases h : L 13 with
        | false => rfl
        | true =>
          have := hC 13 _ rfl h ⟨12, .data⟩ (by simp) rfl
          rw [hL] at this; cases this
      rw [exec_build1 ⟨n, num, sz, sm, la⟩ _ _ _ _ _ _ _ _ (hx (.tmp 33) (by simp [Op.operands]) _ rfl)]
      exact ⟨trivial, PutI.build hi h16 h13 hN⟩
    refine rgv_eff anyV free_any rfl (fun a1 L w hx hi hN hC hL he => ?_) ⟨by rfl, ?_⟩
    · have h16 := last hC (by kernel_rfl) (by kernel_rfl) hL (by rfl) (by decide)
      have h9 : L 9 = true := he ⟨9, .data⟩ (by simp) rfl
      have h12 : L 12 = true := he ⟨12, .data⟩ (by simp) rfl
      obtain ⟨vb, e1, e2⟩ := hi.2.2.1 h12 hL
      have ho := hi.2.1 h9 hL
      have hne := hi.2.2.2.1 h9 h12 hL
      have hb := hi.1 h16
      have e3 : a1.eval (.tmp 34) = .slice (some ⟨vb, 0, none⟩) 1 1 := e1
      rw [exec_call rfl #[slot a1 31, .int .i64 ((S n).length : Nat), .slice (some ⟨vb, 0, none⟩) 1 1] (by simp only [List.map_toArray, List.map_cons, List.map_nil]; rw [e3, hx (.tmp 32) (by simp [Op.operands, Call.operands]) _ rfl]; rfl) cf_insert]
      refine (insert_in w w2.heap.size _ (S n) ⟨n, num, sz, sm, la⟩ (S n).length vb ho hb.size hl e2 (fun g hg => hne g vb hg e1) hkl).mono ?_
      rintro e w8 ⟨v8, rfl, ho8, he8⟩
      exact ⟨v8, rfl, trivial, PutI.ins hi h16 hN (by rw [HA.out]; exact ho8) he8⟩
    refine rgv_read 36 [31, 34, 35] (PutI.keep (by decide) (by decide) (by decide) (by decide)) (by rfl) (fun L p w hi hC hL => ob_nilck (by rfl) (by rfl)) rfl (by rfl) ?_
    refine rgv_read 37 [31, 34, 35] (PutI.keep (by decide) (by decide) (by decide) (by decide)) (by rfl) (fun L p w hi hC hL => ob_arr 1 n (by rfl) (by rfl) (by rfl) Try.underlying131 (by kernel_rfl) hn0 hn4 (by simp)) rfl (by rfl) ?_
    refine rgv_eff (.ex undef) (free_ex _) rfl (fun a1 L w hx hi hN hC hL he => ?_) ?_
    · have h13 : L 13 = true := he ⟨13, .data⟩ (by simp) rfl
      have hb := hi.1 hL
      have ho := hi.2.2.2.2.1 h13 hL
      obtain ⟨av, nv, cv, e0⟩ := isSl_of ho.sl
      rw [exec_store (hx (.tmp 37) (by simp [Op.operands]) _ rfl) (show a1.eval (.tmp 35) = _ from e0) (run_setF sb n av _ cv _ w (below_cell hb hsb2 hcs) (below_fr hb hsb2 hfs))]
      exact ⟨rfl, PutI.store ((S2.out.ext hb).set hn (by rw [← e0]; exact ho.sl)) (Below.setCell (Below.mono hb (Nat.le_of_lt hsb2)) (Nat.le_refl _) _) h13⟩
    refine rgv_end ?_
    intro L w' hall
    simp only [asg, List.set_cons_zero, List.set_cons_succ, List.map_cons, List.map_nil, opens, anyV]
    intro v31 _ v34 _ v35 _ hi
    obtain ⟨hset, hbel⟩ := hi.2.2.2.2.2 (hall 16 (by decide))
    have HSET := hid hset
    have HBEL := hid (Below.trans HE2.out hbel)
    clear hi hset hbel hall
    go_wp2_with fail
    go_end0
    exact ⟨rfl, HSET.out, HBEL.out⟩
end Go.Proofs.Ytoonhcmeklmnlaa
