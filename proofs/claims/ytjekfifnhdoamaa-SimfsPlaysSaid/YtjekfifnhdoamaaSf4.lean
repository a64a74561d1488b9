/- Files that a crash cuts: Create, Rename, Remove. -/
import Derived.Test.YtjekfifnhdoamaaSf3
set_option linter.unusedSimpArgs false
set_option linter.unusedVariables false
set_option linter.unnecessarySimpa false
namespace Go.Proofs.Ytjekfifnhdoamaa
open Go.RowKit Go.Rg Go.St

/-- what a call leaves of the files -/
def FsRes (L : FL) (w : World) (M' : FsM) (w' : World) : Prop := ∃ L', L'.fb = L.fb ∧ FsAt w' L' M' ∧ Ch (FsFoot L) w w' ∧ ∀ k, FsFoot L' k → FsFoot L k ∨ w.heap.size ≤ k
def FsPost (L : FL) (w : World) (r : Value) (M' : FsM) (e : Ending) (w' : World) : Prop := e = .returned r ∧ FsRes L w M' w'
theorem FsPost.of {L : FL} {w w' : World} {X : Int × FsM} {c : Int} {M' : FsM} {e : Ending} (hX : X = (c, M')) (he : e = .returned (.int .i64 c)) (h : FsRes L w M' w') : FsPost L w (.int .i64 X.1) X.2 e w' := by
  subst hX
  exact ⟨he, h⟩
theorem FsRes.same {L : FL} {w w' : World} {M' : FsM} (h : FsAt w' L M') (hc : Ch (fun k => k = L.fb) w w') : FsRes L w M' w' :=
  ⟨L, rfl, h, hc.mono fun k _ hk => .inl hk, fun k hk => .inl hk⟩
theorem FsRes.after {L L1 : FL} {w w1 w' : World} {M' : FsM} (h : FsRes L1 w1 M' w') (hfb : L1.fb = L.fb) (hc : Ch (FsFoot L) w w1) (hf : ∀ k, FsFoot L1 k → FsFoot L k ∨ w.heap.size ≤ k) : FsRes L w M' w' := by
  obtain ⟨L', e1, h1, h2, h3⟩ := h
  refine ⟨L', e1.trans hfb, h1, ?_, fun k hk => ?_⟩
  · refine ⟨h2.os.trans hc.os, h2.tape.trans hc.tape, h2.output.trans hc.output, Nat.le_trans hc.size h2.size, fun k hk hn => ?_⟩
    refine (h2.block k (Nat.lt_of_lt_of_le hk hc.size) fun hF => ?_).trans (hc.block k hk hn)
    rcases hf k hF with h | h
    · exact hn h
    · omega
  · rcases h3 k hk with h | h
    · exact hf k h
    · exact .inr (Nat.le_trans hc.size h)
theorem FsDoP.res {L : FL} {M : FsM} {c : Chg} {w : World} {e : Ending} {w' : World} (h : FsDoP L M c w e w') : e = .returned (.tuple #[]) ∧ FsRes L w (M.doC c) w' := by
  obtain ⟨h1, sv', h2, h3, h4⟩ := h
  refine ⟨h1, { L with sv := sv' }, rfl, h2, h3.mono fun k _ hk => ?_, fun k hk => ?_⟩
  · rcases hk with hk | hk | hk
    · exact .inl hk
    · exact .inr (.inl hk)
    · exact .inr (.inr (.inr (.inl hk)))
  · rcases hk with hk | hk | hk | hk | hk
    · exact .inl (.inl hk)
    · exact .inl (.inr (.inl hk))
    · exact .inl (.inr (.inr (.inl hk)))
    · rcases h4 k hk with h | h
      · exact .inl (.inr (.inr (.inr (.inl h))))
      · exact .inr h
    · exact .inl (.inr (.inr (.inr (.inr hk))))
/-- a file more -/
def FL.more (L : FL) (i b : Nat) (v : Value) : FL := { L with φ := fun j => if j = i then b else L.φ j, bv := fun j => if j = i then v else L.bv j, R := fun j => L.R j ∨ j = i }
theorem flatMap_congrG {α β : Type} {f g : α → List β} {l : List α} (h : ∀ x, x ∈ l → f x = g x) : l.flatMap f = l.flatMap g := by
  induction l with
  | nil => rfl
  | cons x l ih =>
    rw [List.flatMap_cons, List.flatMap_cons, h x List.mem_cons_self, ih (fun y hy => h y (List.mem_cons_of_mem _ hy))]
theorem NamesAt.cong {w : World} {mb : Nat} {φ ψ : Nat → Nat} {l : Nm} (h : NamesAt w mb φ l) (he : ∀ p, p ∈ l → ψ p.2 = φ p.2) : NamesAt w mb ψ l := by
  obtain ⟨E, c, h1, h2⟩ := h
  refine ⟨E, c, h1, ?_⟩
  unfold NmTells at h2 ⊢
  have : l.map (fun p => (p.1, ψ p.2)) = l.map (fun p => (p.1, φ p.2)) := List.map_congr_left fun p hp => by rw [he p hp]
  rw [this]
  exact h2
theorem FsAt.new {w : World} {L : FL} {M : FsM} (h : FsAt w L M) :
    FsAt (w.alloc (.cells #[.slice none 0 0, .int .i64 0] 97)) (L.more M.nf w.heap.size (.slice none 0 0)) { M with files := updF M.files M.nf ⟨[], 0⟩, nf := M.nf + 1 } := by
  have h1 := h.ext ((Ext.rfl w).al (.cells #[.slice none 0 0, .int .i64 0] 97))
  have hlt := h.lt
  have hφ : ∀ i, i < M.nf → (L.more M.nf w.heap.size (.slice none 0 0)).φ i = L.φ i := fun i hi => if_neg (by omega)
  have hb : ∀ i, i < M.nf → (L.more M.nf w.heap.size (.slice none 0 0)).bv i = L.bv i := fun i hi => if_neg (by omega)
  have hφn : (L.more M.nf w.heap.size (.slice none 0 0)).φ M.nf = w.heap.size := if_pos rfl
  have hbn : (L.more M.nf w.heap.size (.slice none 0 0)).bv M.nf = .slice none 0 0 := if_pos rfl
  have hfl : ∀ i, L.R i → L.φ i < w.heap.size := fun i hi => blk_lt (h.fil i hi).1
  refine ⟨h1.row, h1.now.cong fun p hp => hφ _ (hlt _ (h.ref _ (.inl ⟨p, hp, rfl⟩))), h1.las.cong fun p hp => hφ _ (hlt _ (h.ref _ (.inr (.inl ⟨p, hp, rfl⟩)))), ?_, fun i hi => .inl (h.ref i hi), fun i hi => ?_, fun i hi => ?_, h.nl, fun i j hi hj e => ?_, fun i j hi hj hij k hk => ?_⟩
  · have e : M.since.flatMap (eChg (L.more M.nf w.heap.size (.slice none 0 0)).φ) = M.since.flatMap (eChg L.φ) := flatMap_congrG fun c hc => by
      unfold eChg xChg
      by_cases h0 : c.to_.size = 0
      · rw [if_pos h0, if_pos h0]
      · rw [if_neg h0, if_neg h0, hφ _ (hlt _ (h.ref _ (.inr (.inr ⟨c, hc, h0, rfl⟩))))]
    show World.ownsRow _ 0 _ 3 L.sv M.since.length (M.since.flatMap (eChg (L.more M.nf w.heap.size (.slice none 0 0)).φ))
    rw [e]
    exact h1.sin
  · rcases hi with hi | rfl
    · exact Nat.lt_succ_of_lt (hlt i hi)
    · exact Nat.lt_succ_self _
  · rcases hi with hi | rfl
    · have hl := hlt i hi
      rw [hφ i hl, hb i hl]
      show FileAt _ _ _ (updF M.files M.nf ⟨[], 0⟩ i)
      rw [updF_other _ _ (by omega)]
      exact h1.fil i hi
    · rw [hφn, hbn]
      show FileAt _ _ _ (updF M.files M.nf ⟨[], 0⟩ M.nf)
      rw [updF_same]
      exact ⟨heap_alloc_new w _, World.ownsRow_nil _ _ _ _⟩
  · rcases hi with hi | rfl <;> rcases hj with hj | rfl
    · rw [hφ i (hlt i hi), hφ j (hlt j hj)] at e
      exact h.inj i j hi hj e
    · rw [hφ i (hlt i hi), hφn] at e
      have := hfl i hi
      omega
    · rw [hφn, hφ j (hlt j hj)] at e
      have := hfl j hj
      omega
    · rfl
  · rcases hi with hi | rfl <;> rcases hj with hj | rfl
    · rw [hb i (hlt i hi)] at hk
      rw [hb j (hlt j hj)]
      exact h.ap i j hi hj hij k hk
    · rw [hbn]; simp [Value.ownBlock]
    · rw [hbn] at hk; cases hk
    · exact absurd rfl hij
theorem foot_more {L : FL} {i b : Nat} {k : Nat} (h : FsFoot (L.more i b (.slice none 0 0)) k) : (FsFoot L k ∨ k = b) := by
  rcases h with h | h | h | h | ⟨j, hj, h⟩
  · exact .inl (.inl h)
  · exact .inl (.inr (.inl h))
  · exact .inl (.inr (.inr (.inl h)))
  · exact .inl (.inr (.inr (.inr (.inl h))))
  · by_cases e : j = i
    · have e1 : (L.more i b (.slice none 0 0)).φ j = b := if_pos e
      have e2 : (L.more i b (.slice none 0 0)).bv j = .slice none 0 0 := if_pos e
      rw [e1, e2] at h
      rcases h with h | h
      · exact .inr h
      · cases h
    · have e1 : (L.more i b (.slice none 0 0)).φ j = L.φ j := if_neg e
      have e2 : (L.more i b (.slice none 0 0)).bv j = L.bv j := if_neg e
      rw [e1, e2] at h
      rcases hj with hj | hj
      · exact .inl (.inr (.inr (.inr (.inr ⟨j, hj, h⟩))))
      · exact absurd hj e

set_option maxRecDepth 100000 in
set_option maxHeartbeats 4000000 in
theorem fsCreate_in (L : FL) (M : FsM) (n : ByteArray) (w : World) (h : FsAt w L M) (ok : M.Ok) (ho : M.ops < OpsMax) (hn : n.size ≤ 140737488355328) :
    Calls Try.prog 26 #[ptrV L.fb, .string n] w (FsPost L w (.int .i64 (M.create n).1) (M.create n).2) := by
  have OK := hid (ask_row ok ho)
  have AS := hid (ask_asked M)
  have hcr : Hid (M.create n = if M.ask.1 ≠ 0 then M.ask else
    if goodN n = false then (40, M.ask.2) else
      if (fndN M.ask.2.names n).isSome then (41, M.ask.2) else
        (0, ({ M.ask.2 with files := updF M.files M.nf ⟨[], 0⟩, nf := M.nf + 1 } : FsM).doC ⟨ByteArray.empty, n, M.nf⟩)) := hid rfl
  have HN := hid hn
  clear hn
  go_enter Try.func26, Try.ntmps26
  go_wp2_with fail
  refine (fsAsk_in L M w h ok ho).mono ?_
  rintro e w1 ⟨rfl, h1, hc1⟩
  have H1 := hid h1
  have C1 := hid hc1
  obtain ⟨c0, _, _, _, _, _, _, _⟩ := fs_cells h1.row
  have hlk := h1.now.look OK.out.1.rn n
  clear h1 hc1 h ok ho
  by_cases h0 : M.ask.1 = 0
  · have d0 : (M.ask.1 != 0) = false := by rw [h0]; rfl
    have H0 := hid h0
    clear h0
    cases hg : goodN n with
    | false =>
      have e1 : M.create n = (40, M.ask.2) := by rw [hcr.out, if_neg (fun h => h H0.out), if_pos hg]
      have EE := hid e1
      have HG := hid hg
      clear hcr hlk c0 hg
      go_wp2_with (go_at_call 48; refine (fsGood_in n HN.out _).mono ?_; rintro e w2 ⟨rfl, rfl⟩; rw [HG.out])
      go_ret
      exact FsPost.of EE.out rfl (FsRes.same H1.out C1.out)
    | true =>
      cases hq : fndN M.ask.2.names n with
      | some i =>
        have e1 : M.create n = (41, M.ask.2) := by rw [hcr.out, if_neg (fun h => h H0.out), if_neg (by rw [hg]; decide), hq]; rfl
        have EE := hid e1
        rw [hq] at hlk
        simp only [Option.map_some, Option.elim_some] at hlk
        have HG := hid hg
        clear hcr hg hq
        go_wp2_with (go_at_call 48; refine (fsGood_in n HN.out _).mono ?_; rintro e w2 ⟨rfl, rfl⟩; rw [HG.out])
        go_ret
        exact FsPost.of EE.out rfl (FsRes.same H1.out C1.out)
      | none =>
        have e1 : M.create n = (0, ({ M.ask.2 with files := updF M.files M.nf ⟨[], 0⟩, nf := M.nf + 1 } : FsM).doC ⟨ByteArray.empty, n, M.nf⟩) := by rw [hcr.out, if_neg (fun h => h H0.out), if_neg (by rw [hg]; decide), hq]; rfl
        have EE := hid e1
        rw [hq] at hlk
        simp only [Option.map_none, Option.elim_none] at hlk
        have HG := hid hg
        have HG2 := hid (good_size hg)
        clear hcr hg hq
        go_wp2_with (go_at_call 48; refine (fsGood_in n HN.out _).mono ?_; rintro e w2 ⟨rfl, rfl⟩; rw [HG.out])
        have R2 := hid (H1.out.new)
        have X2 := hid ((Ext.rfl w1).al (.cells #[.slice none 0 0, .int .i64 0] 97))
        have hdo := fsDo_in (L.more M.ask.2.nf w1.heap.size (.slice none 0 0)) _ ⟨ByteArray.empty, n, M.nf⟩ _ R2.out OK.out.1.rn (fun _ => .inr AS.out.nf.symm) (by have := OK.out.1.ll; have := OK.out.2; show M.ask.2.since.length ≤ OpsMax; omega)
        have hx3 : xChg (L.more M.ask.2.nf w1.heap.size (.slice none 0 0)).φ ⟨ByteArray.empty, n, M.nf⟩ = ptrV w1.heap.size := by
          unfold xChg
          rw [if_neg (show ¬ n.size = 0 by have := HG2.out; omega)]
          exact congrArg ptrV (if_pos AS.out.nf.symm)
        rw [hx3] at hdo
        have hdo2 : Calls Try.prog 49 #[ptrV L.fb, .agg #[.string ByteArray.empty, .string n, ptrV w1.heap.size]] (w1.alloc (.cells #[.slice none 0 0, .int .i64 0] 97)) _ := hdo
        have HDO := hid hdo2
        clear hdo hdo2 hx3
        refine HDO.out.mono ?_
        rintro e w3 hd
        obtain ⟨rfl, hd2⟩ := hd.res
        have HD := hid hd2
        clear hd hd2 hlk c0
        go_wp2_with fail
        go_ret
        refine FsPost.of EE.out rfl ?_
        have e2 : ({ M.ask.2 with files := updF M.ask.2.files M.ask.2.nf ⟨[], 0⟩, nf := M.ask.2.nf + 1 } : FsM) = { M.ask.2 with files := updF M.files M.nf ⟨[], 0⟩, nf := M.nf + 1 } := by rw [AS.out.files, AS.out.nf]
        rw [← e2]
        refine HD.out.after rfl ((C1.out.mono fun k _ hk => .inl hk).tr (Ch.of_ext X2.out)) fun k hk => ?_
        rcases foot_more hk with h | h
        · exact .inl h
        · exact .inr (by rw [h]; exact C1.out.size)
  · have d0 : (M.ask.1 != 0) = true := by simp [h0]
    have e1 : M.create n = (M.ask.1, M.ask.2) := by rw [hcr.out, if_pos h0]
    have EE := hid e1
    clear h0 hcr hlk c0
    go_wp2_with fail
    go_ret
    exact FsPost.of EE.out rfl (FsRes.same H1.out C1.out)

/-- the three ways of a find -/
theorem find_cases (L : FL) (M : FsM) (n : ByteArray) : (M.ask.1 ≠ 0 ∧ fndV L M n = .pointer none ∧ fndC M n = M.ask.1) ∨ (M.ask.1 = 0 ∧ fndN M.ask.2.names n = none ∧ fndV L M n = .pointer none ∧ fndC M n = 42) ∨
    (∃ i, M.ask.1 = 0 ∧ fndN M.ask.2.names n = some i ∧ fndV L M n = ptrV (L.φ i) ∧ fndC M n = 0) := by
  unfold fndV fndC
  by_cases h0 : M.ask.1 = 0
  · have h1 : ¬ M.ask.1 ≠ 0 := fun h => h h0
    rw [if_neg h1, if_neg h1]
    cases hq : fndN M.ask.2.names n with
    | none => exact .inr (.inl ⟨h0, rfl, rfl, rfl⟩)
    | some i => exact .inr (.inr ⟨i, h0, rfl, rfl, rfl⟩)
  · rw [if_pos h0, if_pos h0]
    exact .inl ⟨h0, rfl, rfl⟩
set_option maxRecDepth 100000 in
set_option maxHeartbeats 4000000 in
theorem fsRename_in (L : FL) (M : FsM) (n m : ByteArray) (w : World) (h : FsAt w L M) (ok : M.Ok) (ho : M.ops < OpsMax) (hm : m.size ≤ 140737488355328) :
    Calls Try.prog 32 #[ptrV L.fb, .string n, .string m] w (FsPost L w (.int .i64 (M.rename n m).1) (M.rename n m).2) := by
  have OK := hid (ask_row ok ho)
  have hcr : Hid (M.rename n m = if M.ask.1 ≠ 0 then M.ask else
    match fndN M.ask.2.names n with
    | none => (42, M.ask.2)
    | some i => if goodN m = false then (40, M.ask.2) else (0, M.ask.2.doC ⟨n, m, i⟩)) := hid rfl
  have HN := hid hm
  clear hm
  go_enter Try.func32, Try.ntmps32
  go_wp2_with fail
  refine (fsFind_in L M n w h ok ho).mono ?_
  rintro e w1 ⟨rfl, h1, hc1⟩
  have H1 := hid h1
  have C1 := hid hc1
  clear h1 hc1 h ok ho
  rcases find_cases L M n with ⟨h0, ev, ec⟩ | ⟨h0, hq, ev, ec⟩ | ⟨i, h0, hq, ev, ec⟩
  · have e1 : M.rename n m = (M.ask.1, M.ask.2) := by rw [hcr.out, if_pos h0]
    have EE := hid e1
    have d0 : (M.ask.1 != 0) = true := by simp [h0]
    rw [ev, ec]
    clear h0 hcr e1 ev ec
    go_wp2_with fail
    go_ret
    exact FsPost.of EE.out rfl (FsRes.same H1.out C1.out)
  · have e1 : M.rename n m = (42, M.ask.2) := by rw [hcr.out, if_neg (fun h => h h0), hq]
    have EE := hid e1
    rw [ev, ec]
    clear h0 hcr e1 ev ec hq
    go_wp2_with fail
    go_ret
    exact FsPost.of EE.out rfl (FsRes.same H1.out C1.out)
  · have hcr2 : M.rename n m = if goodN m = false then (40, M.ask.2) else (0, M.ask.2.doC ⟨n, m, i⟩) := by rw [hcr.out, if_neg (fun h => h h0), hq]
    have hri := hid (H1.out.ref i (.inl ⟨_, fndN_mem hq, rfl⟩))
    rw [ev, ec]
    cases hg : goodN m with
    | false =>
      have e1 : M.rename n m = (40, M.ask.2) := by rw [hcr2, if_pos hg]
      have EE := hid e1
      have HG := hid hg
      clear h0 hcr hcr2 e1 ev ec hq hg
      go_wp2_with (go_at_call 48; refine (fsGood_in m HN.out _).mono ?_; rintro e w2 ⟨rfl, rfl⟩; rw [HG.out])
      go_ret
      exact FsPost.of EE.out rfl (FsRes.same H1.out C1.out)
    | true =>
      have e1 : M.rename n m = (0, M.ask.2.doC ⟨n, m, i⟩) := by rw [hcr2, if_neg (by rw [hg]; decide)]
      have EE := hid e1
      have HG := hid hg
      have hdo := fsDo_in L M.ask.2 ⟨n, m, i⟩ w1 H1.out OK.out.1.rn (fun _ => hri.out) (by have := OK.out.1.ll; have := OK.out.2; omega)
      have hx3 : xChg L.φ ⟨n, m, i⟩ = ptrV (L.φ i) := by
        unfold xChg
        rw [if_neg (show ¬ m.size = 0 by have := (good_size hg).1; omega)]
      rw [hx3] at hdo
      have HDO := hid hdo
      clear h0 hcr hcr2 e1 ev ec hq hg hdo hx3
      go_wp2_with (go_at_call 48; refine (fsGood_in m HN.out _).mono ?_; rintro e w2 ⟨rfl, rfl⟩; rw [HG.out])
      refine HDO.out.mono ?_
      rintro e w3 hd
      obtain ⟨rfl, hd2⟩ := hd.res
      have HD := hid hd2
      clear hd hd2
      go_wp2_with fail
      go_ret
      exact FsPost.of EE.out rfl (HD.out.after rfl (C1.out.mono fun k _ hk => .inl hk) fun k hk => .inl hk)
set_option maxRecDepth 100000 in
set_option maxHeartbeats 4000000 in
theorem fsRemove_in (L : FL) (M : FsM) (n : ByteArray) (w : World) (h : FsAt w L M) (ok : M.Ok) (ho : M.ops < OpsMax) :
    Calls Try.prog 42 #[ptrV L.fb, .string n] w (FsPost L w (.int .i64 (M.remove n).1) (M.remove n).2) := by
  have OK := hid (ask_row ok ho)
  have hcr : Hid (M.remove n = if M.ask.1 ≠ 0 then M.ask else
    match fndN M.ask.2.names n with
    | none => (42, M.ask.2)
    | some i => (0, M.ask.2.doC ⟨n, ByteArray.empty, 0⟩)) := hid rfl
  go_enter Try.func42, Try.ntmps42
  go_wp2_with fail
  refine (fsFind_in L M n w h ok ho).mono ?_
  rintro e w1 ⟨rfl, h1, hc1⟩
  have H1 := hid h1
  have C1 := hid hc1
  clear h1 hc1 h ok ho
  rcases find_cases L M n with ⟨h0, ev, ec⟩ | ⟨h0, hq, ev, ec⟩ | ⟨i, h0, hq, ev, ec⟩
  · have e1 : M.remove n = (M.ask.1, M.ask.2) := by rw [hcr.out, if_pos h0]
    have EE := hid e1
    have d0 : (M.ask.1 == 0) = false := by rw [beq_eq_false_iff_ne]; exact h0
    rw [ev, ec]
    clear h0 hcr e1 ev ec
    go_wp2_with fail
    go_ret
    exact FsPost.of EE.out rfl (FsRes.same H1.out C1.out)
  · have e1 : M.remove n = (42, M.ask.2) := by rw [hcr.out, if_neg (fun h => h h0), hq]
    have EE := hid e1
    rw [ev, ec]
    clear h0 hcr e1 ev ec hq
    go_wp2_with fail
    go_ret
    exact FsPost.of EE.out rfl (FsRes.same H1.out C1.out)
  · have e1 : M.remove n = (0, M.ask.2.doC ⟨n, ByteArray.empty, 0⟩) := by rw [hcr.out, if_neg (fun h => h h0), hq]
    have EE := hid e1
    have hdo := fsDo_in L M.ask.2 ⟨n, ByteArray.empty, 0⟩ w1 H1.out OK.out.1.rn (fun hc => absurd rfl hc) (by have := OK.out.1.ll; have := OK.out.2; omega)
    have hx3 : xChg L.φ ⟨n, ByteArray.empty, 0⟩ = .pointer none := if_pos rfl
    rw [hx3] at hdo
    have HDO := hid hdo
    rw [ev, ec]
    clear h0 hcr e1 ev ec hq hdo hx3
    go_wp2_with fail
    refine HDO.out.mono ?_
    rintro e w3 hd
    obtain ⟨rfl, hd2⟩ := hd.res
    have HD := hid hd2
    clear hd hd2
    go_wp2_with fail
    go_ret
    exact FsPost.of EE.out rfl (HD.out.after rfl (C1.out.mono fun k _ hk => .inl hk) fun k hk => .inl hk)
end Go.Proofs.Ytjekfifnhdoamaa
