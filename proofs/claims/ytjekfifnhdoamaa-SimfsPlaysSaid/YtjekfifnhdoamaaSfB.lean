/- Files that a crash cuts: bytes copied; a file's twin. -/
import Derived.Test.YtjekfifnhdoamaaSfA
set_option linter.unusedSimpArgs false
set_option linter.unusedVariables false
set_option linter.unnecessarySimpa false
namespace Go.Proofs.Ytjekfifnhdoamaa
open Go.RowKit Go.Rg Go.St

theorem eqB_nil (a : Option Addr) (n c : Nat) (w : World) : (binOp .eql 53 (.slice a n c) (.slice none 0 0)).run Try.prog w = .ok (.bool a.isNone) w := Go.Lib.run_eql_slice_nil w _ _ a n c 0 0 Try.underlying53
set_option maxRecDepth 100000 in
set_option maxHeartbeats 1000000 in
theorem cloneB_in (v : Value) (bs : List UInt8) (w : World) (h : SlB w v bs) (hn : bs.length ≤ 140737488351232) :
    Calls Try.prog 56 #[v] w (fun e w' => ∃ v', e = .returned v' ∧ BytesNew w bs v' w') := by
  obtain ⟨a, cap, rfl, hcap, hm, hc⟩ := h.ex
  clear h
  unfold maxLen at hm
  cases a with
  | none =>
    have hx : bs.length = 0 := by
      rcases Nat.eq_zero_or_pos bs.length with h0 | h0
      · exact h0
      · obtain ⟨b, off, e, _⟩ := hc h0
        cases e
    obtain rfl := List.eq_nil_of_length_eq_zero hx
    clear hc hx
    have hq := eqB_nil
    go_enter Try.func56, Try.ntmps56
    go_wp2
    go_ret
    exact ⟨_, rfl, World.ownsRow_nil _ _ _ _, Ext.rfl _⟩
  | some ad =>
    have hnews : ∀ w', Ext w w' → ∀ j u, (Lib.byteCells bs)[j]? = some u → w'.cell? (ad.add j) = some u := by
      intro w' he j u hu
      rw [bc_nth] at hu
      split at hu
      · rename_i hj
        obtain ⟨b, off, e, hcell⟩ := hc (by omega)
        simp only [Option.some.injEq] at e
        subst e
        rw [← Option.some.inj hu, Addr.add_lit]
        exact ext_cell he (hcell j hj)
      · cases hu
    have HN := hid hnews
    clear hnews hc
    have hq := eqB_nil
    go_enter Try.func56, Try.ntmps56
    go_wp2_with (at_builtin; refine wpList_app bytE rfl (owns_new w #[] _ 0 1 _ rfl (Nat.le_refl _) (by decide)) rfl (bc_len bs) (HN.out _ ((Ext.rfl w).al _)) (bc_one bs) (by omega) ((Ext.rfl w).al _).size ?_; intro v' w1 hown1 hg1 hb1; have O1 := hid hown1; have E1 := hid (Below.trans ((Ext.rfl w).al _) hb1); clear hown1 hg1 hb1)
    go_ret
    refine ⟨v', rfl, ?_, E1.out⟩
    have h1 := O1.out
    rw [Nat.zero_add] at h1
    exact h1

/-- twins: which files have one, where they lie -/
structure TwAt (B : Nat) (w : World) (L : FL) (M : FsM) (sb sm : Nat) (D : Nat → Prop) (ψ : Nat → Nat) (bw : Nat → Value) : Prop where
  box : w.heap[sb]? = some (.cells #[.map (some sm)] 106 (0, 0))
  map : ∃ E c, NmAt ptrV w sm E c ∧ (keysE E).Nodup ∧ (∀ p, p ∈ E → ∃ i, D i ∧ p.1 = L.φ i) ∧ ∀ i, D i → getE E (L.φ i) = some (ψ i)
  sub : ∀ i, D i → L.R i
  fil : ∀ i, D i → FileAt w (ψ i) (bw i) (M.files i)
  new : ∀ i, D i → B ≤ ψ i ∧ ∀ k, (bw i).ownBlock = some k → B ≤ k
  inj : ∀ i j, D i → D j → ψ i = ψ j → i = j
  ap : ∀ i j, D i → D j → i ≠ j → ∀ k, (bw i).ownBlock = some k → (bw j).ownBlock ≠ some k
  bsb : B ≤ sb
  bsm : B ≤ sm
theorem TwAt.go {B : Nat} {w w' : World} {L : FL} {M : FsM} {sb sm : Nat} {D : Nat → Prop} {ψ : Nat → Nat} {bw : Nat → Value} (h : TwAt B w L M sb sm D ψ bw) {F : Nat → Prop} (hc : Ch F w w') (h1 : ¬ F sb) (h2 : ¬ F sm) (h3 : ∀ i, D i → ¬ F (ψ i) ∧ ∀ k, (bw i).ownBlock = some k → ¬ F k) : TwAt B w' L M sb sm D ψ bw := by
  refine ⟨(hc.block _ (blk_lt h.box) h1).trans h.box, ?_, h.sub, fun i hi => ⟨(hc.block _ (blk_lt (h.fil i hi).1) (h3 i hi).1).trans (h.fil i hi).1, owns_ch (h.fil i hi).2 fun g hg => ?_⟩, h.new, h.inj, h.ap, h.bsb, h.bsm⟩
  · obtain ⟨E, c, hN, h5⟩ := h.map
    exact ⟨E, c, hN.go (hc.block _ hN.lt h2), h5⟩
  · obtain ⟨cs, hcs⟩ := own_ltG (h.fil i hi).2 hg
    exact hc.block _ (blk_lt hcs) ((h3 i hi).2 g hg)
theorem TwAt.ext {B : Nat} {w w' : World} {L : FL} {M : FsM} {sb sm : Nat} {D : Nat → Prop} {ψ : Nat → Nat} {bw : Nat → Value} (h : TwAt B w L M sb sm D ψ bw) (he : Ext w w') : TwAt B w' L M sb sm D ψ bw :=
  h.go (F := fun _ => False) (Ch.of_ext he) id id fun i _ => ⟨id, fun _ _ => id⟩
theorem sm_map : Try.prog.underlying 106 = some (.map 94 94) := by kernel_rfl
theorem sm_key : KeyG Try.prog 94 ptrV Plain := by
  have h : ∃ j, Try.prog.info? 97 = some j ∧ j.size ≠ 0 := by
    have h1 : (Try.prog.info? 97).map (fun i => i.size) = some 2 := by kernel_rfl
    cases hq : Try.prog.info? 97 with
    | none => rw [hq] at h1; cases h1
    | some i => rw [hq] at h1; simp at h1; exact ⟨i, rfl, by omega⟩
  obtain ⟨j, h1, h2⟩ := h
  exact keyG_ptr (by kernel_rfl) h1 h2
theorem getE_none {α : Type} [BEq α] [LawfulBEq α] {E : Ent α} {k : α} (h : ∀ p, p ∈ E → p.1 ≠ k) : getE E k = none := by
  unfold getE
  rw [List.find?_eq_none.2 (fun p hp => by simpa using h p hp)]
  rfl
theorem getE_put {α : Type} [BEq α] [LawfulBEq α] [DecidableEq α] {E : Ent α} {k : α} {v c : Nat} (hn : (keysE E).Nodup) (j : α) : getE (putEn E k v c) j = if j = k then some v else getE E j := by
  have hp := pr_put (k := k) (v := v) (c := c) hn
  have hk : ((((k, v) :: offK k (pr E)) : List (α × Nat)).map (·.1)).Nodup := by
    rw [List.map_cons, List.nodup_cons]
    constructor
    · intro hm
      obtain ⟨q, hq, e⟩ := List.mem_map.1 hm
      unfold offK at hq
      rw [List.mem_filter] at hq
      simp [e] at hq
    · rw [keys_pr] at hn
      exact (List.Sublist.map _ List.filter_sublist).nodup hn
  rw [get_pr, find_perm hp ((hp.map (·.1)).symm.nodup hk), List.find?_cons]
  by_cases e : j = k
  · rw [if_pos e]
    subst e
    simp
  · rw [if_neg e]
    have e1 : (k == j) = false := by simpa using fun h => e h.symm
    simp only [e1]
    rw [get_pr]
    congr 1
    unfold offK
    rw [List.find?_filter]
    congr 1
    funext q
    by_cases hq : q.1 = j
    · have : ¬ q.1 = k := fun h => e (hq.symm.trans h)
      simp [hq, e]
    · simp [hq]

theorem keys_put {α : Type} [BEq α] [LawfulBEq α] {E : Ent α} {k : α} {v c : Nat} (hn : (keysE E).Nodup) (h : ∀ p, p ∈ E → p.1 ≠ k) : putEn E k v c = E ++ [(k, v, c)] := by
  unfold putEn posE
  have : E.findIdx? (fun p => p.1 == k) = none := by
    rw [List.findIdx?_eq_none_iff]
    intro p hp
    simpa using h p hp
  rw [this]
  rfl
theorem owns_slB {w : World} {v : Value} {n : Nat} {l : List UInt8} {base : Nat} (h : w.ownsRow base 5 1 v n (Lib.byteCells l)) : SlB w v l := by
  obtain rfl : n = l.length := by
    have := h.1
    rw [bc_len] at this
    omega
  exact Sl1.cong (owns_sl1 h) fun j hj => by
    have := bc_nth l j
    rw [if_pos hj] at this
    simp [this]
def TwinP (B : Nat) (L : FL) (M : FsM) (sb sm : Nat) (D : Nat → Prop) (ψ : Nat → Nat) (bw : Nat → Value) (i : Nat) (w : World) (e : Ending) (w' : World) : Prop :=
  ∃ (ψ' : Nat → Nat) (bw' : Nat → Value), e = .returned (ptrV (ψ' i)) ∧ TwAt B w' L M sb sm (fun j => D j ∨ j = i) ψ' bw' ∧ (∀ j, D j → ψ' j = ψ j ∧ bw' j = bw j) ∧ Ch (fun k => k = sm) w w'
theorem TwAt.more {B : Nat} {w w' : World} {L : FL} {M : FsM} {sb sm : Nat} {D : Nat → Prop} {ψ : Nat → Nat} {bw : Nat → Value} (h : TwAt B w L M sb sm D ψ bw) (hL : FsAt w L M) {i : Nat} (hi : L.R i) (hni : ¬ D i)
    {g : Nat} {v : Value} {E : Ent Nat} {c : Nat} (hE : ∀ p, p ∈ E → ∃ i, D i ∧ p.1 = L.φ i) (hEn : (keysE E).Nodup) (hEg : ∀ i, D i → getE E (L.φ i) = some (ψ i)) (hB : B ≤ w.heap.size)
    (hc : Ch (fun k => k = sm) w w') (hm : NmAt ptrV w' sm (putEn E (L.φ i) g c) (clkE E (L.φ i) c)) (hf : FileAt w' g v (M.files i)) (hg : w.heap.size ≤ g) (hv : ∀ k, v.ownBlock = some k → w.heap.size ≤ k) :
    TwAt B w' L M sb sm (fun j => D j ∨ j = i) (fun j => if j = i then g else ψ j) (fun j => if j = i then v else bw j) := by
  have hno : ∀ p, p ∈ E → p.1 ≠ L.φ i := fun p hp e => by
    obtain ⟨j, hj, e2⟩ := hE p hp
    have := hL.inj j i (h.sub j hj) hi (e2.symm.trans e)
    subst this
    exact hni hj
  have hsm : ∀ {b : Nat} {cs : Array Value} {ty : TypeId}, w.heap[b]? = some (.cells cs ty (0, 0)) → b ≠ sm := fun hb e => by
    obtain ⟨E2, c2, hN, _⟩ := h.map
    rw [e, hN.map] at hb; cases hb
  have hlt : ∀ j, D j → ψ j < w.heap.size := fun j hj => blk_lt (h.fil j hj).1
  have hji : ∀ j, D j → j ≠ i := fun j hj e => hni (e ▸ hj)
  refine ⟨(hc.block _ (blk_lt h.box) (hsm h.box)).trans h.box, ⟨_, _, hm, ?_, fun p hp => ?_, fun j hj => ?_⟩, fun j hj => ?_, fun j hj => ?_, fun j hj => ?_, fun j l hj hl e => ?_, fun j l hj hl hjl k hk => ?_, h.bsb, h.bsm⟩
  · rw [keys_put hEn hno]
    unfold keysE at hEn ⊢
    rw [List.map_append, List.nodup_append]
    refine ⟨hEn, by simp, fun a ha b hb => ?_⟩
    obtain ⟨q, hq, rfl⟩ := List.mem_map.1 ha
    simp at hb
    subst hb
    exact hno q hq
  · rw [keys_put hEn hno] at hp
    rcases List.mem_append.1 hp with hp | hp
    · obtain ⟨j, hj, e⟩ := hE p hp
      exact ⟨j, .inl hj, e⟩
    · rw [List.mem_singleton.1 hp]
      exact ⟨i, .inr rfl, rfl⟩
  · rw [getE_put hEn]
    rcases hj with hj | rfl
    · rw [if_neg (fun e => hji j hj (hL.inj j i (h.sub j hj) hi e)), if_neg (hji j hj)]
      exact hEg j hj
    · rw [if_pos rfl, if_pos rfl]
  · rcases hj with hj | rfl
    · exact h.sub j hj
    · exact hi
  · rcases hj with hj | rfl
    · simp only [if_neg (hji j hj)]
      refine ⟨(hc.block _ (hlt j hj) (hsm (h.fil j hj).1)).trans (h.fil j hj).1, owns_ch (h.fil j hj).2 fun q hq => ?_⟩
      obtain ⟨cs, hcs⟩ := own_ltG (h.fil j hj).2 hq
      exact hc.block _ (blk_lt hcs) (hsm hcs)
    · simp only [if_true]
      exact hf
  · rcases hj with hj | rfl
    · simp only [if_neg (hji j hj)]
      exact h.new j hj
    · simp only [if_true]
      exact ⟨Nat.le_trans hB hg, fun k hk => Nat.le_trans hB (hv k hk)⟩
  · rcases hj with hj | rfl <;> rcases hl with hl | rfl
    · simp only [if_neg (hji j hj), if_neg (hji l hl)] at e
      exact h.inj j l hj hl e
    · simp only [if_neg (hji j hj), if_true] at e
      have := hlt j hj
      omega
    · simp only [if_neg (hji l hl), if_true] at e
      have := hlt l hl
      omega
    · rfl
  · rcases hj with hj | rfl <;> rcases hl with hl | rfl
    · simp only [if_neg (hji j hj)] at hk
      simp only [if_neg (hji l hl)]
      exact h.ap j l hj hl hjl k hk
    · simp only [if_neg (hji j hj)] at hk
      simp only [if_true]
      intro h2
      have h3 := hv k h2
      obtain ⟨cs, hcs⟩ := own_ltG (h.fil j hj).2 hk
      have := blk_lt hcs
      omega
    · simp only [if_true] at hk
      simp only [if_neg (hji l hl)]
      intro h2
      have h3 := hv k hk
      obtain ⟨cs, hcs⟩ := own_ltG (h.fil l hl).2 h2
      have := blk_lt hcs
      omega
    · exact absurd rfl hjl
theorem twin_made {B : Nat} {L : FL} {M : FsM} {sb sm : Nat} {D : Nat → Prop} {ψ : Nat → Nat} {bw : Nat → Value} {i : Nat} {w w1 w3 : World} {E : Ent Nat} {c c2 : Nat} {a2 : Option Addr} (HN : NmAt ptrV w sm E c) (H : TwAt B w L M sb sm D ψ bw) (HL : FsAt w L M) (HI : L.R i) (HD : ¬ D i)
    (HEK : ∀ p, p ∈ E → ∃ i, D i ∧ p.1 = L.φ i) (HEN : (keysE E).Nodup) (HEG : ∀ i, D i → getE E (L.φ i) = some (ψ i)) (hB : B ≤ w.heap.size) (X1 : Ext w w1)
    (R1 : w1.ownsRow w.drew.heap.size 5 1 (.slice a2 (M.files i).b.length c2) (M.files i).b.length (Lib.byteCells (M.files i).b))
    (N3 : NmAt ptrV w3 sm (putEn E (L.φ i) w1.heap.size c) (clkE E (L.φ i) c)) (C3 : Ch (fun x => x = sm) (w1.alloc (.cells #[.slice a2 (M.files i).b.length c2, .int .i64 ((M.files i).last : Nat)] 97)) w3) :
    TwAt B w3 L M sb sm (fun j => D j ∨ j = i) (fun j => if j = i then w1.heap.size else ψ j) (fun j => if j = i then .slice a2 (M.files i).b.length c2 else bw j) ∧
    w3.cell? ⟨sb, 0, none⟩ = some (.map (some sm)) ∧
    (Instr.lookup 106 (.map (some sm)) (ptrV (L.φ i)) false).run Try.prog w3 = .ok (ptrV w1.heap.size) w3 ∧
    Ch (fun k => k = sm) w w3 := by
  have hsmlt := HN.lt
  have hn1 := heap_alloc_new w1 (.cells #[.slice a2 (M.files i).b.length c2, .int .i64 ((M.files i).last : Nat)] 97)
  have hs1 := X1.size
  have hsz : w1.heap.size ≠ sm := by omega
  have hch : Ch (fun k => k = sm) w w3 := (Ch.of_ext (X1.al _)).tr C3
  have hb3 : ∀ k, (Value.slice a2 (M.files i).b.length c2).ownBlock = some k → w.heap.size ≤ k := fun k hk => by
    rcases R1.2 with ⟨e, _⟩ | ⟨g, cp, cur, e, hb, _⟩
    · rw [e] at hk; cases hk
    · rw [e] at hk
      have : g = k := Option.some.inj hk
      rw [← this]
      exact hb
  have hrow : w3.heap[w1.heap.size]? = some (.cells #[.slice a2 (M.files i).b.length c2, .int .i64 ((M.files i).last : Nat)] 97 (0, 0)) := (C3.block _ (blk_lt hn1) hsz).trans hn1
  have hfa : FileAt w3 w1.heap.size (.slice a2 (M.files i).b.length c2) (M.files i) := by
    refine ⟨hrow, owns_base (base' := 0) (owns_ch (owns_ext R1 ((Ext.rfl w1).al (.cells #[.slice a2 (M.files i).b.length c2, .int .i64 ((M.files i).last : Nat)] 97))) fun g hg => ?_) (Nat.zero_le _)⟩
    have h1 := hb3 g hg
    obtain ⟨cs, hcs⟩ := own_ltG (owns_ext R1 ((Ext.rfl w1).al (.cells #[.slice a2 (M.files i).b.length c2, .int .i64 ((M.files i).last : Nat)] 97))) hg
    exact C3.block _ (blk_lt hcs) (by omega)
  have hT := H.more HL HI HD HEK HEN HEG hB hch N3 hfa hs1 hb3
  have hsb := cell_of_row _ _ 0 _ _ _ hT.box
  simp only [List.getElem?_toArray, List.getElem?_cons_zero] at hsb
  have hno : ∀ p, p ∈ E → p.1 ≠ L.φ i := fun p hp e => by
    obtain ⟨j, hj, e2⟩ := HEK p hp
    have := HL.inj j i (H.sub j hj) HI (e2.symm.trans e)
    subst this
    exact HD hj
  refine ⟨hT, hsb, ?_, hch⟩
  have hpl : ∀ b cs ty, w.heap[b]? = some (.cells cs ty (0, 0)) → Plain w3 b := fun b cs ty hb => ⟨cs, ty, (hch.block _ (blk_lt hb) (fun e => by
    rw [e, HN.map] at hb; cases hb)).trans hb⟩
  have hlk := nm_look sm_map sm_key mN_zero N3 (L.φ i) (hpl _ _ _ (HL.fil i HI).1) (fun p hp => by
    rw [keys_put HEN hno] at hp
    rcases List.mem_append.1 hp with hp | hp
    · obtain ⟨j, hj, e⟩ := HEK p hp
      rw [e]
      exact hpl _ _ _ (HL.fil j (H.sub j hj)).1
    · rw [List.mem_singleton.1 hp]
      exact hpl _ _ _ (HL.fil i HI).1)
  rw [getE_put HEN, if_pos rfl] at hlk
  exact hlk
set_option maxRecDepth 100000 in
set_option maxHeartbeats 4000000 in
theorem twin_in (B : Nat) (L : FL) (M : FsM) (sb sm : Nat) (D : Nat → Prop) (ψ : Nat → Nat) (bw : Nat → Value) (i : Nat) (w : World) (hL : FsAt w L M) (h : TwAt B w L M sb sm D ψ bw) (hi : L.R i) (hb : (M.files i).b.length ≤ 1048576) (hB : B ≤ w.heap.size) :
    Calls Try.prog 55 #[ptrV (L.φ i), ptrV sb] w (TwinP B L M sb sm D ψ bw i w) := by
  obtain ⟨E, c, hN, hEn, hEk, hEg⟩ := h.map
  have hpl : ∀ (wx : World), Ext w wx → (Plain wx (L.φ i) ∧ ∀ p, p ∈ E → Plain wx p.1) := fun wx he => by
    refine ⟨⟨_, _, (he.block _ (blk_lt (hL.fil i hi).1)).trans (hL.fil i hi).1⟩, fun p hp => ?_⟩
    obtain ⟨j, hj, e⟩ := hEk p hp
    rw [e]
    exact ⟨_, _, (he.block _ (blk_lt (hL.fil j (h.sub j hj)).1)).trans (hL.fil j (h.sub j hj)).1⟩
  have hlk := nm_look sm_map sm_key mN_zero hN (L.φ i) (hpl _ (Ext.rfl w)).1 (hpl _ (Ext.rfl w)).2
  have c0 := cell_of_row _ _ 0 _ _ _ h.box
  simp only [List.getElem?_toArray, List.getElem?_cons_zero] at c0
  have H := hid h
  have HL := hid hL
  by_cases hd : D i
  · rw [hEg i hd] at hlk
    simp only [Option.elim_some] at hlk
    have HD := hid hd
    clear hL h hN hEn hEk hEg hpl hd
    go_enter Try.func55, Try.ntmps55
    go_wp2_with fail
    go_ret
    exact ⟨ψ, bw, rfl, ⟨H.out.box, H.out.map.elim fun E h => h.elim fun c h => ⟨E, c, h.1, h.2.1, fun p hp => (h.2.2.1 p hp).elim fun j hj => ⟨j, .inl hj.1, hj.2⟩, fun j hj => h.2.2.2 j (hj.elim id fun e => e ▸ HD.out)⟩,
      fun j hj => H.out.sub j (hj.elim id fun e => e ▸ HD.out), fun j hj => H.out.fil j (hj.elim id fun e => e ▸ HD.out), fun j hj => H.out.new j (hj.elim id fun e => e ▸ HD.out),
      fun j l hj hl => H.out.inj j l (hj.elim id fun e => e ▸ HD.out) (hl.elim id fun e => e ▸ HD.out), fun j l hj hl => H.out.ap j l (hj.elim id fun e => e ▸ HD.out) (hl.elim id fun e => e ▸ HD.out), H.out.bsb, H.out.bsm⟩, fun j _ => ⟨rfl, rfl⟩, Ch.rfl _ _⟩
  · have hno : ∀ p, p ∈ E → p.1 ≠ L.φ i := fun p hp e => by
      obtain ⟨j, hj, e2⟩ := hEk p hp
      have := hL.inj j i (h.sub j hj) hi (e2.symm.trans e)
      subst this
      exact hd hj
    rw [getE_none hno] at hlk
    simp only [Option.elim_none] at hlk
    have hfi := hL.fil i hi
    obtain ⟨k0, k1, kf⟩ := file_cellsG hfi
    obtain ⟨a1, cap1, hv1, _⟩ := slice_ofG hfi.2
    have hsl : SlB w (L.bv i) (M.files i).b := owns_slB hfi.2
    rw [hv1] at k0 hsl
    have HSL := hid hsl
    have HN := hid hN
    have HPL := hid hpl
    have HEN := hid hEn
    have HNO := hid hno
    have HEK := hid hEk
    have HEG := hid hEg
    have HD := hid hd
    have HI := hid hi
    have HBL := hid hb
    clear hL h hN hEn hEk hEg hpl hd hfi hv1 hsl hno hi hb kf
    go_enter Try.func55, Try.ntmps55
    go_wp2_with fail
    go_region_with (go_at_call 56; refine (cloneB_in _ _ w.drew (HSL.out.go ((Ext.rfl w).dr)) (by have := HBL.out; omega)).mono ?_; rintro e w1 ⟨v1, rfl, hb1⟩; obtain ⟨a2, c2, rfl, _⟩ := slice_ofG hb1.1; have X1 := hid (show Ext w w1 from ((Ext.rfl w).dr).tr hb1.2); have R1 := hid hb1.1; have q0 := ext_cell X1.out c0; have q1 := ext_cell X1.out k1; have q2 := ext_cell X1.out k0; have s0 := cell_lt q0; have s1 := cell_lt q1; have s2 := Nat.ne_of_gt s0; have s3 := Nat.ne_of_gt s1; obtain ⟨w3, hput, n3, ch3⟩ := nm_put sm_map sm_key (HN.out.go (((X1.out).al (Obj.cells #[Value.slice a2 (M.files i).b.length c2, .int .i64 ((M.files i).last : Nat)] 97)).block _ HN.out.lt)) HEN.out (L.φ i) w1.heap.size (HPL.out _ (X1.out.al _)).1 (HPL.out _ (X1.out.al _)).2; have N3 := hid n3; have C3 := hid ch3; clear hb1 n3 ch3)
    all_goals
      obtain ⟨r0, r1, r2, r3⟩ := twin_made HN.out H.out HL.out HI.out HD.out HEK.out HEN.out HEG.out hB X1.out R1.out N3.out C3.out
      have TW := hid r0
      have CH := hid r3
      clear r0 r3 q0 q1 q2 s0 s1 s2 s3 hput c0 k1 k0 hlk HSL
      go_wp2_with fail
      go_ret
      exact ⟨_, _, by rw [if_pos rfl]; rfl, TW.out, fun j hj => by
        have hji : j ≠ i := fun e => HD.out (by rw [← e]; exact hj)
        exact ⟨if_neg hji, if_neg hji⟩, CH.out⟩
end Go.Proofs.Ytjekfifnhdoamaa
