/- The walk of the law MemtablePlays. -/
import Derived.Test.YtoonhcmeklmnlaaMtS
import Derived.Test.YtoonhcmeklmnlaaRgN
import Derived.Test.YtoonhcmeklmnlaaOpenB
import Derived.Deep.CutRange
set_option linter.unusedSimpArgs false
set_option linter.unusedVariables false
set_option linter.unnecessarySimpa false
namespace Go.Rg
open Go.RowKit
theorem uponN_call {P : Program} {J : World → Prop} {v : Value} {w : World} {ρ : Operand → Value} {t : Tmp} {f : FuncId} {xs : Array Operand} {tys : Array TypeId} {ty : TypeId} {pos : String} {aft : Array Edge} (vs : List Value)
    (h0 : ρ (.func f) = .func (.func f) #[] #[]) (ha : xs.toList.map ρ = vs) (hf : ∀ (args : Array Value) (w : World), (callFunc f args).run P w = .ok (.enter f args) w)
    (h : Calls P f vs.toArray w (fun e w'' => e = .returned v ∧ J w'')) : UponN P v J ((execOp ρ ⟨some t, .call ⟨.value (.func f), xs, tys⟩, ty, pos, aft, none⟩).run P w) := by
  have hr : (execOp ρ ⟨some t, .call ⟨.value (.func f), xs, tys⟩, ty, pos, aft, none⟩).run P w = .ok (.enter f (xs.map ρ)) w := by
    simp [execOp, resolve, h0, Deferred.ofValue, invoke, Sem.run_bind, hf]
  rw [hr]
  have e : xs.map ρ = vs.toArray := by
    apply Array.toList_inj.1
    rw [Array.toList_map, ha]
  show Calls P f (xs.map ρ) w _
  rw [e]
  exact h
end Go.Rg
namespace Go.Proofs.Ytoonhcmeklmnlaa
open Go.RowKit Go.Rg Go.St

/-- rows of keys with values, and the document's tables, stay -/
def Kp (w w' : World) : Prop := ∀ (b : Nat) (cs : Array Value) (ty : TypeId) (fr : Nat × Nat), w.heap[b]? = some (Obj.cells cs ty fr) → (ty = 57 ∨ ty = 44 ∨ ty = 59) → w'.heap[b]? = w.heap[b]?
theorem kp_ext {w w' : World} (h : Ext w w') : Kp w w' := fun b cs ty fr hb _ => h.block b (blk_lt hb)
theorem tfoot_type {w : World} {T : TLoc} {M : MT} (H : TRep w T M) {b : Nat} (hb : TFoot T M b) {cs : Array Value} {ty : TypeId} {fr : Nat × Nat} (hc : w.heap[b]? = some (.cells cs ty fr)) : ty ≠ 57 ∧ ty ≠ 44 ∧ ty ≠ 59 := by
  rcases hb with rfl | rfl | rfl | hb | ⟨i, hi, hb⟩
  · rw [H.tb] at hc; cases hc; decide
  · obtain ⟨es, c, h1, _⟩ := H.km
    rw [h1] at hc; cases hc
  · obtain ⟨es, c, h1, _⟩ := H.vm
    rw [h1] at hc; cases hc
  · rcases H.row.2 with ⟨h1, _⟩ | ⟨g, cap, cur, h1, _, hg, _⟩
    · rw [h1] at hb; cases hb
    · rw [h1] at hb
      simp [Value.ownBlock] at hb
      subst hb
      rw [hg] at hc; cases hc; decide
  · rcases (H.ls i hi).foot hb with ⟨es, c, h1⟩ | ⟨cs', ty', fr', h1, h2⟩
    · rw [h1] at hc; cases hc
    · rw [h1] at hc
      cases hc
      refine ⟨fun e => ?_, fun e => ?_, fun e => ?_⟩
      all_goals
        subst e
        revert h2; unfold skipTy; decide
theorem kp_ch {w w' : World} {T : TLoc} {M : MT} (H : TRep w T M) (h : Ch (TFoot T M) w w') : Kp w w' := fun b cs ty fr hb ht => h.block b (blk_lt hb) fun hf => by
  obtain ⟨h1, h2, h3⟩ := tfoot_type H hf hb
  exact ht.elim h1 (Or.rec h2 h3)
theorem RefAt.kp {B rb : Nat} {fr : Bool} {L : List KVp} {w w' : World} (h : RefAt B rb fr L w) (hk : Kp w w') : RefAt B rb fr L w' := by
  obtain ⟨lv, h1, h2⟩ := h
  refine ⟨lv, (hk _ _ _ _ h1 (.inl rfl)).trans h1, owns_ch h2 fun g hg => ?_⟩
  rcases h2.2 with ⟨e, _⟩ | ⟨g', cap, cur, e, _, hc, _⟩
  · rw [e] at hg; cases hg
  · rw [e] at hg
    simp [Value.ownBlock] at hg
    subst hg
    exact hk _ _ _ _ hc (.inr (.inl rfl))
theorem add_kp {B tb : Nat} {fr : Bool} {es : List KVp} {w : World} (h : TabAt B tb fr es w) (hB : B ≤ w.heap.size) (hl : es.length ≤ 3000000000000) (k : IKey) (v : ByteArray) (h0 : 0 ≤ k.seq) (hu : k.user.size ≤ 9223372036854775807) (hv : v.size ≤ 9223372036854775807) :
    Calls Try.prog 26 #[.pointer (some ⟨tb, 0, none⟩), aKey k, .string v] w (fun e w' => AddAt B tb fr es k v w e w' ∧ Kp w w') := by
  obtain ⟨T, M, rfl, hT, rfl, rfl⟩ := h
  have old : ∀ c : Int, c ≠ 0 → addC M.frozen M.es k v = c → ∀ e w', IntExt c w e w' → AddAt B T.tb M.frozen M.es k v w e w' ∧ Kp w w' := fun c hc hac e w' ⟨h1, h2⟩ =>
    ⟨⟨by rw [hac]; exact h1, ⟨T, M, rfl, hT.ext h2, by unfold addE; rw [hac, if_neg hc], rfl⟩, Lo.of_ext h2⟩, kp_ext h2⟩
  by_cases hf : M.frozen = true
  · exact (add_frozen hT.rep hf k v).mono (old 80 (by decide) (by unfold addC; rw [if_pos hf]))
  · have hf' : M.frozen = false := by simpa using hf
    by_cases hc : kChk k = 0
    · by_cases hb : badV k v = true
      · refine (add_val hT.rep hf' k hu hc v hv ?_).mono (old 31 (by decide) (by unfold addC; rw [if_neg hf, if_neg (by rw [hc]; decide), if_pos hb]))
        rcases badV_yes hb with h1 | ⟨h1, h2, h3⟩
        · exact .inl h1
        · exact .inr ⟨h1, h2, fun he => by have := size_zero.1 he; omega⟩
      · have hgv : GoodV k v := ⟨(badV_no hb).1, fun hk => size_zero.2 ((badV_no hb).2 hk)⟩
        by_cases hi : ∃ e, e ∈ M.es ∧ e.1 = k
        · exact (add_same hT.rep hf' k hu hc v hgv hi).mono (old 81 (by decide) (by unfold addC; rw [if_neg hf, if_neg (by rw [hc]; decide), if_neg hb, if_pos hi]))
        · have hac : addC M.frozen M.es k v = 0 := by unfold addC; rw [if_neg hf, if_neg (by rw [hc]; decide), if_neg hb, if_neg hi]
          obtain ⟨s0, s1⟩ := hT.bound hl
          refine (add_new hT.rep hT.full hf' k (good_of hc h0) hc v hgv (fun e he hk => hi ⟨e, he, hk⟩) hl s0 s1).mono ?_
          rintro e w' ⟨rfl, T2, M2, t1, t2, t3, t4, t5, t6, t7, t8⟩
          refine ⟨⟨by rw [hac], ⟨T2, M2, t1, ⟨t2, t3, by rw [t6, t4, sumE_snoc, hT.size], fun b hb => ?_⟩, by unfold addE; rw [if_pos hac]; exact t4, t5⟩, t7.mono fun b _ hb => hT.lo b hb⟩, kp_ch hT.rep t7⟩
          rcases t8 b hb with h9 | h9
          · exact hT.lo b h9
          · omega
    · exact (add_chk hT.rep hf' k hu hc v).mono (old (kChk k) hc (by unfold addC; rw [if_neg hf, if_pos hc]))
theorem freeze_kp {B tb : Nat} {fr : Bool} {es : List KVp} {w : World} (h : TabAt B tb fr es w) : Calls Try.prog 34 #[.pointer (some ⟨tb, 0, none⟩)] w (fun e w' => e = .returned (.tuple #[]) ∧ TabAt B tb true es w' ∧ Lo B w w' ∧ Kp w w') := by
  obtain ⟨T, M, rfl, hT, rfl, rfl⟩ := h
  exact (freeze_in hT.rep).mono fun _ _ ⟨h1, h2, h3⟩ => ⟨h1, ⟨T, _, rfl, ⟨h2, { hT.full with }, hT.size, hT.lo⟩, rfl, rfl⟩, h3.mono fun b _ hb => hT.lo b (.inl hb), kp_ch hT.rep (h3.mono fun b _ hb => .inl hb)⟩

theorem TRep.chf {w w' : World} {T : TLoc} {M : MT} {F : Nat → Prop} (H : TRep w T M) (h : Ch F w w') (hF : ∀ b, TFoot T M b → ¬ F b) : TRep w' T M := by
  refine ⟨(h.block _ (blk_lt H.tb) (hF _ (.inl rfl))).trans H.tb, ?_, H.km.go (h.block _ H.km.lt (hF _ (.inr (.inl rfl)))), H.vm.go (h.block _ H.vm.lt (hF _ (.inr (.inr (.inl rfl))))), fun i hi => ?_, H.ap, H.kv, H.mo⟩
  · exact owns_ch H.row fun g hg => h.block _ (H.row.lt g hg).2 (hF _ (.inr (.inr (.inr (.inl hg)))))
  · exact (H.ls i hi).go h fun b hb => hF _ (.inr (.inr (.inr (.inr ⟨i, hi, hb⟩))))

/-! ### both side by side -/
structure Duo (B tb rb : Nat) (fr : Bool) (es L : List KVp) (w : World) : Prop where
  tab : TabAt B tb fr es w
  ref : RefAt B rb fr L w
  all : AllOf (mkT es) L
  len : L.length = es.length
  lo : B ≤ rb
theorem Duo.ext {B tb rb : Nat} {fr : Bool} {es L : List KVp} {w w' : World} (h : Duo B tb rb fr es L w) (he : Ext w w') : Duo B tb rb fr es L w' := ⟨h.tab.ext he, h.ref.ext he, h.all, h.len, h.lo⟩
theorem addC_ref {fr : Bool} {es L : List KVp} (hA : AllOf (mkT es) L) (k : IKey) (v : ByteArray) : addC fr L k v = addC fr es k v := by
  unfold addC
  have h : (∃ e, e ∈ L ∧ e.1 = k) ↔ ∃ e, e ∈ es ∧ e.1 = k := ⟨fun ⟨e, h1, h2⟩ => ⟨e, (hA.mem e).1 h1, h2⟩, fun ⟨e, h1, h2⟩ => ⟨e, (hA.mem e).2 h1, h2⟩⟩
  by_cases hi : ∃ e, e ∈ es ∧ e.1 = k
  · rw [if_pos hi, if_pos (h.2 hi)]
  · rw [if_neg hi, if_neg (fun hh => hi (h.1 hh))]
theorem duo_add {fr : Bool} {es L : List KVp} (hA : AllOf (mkT es) L) (hlen : L.length = es.length) (hg : ∀ e, e ∈ es → GoodE e.1) (k : IKey) (v : ByteArray) (h0 : 0 ≤ k.seq) : AllOf (mkT (addE fr es k v)) (refL fr L k v) ∧ (refL fr L k v).length = (addE fr es k v).length := by
  unfold addE refL
  rw [addC_ref hA]
  by_cases hz : addC fr es k v = 0
  · rw [if_pos hz, if_pos hz]
    have hfr : fr = false := by
      cases fr
      · rfl
      · unfold addC at hz; rw [if_pos rfl] at hz; cases hz
    subst hfr
    obtain ⟨h1, h2⟩ := (addC_zero (x := (k, v))).1 hz
    unfold okKV at h1
    rw [Bool.and_eq_true] at h1
    refine ⟨all_with hA hg (good_of (of_decide_eq_true h1.1) h0) fun e he hk => h2 ⟨e, he, hk⟩, ?_⟩
    rw [withL_len, List.length_append, hlen]; rfl
  · rw [if_neg hz, if_neg hz]
    exact ⟨hA, hlen⟩

/-- while both are added to -/
structure PlayI (wc : World) (tb rb bx : Nat) (fr : Bool) (es L : List KVp) (c : MCall) (Ln : Nat → Bool) (w' : World) : Prop where
  ext : Ext wc w'
  bx : w'.heap[bx]? = some (.cells #[.int .i64 c.kind, .string c.kv.1.user, .int .u64 c.kv.1.seq, .int .i64 c.kv.1.kind, .string c.kv.2] 59 (0, 0))
  tab : TabAt wc.heap.size tb fr (bif Ln 5 then addE fr es c.kv.1 c.kv.2 else es) w'
  ref : RefAt wc.heap.size rb fr (bif Ln 11 then refL fr L c.kv.1 c.kv.2 else L) w'
theorem PlayI.go {wc w1 w2 : World} {tb rb bx : Nat} {fr : Bool} {es L : List KVp} {c : MCall} {Ln : Nat → Bool} (h : PlayI wc tb rb bx fr es L c Ln w1) (he : Ext w1 w2) : PlayI wc tb rb bx fr es L c Ln w2 := ⟨h.ext.tr he, (he.block _ (blk_lt h.bx)).trans h.bx, h.tab.ext he, h.ref.ext he⟩
theorem PlayI.read {wc w1 w2 : World} {tb rb bx : Nat} {fr : Bool} {es L : List KVp} {c : MCall} {Ln : Nat → Bool} (h : PlayI wc tb rb bx fr es L c Ln w1) (he : Ext w1 w2) {i : Nat} (hi : i ≠ 5 ∧ i ≠ 11) : PlayI wc tb rb bx fr es L c (setL Ln i) w2 := by
  have h' := h.go he
  exact ⟨h'.ext, h'.bx, by rw [setL_other Ln (Ne.symm hi.1)]; exact h'.tab, by rw [setL_other Ln (Ne.symm hi.2)]; exact h'.ref⟩
theorem cf_radd (args : Array Value) (w : World) : (callFunc 32 args).run Try.prog w = .ok (.enter 32 args) w := by kernel_rfl
theorem cf_rget (args : Array Value) (w : World) : (callFunc 33 args).run Try.prog w = .ok (.enter 33 args) w := by kernel_rfl
theorem cf_size (args : Array Value) (w : World) : (callFunc 27 args).run Try.prog w = .ok (.enter 27 args) w := by kernel_rfl
theorem cf_rsize (args : Array Value) (w : World) : (callFunc 35 args).run Try.prog w = .ok (.enter 35 args) w := by kernel_rfl
theorem cf_all (args : Array Value) (w : World) : (callFunc 29 args).run Try.prog w = .ok (.enter 29 args) w := by kernel_rfl
theorem cf_same (args : Array Value) (w : World) : (callFunc 28 args).run Try.prog w = .ok (.enter 28 args) w := by kernel_rfl
theorem play_add {wc w : World} {tb rb bx : Nat} {fr : Bool} {es L : List KVp} {c : MCall} {Ln : Nat → Bool} (hl : es.length ≤ 400) (hk : OkKV c.kv) (h : PlayI wc tb rb bx fr es L c Ln w) (hL : Ln 5 = false) :
    Calls Try.prog 26 #[.pointer (some ⟨tb, 0, none⟩), aKey c.kv.1, .string c.kv.2] w (fun e w'' => e = .returned (.int .i64 (addC fr es c.kv.1 c.kv.2)) ∧ PlayI wc tb rb bx fr es L c (setL Ln 5) w'') := by
  have ht := h.tab
  rw [hL] at ht
  refine (add_kp ht h.ext.size (by simp only [cond_false]; omega) c.kv.1 c.kv.2 hk.1 hk.2.1 hk.2.2).mono ?_
  rintro e w' ⟨⟨h1, h2, h3⟩, h4⟩
  exact ⟨h1, ext_lo h.ext h3 (Nat.le_refl _), (h4 _ _ _ _ h.bx (.inr (.inr rfl))).trans h.bx, by rw [setL_same]; exact h2, by rw [setL_other Ln (by decide)]; exact h.ref.kp h4⟩
theorem play_ref {wc w : World} {tb rb bx : Nat} {fr : Bool} {es L : List KVp} {c : MCall} {Ln : Nat → Bool} (hA : AllOf (mkT es) L) (hg : ∀ e, e ∈ es → GoodE e.1) (hl : L.length ≤ 400) (hk : OkKV c.kv) (hrb : wc.heap.size ≤ rb) (h : PlayI wc tb rb bx fr es L c Ln w) (hL : Ln 11 = false) :
    Calls Try.prog 32 #[.pointer (some ⟨rb, 0, none⟩), aKey c.kv.1, .string c.kv.2] w (fun e w'' => e = .returned (.int .i64 (addC fr es c.kv.1 c.kv.2)) ∧ PlayI wc tb rb bx fr es L c (setL Ln 11) w'') := by
  have hr := h.ref
  rw [hL] at hr
  refine (add08_in hr h.ext.size (fun e he => hg e ((hA.mem e).1 he)) (by simp only [cond_false]; omega) c.kv.1 c.kv.2 hk.1 hk.2.1 hk.2.2).mono ?_
  rintro e w' ⟨h1, h2, h3⟩
  obtain ⟨T, M, t1, t2, t3, t4⟩ := h.tab
  have hne : ∀ b, TFoot T M b → ¬ b = rb := fun b hb e => by
    obtain ⟨lv, hx, _⟩ := hr
    rw [e] at hb
    exact (tfoot_type t2.rep hb hx).1 rfl
  have hbx : bx ≠ rb := by
    obtain ⟨lv, hx, _⟩ := hr
    exact cells_ne h.bx hx (by decide)
  refine ⟨by rw [h1]; simp only [cond_false]; rw [addC_ref hA], ext_lo h.ext (h3.mono fun b _ hb => by rw [hb]; exact hrb) (Nat.le_refl _), (h3.block _ (blk_lt h.bx) hbx).trans h.bx, ?_, by rw [setL_same]; exact h2⟩
  rw [setL_other Ln (by decide)]
  exact ⟨T, M, t1, ⟨t2.rep.chf h3 hne, t2.full, t2.size, t2.lo⟩, t3, t4⟩

theorem slS_takeG {α : Type} [Inhabited α] {w : World} {a : Option Addr} {m cap sz : Nat} {enc : α → List Value} {xs : List α} (h : SlS w (.slice a m cap) sz enc xs) (n : Nat) (hn : n ≤ xs.length) : SlS w (.slice a n cap) sz enc (xs.take n) := slS_take h n hn
theorem call_at {w : World} {v : Value} {l : List MCall} (h : SlS w v 5 eCall l) {b off cap : Nat} (hv : v = .slice (some ⟨b, off, none⟩) l.length cap) {k : Nat} (hk : k < l.length) :
    w.cell? ⟨b, off + k * 5, none⟩ = some (.int .i64 (nth l k).kind) ∧ w.cell? ⟨b, off + k * 5 + 1, none⟩ = some (.string (nth l k).kv.1.user) ∧ w.cell? ⟨b, off + k * 5 + 2, none⟩ = some (.int .u64 (nth l k).kv.1.seq) ∧ w.cell? ⟨b, off + k * 5 + 3, none⟩ = some (.int .i64 (nth l k).kv.1.kind) ∧ w.cell? ⟨b, off + k * 5 + 4, none⟩ = some (.string (nth l k).kv.2) := by
  obtain ⟨a, c, e, _, _, h3⟩ := h.ex
  obtain ⟨b', off', rfl, hc⟩ := h3 (by omega)
  rw [hv] at e
  simp only [Value.slice.injEq, Option.some.injEq, Addr.mk.injEq] at e
  obtain ⟨⟨rfl, rfl, _⟩, _⟩ := e
  exact ⟨hc k hk 0 (by omega), hc k hk 1 (by omega), hc k hk 2 (by omega), hc k hk 3 (by omega), hc k hk 4 (by omega)⟩
theorem rangeC {w : World} {b : Nat} {c : MCall} (h : w.heap[b]? = some (.cells #[.int .i64 c.kind, .string c.kv.1.user, .int .u64 c.kv.1.seq, .int .i64 c.kv.1.kind, .string c.kv.2] 59 (0, 0))) : w.rangeAt b 1 [.string c.kv.1.user, .int .u64 c.kv.1.seq, .int .i64 c.kv.1.kind] := by
  intro j v hj
  rw [cell_of_row _ _ _ _ _ _ h]
  match j, hj with
  | 0, hj => exact hj
  | 1, hj => exact hj
  | 2, hj => exact hj
def allSV (L : List KVp) : SV := .rel (fun v w => SlS w v 4 eKV L) (fun v w w' he h => h.go (fun _ => rfl) he)
theorem duo_freeze {B tb rb : Nat} {fr : Bool} {es L : List KVp} {w : World} {lw : Value} (ht : TabAt B tb true es w) (hr : w.heap[rb]? = some (.cells #[lw, .bool fr] 57 (0, 0))) (ho : w.ownsRow B 44 4 lw L.length (L.flatMap eKV)) (hA : AllOf (mkT es) L) (hl : L.length = es.length) (hlo : B ≤ rb) :
    Duo B tb rb true es L (w.setCell ⟨rb, 1, none⟩ (.bool true)) := by
  have hC : Ch (· = rb) w (w.setCell ⟨rb, 1, none⟩ (.bool true)) := (Ch.rfl _ w).setC rfl
  refine ⟨?_, ⟨lw, (heap_setCell_same w rb 1 _ _ _ hr).trans rfl, owns_ch ho fun g hg => heap_setCell_other _ _ _ _ fun e => own_ne' ho hr (by decide) (by rw [hg, e])⟩, hA, hl, hlo⟩
  obtain ⟨T, M, t1, t2, t3, t4⟩ := ht
  exact ⟨T, M, t1, ⟨t2.rep.chf hC fun b hb e => (tfoot_type t2.rep hb (e ▸ hr)).1 rfl, t2.full, t2.size, t2.lo⟩, t3, t4⟩
theorem sets_row {w : World} {g : Nat} {cs : Array Value} {ty : TypeId} (h : w.heap[g]? = some (.cells cs ty (0, 0))) : ∀ (vs : List Value) (o : Nat), ∃ cs' : Array Value, (w.setCells g o vs).heap[g]? = some (.cells cs' ty (0, 0)) ∧ cs'.size = cs.size := by
  intro vs
  induction vs generalizing w cs with
  | nil => intro o; exact ⟨cs, h, rfl⟩
  | cons v vs ih =>
    intro o
    obtain ⟨cs', h1, h2⟩ := ih (heap_setCell_same w g o _ _ v h) (o + 1)
    exact ⟨cs', h1, by rw [h2]; simp⟩
def OkCall (c : MCall) : Prop := OkKV c.kv ∧ c.kv.1.user.size ≤ 1099511627776

set_option maxRecDepth 100000 in
set_option maxHeartbeats 4000000 in
theorem memtablePlays_walk (v0 : Value) (l0 : List MCall) (w : World) (h0 : SlS w v0 5 eCall l0) (ok0 : ∀ x, x ∈ l0 → OkCall x) :
    Calls Try.prog 8 #[v0] w (TrueExt w) := by
  obtain ⟨a0, cap0, rfl, hcap0, hm0, _⟩ := h0.ex
  have H0 := hid h0
  have OK0 := hid ok0
  unfold maxLen at hm0
  clear h0 ok0
  go_enter Try.func8, Try.ntmps8
  go_wp2_with fail
  refine (awake08 w).mono ?_
  rintro e w1 ⟨rfl, he1⟩
  have E1 := hid he1
  clear he1
  have HS1 := hid (show SlS w1 (.slice a0 l0.length cap0) 5 eCall l0 from H0.out.go (fun _ => rfl) E1.out)
  go_upto_if 18 with fail
  go_cut [0] from 16 to 20 (fun v wx => wx = w1 ∧ ∃ l : List MCall, l.length ≤ 400 ∧ (∀ x, x ∈ l → OkCall x) ∧ SlS w1 v 5 eCall l)
  case first =>
    by_cases hlt : 400 < l0.length
    · have hd : decide ((400 : Int) < (l0.length : Int)) = true := decide_eq_true (by omega)
      go_wp2_with fail
      go_meet
      case rel => exact ⟨rfl, l0.take 400, by rw [List.length_take]; omega, fun x hx => OK0.out x (List.mem_of_mem_take hx), slS_takeG HS1.out 400 (Nat.le_of_lt hlt)⟩
    · have hd : decide ((400 : Int) < (l0.length : Int)) = false := decide_eq_false (by omega)
      go_wp2_with fail
      go_meet
      case rel => exact ⟨rfl, l0, by omega, OK0.out, HS1.out⟩
  case rest =>
    obtain ⟨rfl, l, hl, ok, hsl⟩ := hcut
    clear HS1
    obtain ⟨a, cap, rfl, hcap, hm, _⟩ := hsl.ex
    unfold maxLen at hm
    have HL := hid hl
    have HSL := hid hsl
    have OK := hid ok
    clear ok hsl
    go_wp2_with fail
    refine (at_new _).mono ?_
    rintro e w2 ⟨tb, rfl, hT, he2⟩
    have T2 := hid hT
    have E2 := hid he2
    clear hT he2
    go_wp2_with fail
    have D3 := hid (show Duo wc.heap.size tb w2.heap.size false [] [] (w2.alloc (.cells #[.slice none 0 0, .bool false] 57)) from
      ⟨T2.out.ext ((Ext.rfl w2).al _), ⟨_, heap_alloc_new w2 _, World.ownsRow_nil _ _ _ _⟩, ⟨fun e => Iff.rfl, List.Pairwise.nil⟩, rfl, E2.out.size⟩)
    have E3 := hid (show Ext wc (w2.alloc (.cells #[.slice none 0 0, .bool false] 57)) from E2.out.al _)
    have HB3 := hid E3.out.size
    generalize w2.heap.size = rb at *
    generalize hw3 : w2.alloc (.cells #[.slice none 0 0, .bool false] 57) = w3 at *
    clear hw3 T2 E2
    have HW := hid E1.out.size
    go_loopw [6] (fun t wr => ∃ i : Nat, i ≤ l.length ∧ t = .int .i64 i ∧ Ext wc wr ∧ ∃ fr es L, Duo wc.heap.size tb rb fr es L wr ∧ es.length ≤ i) (fun t _ => l.length - (intOf t).toNat)
    case atStart => exact ⟨0, Nat.zero_le _, rfl, E3.out, false, [], [], D3.out, Nat.le_refl _⟩
    case round =>
      clear D3 E3 HB3
      obtain ⟨i, hi, rfl, he, fr, es, L, hD, hel⟩ := hrel
      have HE := hid he
      have HD := hid hD
      have HEL := hid hel
      have HB := hid he.size
      have GD := hid hD.tab.good
      clear he hD hel
      by_cases hlt : i < l.length
      · obtain ⟨_, _, hes, _, _, hc⟩ := HSL.out.ex
        obtain ⟨b, off, ha, _⟩ := hc (by omega)
        simp only [Value.slice.injEq] at hes
        obtain ⟨rfl, _, rfl⟩ := hes
        subst ha
        clear hc
        obtain ⟨q0, q1, q2, q3, q4⟩ := call_at (HSL.out.go (fun _ => rfl) HE.out) rfl hlt
        have OKC := hid (OK.out _ (nth_mem l i hlt))
        generalize hcc : nth l i = c at *
        clear hcc
        have E5 := hid (show Ext wc (wr.alloc (.cells #[.int .i64 c.kind, .string c.kv.1.user, .int .u64 c.kv.1.seq, .int .i64 c.kv.1.kind, .string c.kv.2] 59)) from HE.out.al _)
        have D5 := hid (HD.out.ext ((Ext.rfl wr).al (.cells #[.int .i64 c.kind, .string c.kv.1.user, .int .u64 c.kv.1.seq, .int .i64 c.kv.1.kind, .string c.kv.2] 59)))
        have BX5 := hid (heap_alloc_new wr (.cells #[.int .i64 c.kind, .string c.kv.1.user, .int .u64 c.kv.1.seq, .int .i64 c.kv.1.kind, .string c.kv.2] 59))
        have HE4 := hid (show es.length ≤ 400 by have := HEL.out; have := HL.out; omega)
        have HL4 := hid (show L.length ≤ 400 by have := HD.out.len; have := HE4.out; omega)
        by_cases h1 : c.kind = 1
        · have k1 : (c.kind == 1) = true := by rw [h1]; rfl
          have K := hid h1
          clear h1
          go_wp2_with fail
          have hI0 : PlayI wc tb rb wr.heap.size fr es L c (fun _ => false) (wr.alloc (.cells #[.int .i64 c.kind, .string c.kv.1.user, .int .u64 c.kv.1.seq, .int .i64 c.kv.1.kind, .string c.kv.2] 59)) := ⟨E5.out, BX5.out, D5.out.tab, D5.out.ref⟩
          refine wp_drawN (PlayI wc tb rb wr.heap.size fr es L c) (by kernel_rfl) (by kernel_rfl) (fun Ln w w' h he => h.go he) hI0 ?_
          refine rgn_read 44 (fun _ _ _ h he => h.read he (by decide)) (fun _ _ _ => ob_move (by rfl) (by rfl)) rfl (by rfl) ?_
          refine rgn_read 45 (fun _ _ _ h he => h.read he (by decide)) (fun _ _ _ => ob_field (n := 2) 1 1 42 (by rfl) (by rfl) Try.underlying59 (by rfl) (by kernel_rfl) rfl) rfl (by rfl) ?_
          refine rgn_read 46 (fun _ _ _ h he => h.read he (by decide)) (fun _ _ hi => ob_loadmid (cs := [.string c.kv.1.user, .int .u64 c.kv.1.seq, .int .i64 c.kv.1.kind]) (by rfl) (by rfl) (fun _ he => rangeC ((he.block _ (blk_lt hi.bx)).trans hi.bx)) Try.underlying42 rfl (by kernel_rfl)) rfl (by rfl) ?_
          refine rgn_read 47 (fun _ _ _ h he => h.read he (by decide)) (fun _ _ _ => ob_field (n := 0) 4 4 9 (by rfl) (by rfl) Try.underlying59 (by rfl) (by kernel_rfl) rfl) rfl (by rfl) ?_
          refine rgn_read 48 (fun _ _ _ h he => h.read he (by decide)) (fun _ _ hi => ob_load (v := .string c.kv.2) (by rfl) (by rfl) (by kernel_rfl) (fun _ he => (cell_of_row _ _ _ _ _ _ ((he.block _ (blk_lt hi.bx)).trans hi.bx)).trans rfl)) rfl (by rfl) ?_
          refine rgn_eff [.func 26, .tmp 44, .tmp 46, .tmp 48] [.func (.func 26) #[] #[], .pointer (some ⟨tb, 0, none⟩), aKey c.kv.1, .string c.kv.2] rfl rfl (by rfl) (fun ρ Ln w hx hi hL _ => uponN_call [.pointer (some ⟨tb, 0, none⟩), aKey c.kv.1, .string c.kv.2] (List.cons.inj hx).1 (List.cons.inj hx).2 cf_add (play_add HE4.out OKC.out.1 hi hL)) ⟨by rfl, ?_⟩
          refine rgn_read 50 (fun _ _ _ h he => h.read he (by decide)) (fun _ _ _ => ob_move (by rfl) (by rfl)) rfl (by rfl) ?_
          refine rgn_read 51 (fun _ _ _ h he => h.read he (by decide)) (fun _ _ _ => ob_field (n := 2) 1 1 42 (by rfl) (by rfl) Try.underlying59 (by rfl) (by kernel_rfl) rfl) rfl (by rfl) ?_
          refine rgn_read 52 (fun _ _ _ h he => h.read he (by decide)) (fun _ _ hi => ob_loadmid (cs := [.string c.kv.1.user, .int .u64 c.kv.1.seq, .int .i64 c.kv.1.kind]) (by rfl) (by rfl) (fun _ he => rangeC ((he.block _ (blk_lt hi.bx)).trans hi.bx)) Try.underlying42 rfl (by kernel_rfl)) rfl (by rfl) ?_
          refine rgn_read 53 (fun _ _ _ h he => h.read he (by decide)) (fun _ _ _ => ob_field (n := 0) 4 4 9 (by rfl) (by rfl) Try.underlying59 (by rfl) (by kernel_rfl) rfl) rfl (by rfl) ?_
          refine rgn_read 54 (fun _ _ _ h he => h.read he (by decide)) (fun _ _ hi => ob_load (v := .string c.kv.2) (by rfl) (by rfl) (by kernel_rfl) (fun _ he => (cell_of_row _ _ _ _ _ _ ((he.block _ (blk_lt hi.bx)).trans hi.bx)).trans rfl)) rfl (by rfl) ?_
          refine rgn_eff [.func 32, .tmp 50, .tmp 52, .tmp 54] [.func (.func 32) #[] #[], .pointer (some ⟨rb, 0, none⟩), aKey c.kv.1, .string c.kv.2] rfl rfl (by rfl) (fun ρ Ln w hx hi hL _ => uponN_call [.pointer (some ⟨rb, 0, none⟩), aKey c.kv.1, .string c.kv.2] (List.cons.inj hx).1 (List.cons.inj hx).2 cf_radd (play_ref HD.out.all (fun e he => (GD.out.1 e he).1) HL4.out OKC.out.1 HD.out.lo hi hL)) ⟨by rfl, ?_⟩
          refine rgn_read 56 (fun _ _ _ h he => h.read he (by decide)) (fun _ _ _ => ob_icmp false (by rfl) (by rfl) (by rfl) (by unfold icmp; simp)) rfl (by rfl) ?_
          refine rgn_end ?_
          intro LL w6 hLL hi6
          simp only [asg, List.set_cons_zero, List.set_cons_succ, List.map_cons, List.map_nil, opens]
          have TE := hid hi6.ext
          have hduo := duo_add (fr := fr) HD.out.all HD.out.len (fun e he => (GD.out.1 e he).1) c.kv.1 c.kv.2 OKC.out.1.1
          have ht := hi6.tab
          have hr := hi6.ref
          rw [hLL 5 (by decide)] at ht
          rw [hLL 11 (by decide)] at hr
          have TD := hid (show Duo wc.heap.size tb rb fr (addE fr es c.kv.1 c.kv.2) (refL fr L c.kv.1 c.kv.2) w6 from ⟨ht, hr, hduo.1, hduo.2, HD.out.lo⟩)
          have HE6 := hid (show (addE fr es c.kv.1 c.kv.2).length ≤ i + 1 by have := addE_len fr es c.kv.1 c.kv.2; have := HEL.out; omega)
          clear hi6 hLL hduo ht hr hI0
          go_wp2_with fail
          obtain ⟨lv, hrb, hown⟩ := TD.out.ref
          have HRB := hid hrb
          have HSV := hid (owns_slT hown rfl eKV_length (by decide))
          have GT := hid TD.out.tab.good
          have HLL := hid (show (refL fr L c.kv.1 c.kv.2).length ≤ 1000000 by have h1 := TD.out.len; have h2 := HE6.out; have h3 := HL.out; omega)
          have HSS := hid (show sumE (refL fr L c.kv.1 c.kv.2) = sumE (addE fr es c.kv.1 c.kv.2) from sumE_perm ((List.perm_ext_iff_of_nodup (TD.out.all.ris.imp fun {a b} h e => by rw [e, kl_irrefl] at h; cases h) (nodup_of_keys GT.out.2)).2 fun e => TD.out.all.mem e))
          clear hrb hown
          go_wp2_with fail
          refine wp_draw (by kernel_rfl) (by kernel_rfl) ?_
          refine rg_step 99 (ob_move (by rfl) (by rfl)) rfl (by rfl) ?_
          refine rg_step 100 (ob_call (.ex (.int .i64 (sumE (addE fr es c.kv.1 c.kv.2)))) (by rfl) cf_size (fun w he => gives_ex (at_size (TD.out.tab.ext he)))) rfl (by rfl) ?_
          refine rg_step 101 (ob_move (by rfl) (by rfl)) rfl (by rfl) ?_
          refine rg_step 102 (ob_nilck (by rfl) (by rfl)) rfl (by rfl) ?_
          refine rg_step 103 (ob_field (n := 0) 0 0 35 (by rfl) (by rfl) Try.underlying57 (by rfl) (by kernel_rfl) rfl) rfl (by rfl) ?_
          refine rg_step 104 (ob_load (v := lv) (by rfl) (by rfl) (by kernel_rfl) (fun _ he => by rw [cell_of_row _ _ _ _ _ _ ((he.block _ (blk_lt HRB.out)).trans HRB.out)]; rfl)) rfl (by rfl) ?_
          refine rg_step 105 (ob_call (.ex (.int .i64 (sumE (refL fr L c.kv.1 c.kv.2)))) (by rfl) cf_rsize (fun w he => gives_ex (size08_in lv _ w (HSV.out.go (fun _ => rfl) he) (fun e h => GT.out.1 e ((TD.out.all.mem e).1 h)) HLL.out))) rfl (by rfl) ?_
          refine rg_step 106 (ob_icmp false (by rfl) (by rfl) (by rfl) (by unfold icmp; rw [HSS.out]; simp)) rfl (by rfl) ?_
          refine rg_end ?_
          intro wz hez
          simp only [asg, List.set_cons_zero, List.set_cons_succ, List.map_cons, List.map_nil, opens]
          have TE2 := hid (TE.out.tr hez)
          have TD2 := hid (TD.out.ext hez)
          clear hez
          go_wp2_with fail
          go_roundw
          case rel => exact ⟨i + 1, hlt, by go_num, TE2.out, fr, _, _, TD2.out, by have := HE6.out; omega⟩
          case measure => simp [intOf]; omega
        · have k1 : (c.kind == 1) = false := by simpa using h1
          by_cases h2 : c.kind = 2
          · have k2 : (c.kind == 2) = true := by rw [h2]; rfl
            clear h1 h2
            obtain ⟨s7, hs7⟩ : ∃ s7 : Nat, (s7 : Int) = c.kv.1.seq := ⟨c.kv.1.seq.toNat, Int.toNat_of_nonneg OKC.out.1.1⟩
            have hget := at_get D5.out.tab c.kv.1.user s7 OKC.out.2
            rw [hs7] at hget
            have HGT := hid hget
            have HS7 := hid hs7
            clear hget hs7
            go_wp2_with fail
            refine HGT.out.mono ?_
            rintro e w7 ⟨v7, n7, rfl, hg7, he7⟩
            have E7 := hid (E5.out.tr he7)
            have D7 := hid (D5.out.ext he7)
            have BX7 := hid ((he7.block _ (blk_lt BX5.out)).trans BX5.out)
            have G7 := hid hg7
            obtain ⟨lw, hrw, hww⟩ := D7.out.ref
            have HRW := hid hrw
            have HSW := hid (owns_slT hww rfl eKV_length (by decide))
            have HRG := hid (show ∀ w', Ext w7 w' → Calls Try.prog 33 #[lw, .string c.kv.1.user, .int .u64 c.kv.1.seq] w' (fun e w'' => e = .returned (.tuple #[.string v7, .int .i64 n7]) ∧ Ext w' w'') from fun w' he => by
              have h3 := get08_in lw L c.kv.1.user s7 w' (HSW.out.go (fun _ => rfl) he)
              rw [HS7.out] at h3
              refine h3.mono ?_
              rintro e w'' ⟨v, n, rfl, hg, hee⟩
              obtain ⟨rfl, rfl⟩ := getOf_one (fun _ _ => Iff.rfl) (fun e he => (GD.out.1 e he).1) GD.out.2 G7.out (refGet_of HD.out.all (fun e he => (GD.out.1 e he).1) hg)
              exact ⟨rfl, hee⟩)
            clear hg7 he7 hrw hww
            go_wp2_with fail
            refine wp_draw (by kernel_rfl) (by kernel_rfl) ?_
            refine rg_step 71 (ob_move (by rfl) (by rfl)) rfl (by rfl) ?_
            refine rg_step 72 (ob_nilck (by rfl) (by rfl)) rfl (by rfl) ?_
            refine rg_step 73 (ob_field (n := 0) 0 0 35 (by rfl) (by rfl) Try.underlying57 (by rfl) (by kernel_rfl) rfl) rfl (by rfl) ?_
            refine rg_step 74 (ob_load (v := lw) (by rfl) (by rfl) (by kernel_rfl) (fun _ he => by rw [cell_of_row _ _ _ _ _ _ ((he.block _ (blk_lt HRW.out)).trans HRW.out)]; rfl)) rfl (by rfl) ?_
            refine rg_step 75 (ob_field (n := 2) 1 1 42 (by rfl) (by rfl) Try.underlying59 (by rfl) (by kernel_rfl) rfl) rfl (by rfl) ?_
            refine rg_step 76 (ob_field (n := 0) 1 0 9 (by rfl) (by rfl) Try.underlying42 (by rfl) (by kernel_rfl) rfl) rfl (by rfl) ?_
            refine rg_step 77 (ob_load (v := .string c.kv.1.user) (by rfl) (by rfl) (by kernel_rfl) (fun _ he => (cell_of_row _ _ _ _ _ _ ((he.block _ (blk_lt BX7.out)).trans BX7.out)).trans rfl)) rfl (by rfl) ?_
            refine rg_step 78 (ob_field (n := 2) 1 1 42 (by rfl) (by rfl) Try.underlying59 (by rfl) (by kernel_rfl) rfl) rfl (by rfl) ?_
            refine rg_step 79 (ob_field (n := 0) 2 1 36 (by rfl) (by rfl) Try.underlying42 (by rfl) (by kernel_rfl) rfl) rfl (by rfl) ?_
            refine rg_step 80 (ob_load (v := .int .u64 c.kv.1.seq) (by rfl) (by rfl) (by kernel_rfl) (fun _ he => (cell_of_row _ _ _ _ _ _ ((he.block _ (blk_lt BX7.out)).trans BX7.out)).trans rfl)) rfl (by rfl) ?_
            refine rg_step 81 (ob_call (.ex (.tuple #[.string v7, .int .i64 n7])) (by rfl) cf_rget (fun w he => gives_ex (HRG.out w he))) rfl (by rfl) ?_
            refine rg_step 70 (ob_move (by rfl) (by rfl)) rfl (by rfl) ?_
            refine rg_step 82 (ob_extract (by rfl) (by rfl) (by rfl)) rfl (by rfl) ?_
            refine rg_step 83 (ob_extract (by rfl) (by rfl) (by rfl)) rfl (by rfl) ?_
            refine rg_step 10 (ob_assign (by rfl) (by rfl)) rfl (by rfl) ?_
            refine rg_step 11 (ob_assign (by rfl) (by rfl)) rfl (by rfl) ?_
            refine rg_end ?_
            intro w8 he8
            simp only [asg, List.set_cons_zero, List.set_cons_succ, List.map_cons, List.map_nil, opens]
            have TE := hid (E7.out.tr he8)
            have TD := hid (D7.out.ext he8)
            clear he8
            go_wp2_with fail
            obtain ⟨lv, hrb, hown⟩ := TD.out.ref
            have HRB := hid hrb
            have HSV := hid (owns_slT hown rfl eKV_length (by decide))
            have GT := hid TD.out.tab.good
            have HLL := hid (show (L).length ≤ 1000000 by have h1 := TD.out.len; have h2 := HEL.out; have h3 := HL.out; omega)
            have HSS := hid (show sumE (L) = sumE (es) from sumE_perm ((List.perm_ext_iff_of_nodup (TD.out.all.ris.imp fun {a b} h e => by rw [e, kl_irrefl] at h; cases h) (nodup_of_keys GT.out.2)).2 fun e => TD.out.all.mem e))
            clear hrb hown
            go_wp2_with fail
            refine wp_draw (by kernel_rfl) (by kernel_rfl) ?_
            refine rg_step 99 (ob_move (by rfl) (by rfl)) rfl (by rfl) ?_
            refine rg_step 100 (ob_call (.ex (.int .i64 (sumE (es)))) (by rfl) cf_size (fun w he => gives_ex (at_size (TD.out.tab.ext he)))) rfl (by rfl) ?_
            refine rg_step 101 (ob_move (by rfl) (by rfl)) rfl (by rfl) ?_
            refine rg_step 102 (ob_nilck (by rfl) (by rfl)) rfl (by rfl) ?_
            refine rg_step 103 (ob_field (n := 0) 0 0 35 (by rfl) (by rfl) Try.underlying57 (by rfl) (by kernel_rfl) rfl) rfl (by rfl) ?_
            refine rg_step 104 (ob_load (v := lv) (by rfl) (by rfl) (by kernel_rfl) (fun _ he => by rw [cell_of_row _ _ _ _ _ _ ((he.block _ (blk_lt HRB.out)).trans HRB.out)]; rfl)) rfl (by rfl) ?_
            refine rg_step 105 (ob_call (.ex (.int .i64 (sumE (L)))) (by rfl) cf_rsize (fun w he => gives_ex (size08_in lv _ w (HSV.out.go (fun _ => rfl) he) (fun e h => GT.out.1 e ((TD.out.all.mem e).1 h)) HLL.out))) rfl (by rfl) ?_
            refine rg_step 106 (ob_icmp false (by rfl) (by rfl) (by rfl) (by unfold icmp; rw [HSS.out]; simp)) rfl (by rfl) ?_
            refine rg_end ?_
            intro wz hez
            simp only [asg, List.set_cons_zero, List.set_cons_succ, List.map_cons, List.map_nil, opens]
            have TE2 := hid (TE.out.tr hez)
            have TD2 := hid (TD.out.ext hez)
            clear hez
            go_wp2_with fail
            go_roundw
            case rel => exact ⟨i + 1, hlt, by go_num, TE2.out, fr, _, _, TD2.out, by have := HEL.out; omega⟩
            case measure => simp [intOf]; omega
          · have k2 : (c.kind == 2) = false := by simpa using h2
            by_cases h3 : c.kind = 3
            · have k3 : (c.kind == 3) = true := by rw [h3]; rfl
              clear h1 h2 h3
              go_wp2_with fail
              refine (freeze_kp D5.out.tab).mono ?_
              rintro e w7 ⟨rfl, ht, hlo, hkp⟩
              obtain ⟨lw, hrw, hww⟩ := D5.out.ref.kp hkp
              have E7 := hid (ext_lo E5.out hlo (Nat.le_refl _))
              have HT := hid ht
              have HRW := hid hrw
              have HWW := hid hww
              have c1 : w7.cell? ⟨rb, 1, none⟩ = some (.bool fr) := cell_of_row _ _ _ _ _ _ hrw
              have f1 : ∀ i, w7.frozen? ⟨rb, i, none⟩ = false := fun i => frozen_of_row _ _ _ _ _ hrw
              clear ht hlo hkp hrw hww
              go_wp2_with fail
              have TD := hid (duo_freeze HT.out HRW.out HWW.out HD.out.all HD.out.len HD.out.lo)
              have TE := hid (ext_far (F := (· = rb)) E7.out ((Ch.rfl _ w7).setC (o := 1) (v := .bool true) rfl) (fun b hb => by rw [hb]; exact HD.out.lo))
              generalize w7.setCell ⟨rb, 1, none⟩ (.bool true) = w8 at *
              obtain ⟨lv, hrb, hown⟩ := TD.out.ref
              have HRB := hid hrb
              have HSV := hid (owns_slT hown rfl eKV_length (by decide))
              have GT := hid TD.out.tab.good
              have HLL := hid (show (L).length ≤ 1000000 by have h1 := TD.out.len; have h2 := HEL.out; have h3 := HL.out; omega)
              have HSS := hid (show sumE (L) = sumE (es) from sumE_perm ((List.perm_ext_iff_of_nodup (TD.out.all.ris.imp fun {a b} h e => by rw [e, kl_irrefl] at h; cases h) (nodup_of_keys GT.out.2)).2 fun e => TD.out.all.mem e))
              clear hrb hown
              refine wp_draw (by kernel_rfl) (by kernel_rfl) ?_
              refine rg_step 99 (ob_move (by rfl) (by rfl)) rfl (by rfl) ?_
              refine rg_step 100 (ob_call (.ex (.int .i64 (sumE (es)))) (by rfl) cf_size (fun w he => gives_ex (at_size (TD.out.tab.ext he)))) rfl (by rfl) ?_
              refine rg_step 101 (ob_move (by rfl) (by rfl)) rfl (by rfl) ?_
              refine rg_step 102 (ob_nilck (by rfl) (by rfl)) rfl (by rfl) ?_
              refine rg_step 103 (ob_field (n := 0) 0 0 35 (by rfl) (by rfl) Try.underlying57 (by rfl) (by kernel_rfl) rfl) rfl (by rfl) ?_
              refine rg_step 104 (ob_load (v := lv) (by rfl) (by rfl) (by kernel_rfl) (fun _ he => by rw [cell_of_row _ _ _ _ _ _ ((he.block _ (blk_lt HRB.out)).trans HRB.out)]; rfl)) rfl (by rfl) ?_
              refine rg_step 105 (ob_call (.ex (.int .i64 (sumE (L)))) (by rfl) cf_rsize (fun w he => gives_ex (size08_in lv _ w (HSV.out.go (fun _ => rfl) he) (fun e h => GT.out.1 e ((TD.out.all.mem e).1 h)) HLL.out))) rfl (by rfl) ?_
              refine rg_step 106 (ob_icmp false (by rfl) (by rfl) (by rfl) (by unfold icmp; rw [HSS.out]; simp)) rfl (by rfl) ?_
              refine rg_end ?_
              intro wz hez
              simp only [asg, List.set_cons_zero, List.set_cons_succ, List.map_cons, List.map_nil, opens]
              have TE2 := hid (TE.out.tr hez)
              have TD2 := hid (TD.out.ext hez)
              clear hez
              go_wp2_with fail
              go_roundw
              case rel => exact ⟨i + 1, hlt, by go_num, TE2.out, true, _, _, TD2.out, by have := HEL.out; omega⟩
              case measure => simp [intOf]; omega
            · have k3 : (c.kind == 3) = false := by simpa using h3
              clear h1 h2 h3
              have TE := E5
              have TD := D5
              go_wp2_with fail
              obtain ⟨lv, hrb, hown⟩ := TD.out.ref
              have HRB := hid hrb
              have HSV := hid (owns_slT hown rfl eKV_length (by decide))
              have GT := hid TD.out.tab.good
              have HLL := hid (show (L).length ≤ 1000000 by have h1 := TD.out.len; have h2 := HEL.out; have h3 := HL.out; omega)
              have HSS := hid (show sumE (L) = sumE (es) from sumE_perm ((List.perm_ext_iff_of_nodup (TD.out.all.ris.imp fun {a b} h e => by rw [e, kl_irrefl] at h; cases h) (nodup_of_keys GT.out.2)).2 fun e => TD.out.all.mem e))
              clear hrb hown
              go_wp2_with fail
              refine wp_draw (by kernel_rfl) (by kernel_rfl) ?_
              refine rg_step 99 (ob_move (by rfl) (by rfl)) rfl (by rfl) ?_
              refine rg_step 100 (ob_call (.ex (.int .i64 (sumE (es)))) (by rfl) cf_size (fun w he => gives_ex (at_size (TD.out.tab.ext he)))) rfl (by rfl) ?_
              refine rg_step 101 (ob_move (by rfl) (by rfl)) rfl (by rfl) ?_
              refine rg_step 102 (ob_nilck (by rfl) (by rfl)) rfl (by rfl) ?_
              refine rg_step 103 (ob_field (n := 0) 0 0 35 (by rfl) (by rfl) Try.underlying57 (by rfl) (by kernel_rfl) rfl) rfl (by rfl) ?_
              refine rg_step 104 (ob_load (v := lv) (by rfl) (by rfl) (by kernel_rfl) (fun _ he => by rw [cell_of_row _ _ _ _ _ _ ((he.block _ (blk_lt HRB.out)).trans HRB.out)]; rfl)) rfl (by rfl) ?_
              refine rg_step 105 (ob_call (.ex (.int .i64 (sumE (L)))) (by rfl) cf_rsize (fun w he => gives_ex (size08_in lv _ w (HSV.out.go (fun _ => rfl) he) (fun e h => GT.out.1 e ((TD.out.all.mem e).1 h)) HLL.out))) rfl (by rfl) ?_
              refine rg_step 106 (ob_icmp false (by rfl) (by rfl) (by rfl) (by unfold icmp; rw [HSS.out]; simp)) rfl (by rfl) ?_
              refine rg_end ?_
              intro wz hez
              simp only [asg, List.set_cons_zero, List.set_cons_succ, List.map_cons, List.map_nil, opens]
              have TE2 := hid (TE.out.tr hez)
              have TD2 := hid (TD.out.ext hez)
              clear hez
              go_wp2_with fail
              go_roundw
              case rel => exact ⟨i + 1, hlt, by go_num, TE2.out, fr, _, _, TD2.out, by have := HEL.out; omega⟩
              case measure => simp [intOf]; omega
      · have : i = l.length := by omega
        subst this
        obtain ⟨lv, hrb, hown⟩ := HD.out.ref
        have HRB := hid hrb
        have HSV := hid (owns_slT hown rfl eKV_length (by decide))
        have hle : es.length ≤ 3000000000000 := by have := HEL.out; have := HL.out; omega
        have hall := at_all HD.out.tab hle
        have HA := hid hall
        have HLE := hid hle
        clear hrb hown hall hle
        go_wp2_with fail
        refine HA.out.mono ?_
        rintro e w8 ⟨va, oa, rfl, hao, ho8, he8, hol⟩
        obtain rfl := all_one (fun _ => Iff.rfl) hao HD.out.all
        have HO8 := hid ho8
        have E8 := hid he8
        have S8 := hid (owns_slT ho8 rfl eKV_length (by decide))
        have D8 := hid (HD.out.ext he8)
        have c0 : w8.cell? ⟨rb, 0, none⟩ = some lv := by rw [cell_of_row _ _ _ _ _ _ ((he8.block _ (blk_lt HRB.out)).trans HRB.out)]; rfl
        have hoL : oa.length ≤ 1000000 := by have h1 := hol; have h2 := HEL.out; have h3 := HL.out; simp only [mkT] at h1; omega
        clear hao ho8 he8 hol HA
        go_wp2_with fail
        refine (same_in va lv oa w8 S8.out (HSV.out.go (fun _ => rfl) E8.out)).mono ?_
        rintro e w9 ⟨rfl, he9⟩
        have E9 := hid (E8.out.tr he9)
        have HO9 := hid (owns_ext HO8.out he9)
        clear he9 c0
        obtain ⟨ag, cg, rfl, _⟩ := slice_of HO9.out
        go_wp2_with fail
        go_loopw [14] (fun t wz => ∃ k : Nat, k ≤ oa.length ∧ t = .int .i64 k ∧ Ext wr wz ∧ (0 < oa.length → ∃ g cs, ag = some ⟨g, 0, none⟩ ∧ wr.heap.size ≤ g ∧ wz.heap[g]? = some (.cells cs 44 (0, 0)) ∧ oa.length * 4 ≤ cs.size)) (fun t _ => oa.length - (intOf t).toNat)
        case atStart =>
          refine ⟨0, Nat.zero_le _, rfl, E9.out, fun hp => ?_⟩
          rcases HO9.out.2 with ⟨_, hz⟩ | ⟨g, cap', cur, h1, hb, hg, hn, hm, hcs, htk⟩
          · omega
          · simp only [Value.slice.injEq, true_and] at h1
            exact ⟨g, cur, h1.1, hb, hg, by rw [hcs]; exact Nat.mul_le_mul_right _ hn⟩
        case round =>
          obtain ⟨k, hk, rfl, hez, hrow⟩ := hrel
          have HZ := hid (And.intro hez True.intro)
          have HROW := hid hrow
          clear hez hrow
          by_cases hkl : k < oa.length
          · obtain ⟨g, cs, rfl, hgw, hg, hsz⟩ := HROW.out (by omega)
            have HGW := hid hgw
            have HG := hid hg
            have HSZ := hid hsz
            have hth : wr.there g (k * 4) 4 := fun j hj => by
              rw [cell_of_row _ _ _ _ _ _ hg, Array.getElem?_eq_getElem (show k * 4 + j < cs.size by omega)]
              exact ⟨rfl, frozen_of_row _ _ _ _ _ hg⟩
            have HTH := hid hth
            clear hth hgw hg hsz
            go_wp2_with (refine wpList_store_mid rfl 44 (.tmp 124) (.tmp 123) rfl g (k * 4) #[.string { data := #[] }, .int .u64 0, .int .i64 0, .string { data := #[] }] rfl rfl HTH.out (by kernel_rfl) (by simp [Value.oneCell']) ?_)
            go_roundw
            case rel =>
              refine ⟨k + 1, hkl, by go_num, ext_sets HGW.out _ _ _ HZ.out.1, fun _ => ?_⟩
              obtain ⟨cs', h1, h2⟩ := sets_row HG.out [.string { data := #[] }, .int .u64 0, .int .i64 0, .string { data := #[] }] (k * 4)
              exact ⟨g, cs', rfl, HGW.out, h1, by rw [h2]; exact HSZ.out⟩
            case measure => simp [intOf]; omega
          · have : k = oa.length := by omega
            subst this
            have HALL := hid (show ∀ w', Ext wr w' → Gives Try.prog 29 (allSV oa) w' [.pointer (some ⟨tb, 0, none⟩)] from fun w' he => (at_all (HD.out.tab.ext (HZ.out.1.tr he)) HLE.out).mono fun e w'' ⟨v, o2, h1, h2, h3, h4, _⟩ => by
              obtain rfl := all_one (fun _ => Iff.rfl) h2 HD.out.all
              exact ⟨v, h1, h4, owns_slT h3 rfl eKV_length (by decide)⟩)
            go_wp2_with fail
            refine wp_draw (by kernel_rfl) (by kernel_rfl) ?_
            refine rg_step 125 (ob_move (by rfl) (by rfl)) rfl (by rfl) ?_
            refine rg_step 126 (ob_move (by rfl) (by rfl)) rfl (by rfl) ?_
            refine rg_step 127 (ob_move (by rfl) (by rfl)) rfl (by rfl) ?_
            refine rg_step 128 (ob_call (allSV oa) (by rfl) cf_all (fun w he => HALL.out w he)) rfl (by rfl) ?_
            refine rg_step 129 (ob_move (by rfl) (by rfl)) rfl (by rfl) ?_
            refine rg_step 130 (ob_nilck (by rfl) (by rfl)) rfl (by rfl) ?_
            refine rg_step 131 (ob_field (n := 0) 0 0 35 (by rfl) (by rfl) Try.underlying57 (by rfl) (by kernel_rfl) rfl) rfl (by rfl) ?_
            refine rg_step 132 (ob_load (v := lv) (by rfl) (by rfl) (by kernel_rfl) (fun _ he => by rw [cell_of_row _ _ _ _ _ _ (((HZ.out.1.tr he).block _ (blk_lt HRB.out)).trans HRB.out)]; rfl)) rfl (by rfl) ?_
            refine rg_step 133 (ob_call (.ex (.bool true)) (by rfl) cf_same (fun w he v hv => gives_ex (same_in v lv oa w hv (HSV.out.go (fun _ => rfl) (HZ.out.1.tr he))))) rfl (by rfl) ?_
            refine rg_step 134 (ob_pick true (by rfl) (by rfl) (by rfl)) rfl (by rfl) ?_
            refine rg_step 2 (ob_assign (by rfl) (by rfl)) rfl (by rfl) ?_
            refine rg_end ?_
            intro wf hef
            simp only [asg, List.set_cons_zero, List.set_cons_succ, List.map_cons, List.map_nil, allSV, opens]
            have EF := hid (HZ.out.1.tr hef)
            clear hef
            intros
            go_wp2_with fail
            go_ret
            exact ⟨rfl, E1.out.tr (HE.out.tr EF.out)⟩
end Go.Proofs.Ytoonhcmeklmnlaa
