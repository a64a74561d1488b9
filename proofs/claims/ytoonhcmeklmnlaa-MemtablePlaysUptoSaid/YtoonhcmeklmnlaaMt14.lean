/- The walks of a table's Size and Freeze, and what is said of a table that is one's own. -/
import Derived.Test.YtoonhcmeklmnlaaMtE
set_option linter.unusedSimpArgs false
set_option linter.unusedVariables false
set_option linter.unnecessarySimpa false
namespace Go.Proofs.Ytoonhcmeklmnlaa
open Go.RowKit Go.Rg Go.St

theorem size_in {w : World} {T : TLoc} {M : MT} (h : TRep w T M) : Calls Try.prog 27 #[.pointer (some ⟨T.tb, 0, none⟩)] w (IntExt M.size w) := by
  have c3 : w.cell? ⟨T.tb, 3, none⟩ = some (.int .i64 M.size) := cell_of_row _ _ _ _ _ _ h.tb
  clear h
  go_enter Try.func27, Try.ntmps27
  go_wp2
  go_ret
  exact ⟨rfl, Ext.rfl w⟩

def iceT (M : MT) : MT := { M with frozen := true }
theorem freeze_in {w : World} {T : TLoc} {M : MT} (h : TRep w T M) : Calls Try.prog 34 #[.pointer (some ⟨T.tb, 0, none⟩)] w (fun e w' => e = .returned (.tuple #[]) ∧ TRep w' T (iceT M) ∧ Ch (· = T.tb) w w') := by
  have c4 : w.cell? ⟨T.tb, 4, none⟩ = some (.bool M.frozen) := cell_of_row _ _ _ _ _ _ h.tb
  have f4 : ∀ i, w.frozen? ⟨T.tb, i, none⟩ = false := fun i => frozen_of_row _ _ _ _ _ h.tb
  have H := hid h
  clear h
  go_enter Try.func34, Try.ntmps34
  go_wp2
  go_end0
  have hC : Ch (· = T.tb) w (w.setCell ⟨T.tb, 4, none⟩ (.bool true)) := (Ch.rfl _ w).setC rfl
  refine ⟨rfl, ⟨(heap_setCell_same w T.tb 4 _ _ _ H.out.tb).trans rfl, ?_, ?_, ?_, fun i hi => ?_, H.out.ap, H.out.kv, H.out.mo⟩, hC⟩
  · refine owns_ch H.out.row fun g hg => hC.block _ (H.out.row.lt g hg).2 ?_
    rintro rfl
    exact H.out.row_ne H.out.tb (by decide) hg
  · refine H.out.km.go (hC.block _ H.out.km.lt fun e => ?_)
    obtain ⟨es, c, h1, _⟩ := H.out.km
    rw [e, H.out.tb] at h1; cases h1
  · refine H.out.vm.go (hC.block _ H.out.vm.lt fun e => ?_)
    obtain ⟨es, c, h1, _⟩ := H.out.vm
    rw [e, H.out.tb] at h1; cases h1
  · exact (H.out.ls i hi).go hC fun b hb hF => (H.out.feet hi hb).1 hF

/-! ### a table of one's own -/
def sumE (es : List (IKey × ByteArray)) : Int := (es.map fun e => roomE e.1 e.2).sum
theorem sumE_snoc (es : List (IKey × ByteArray)) (k : IKey) (v : ByteArray) : sumE (es ++ [(k, v)]) = sumE es + roomE k v := by simp [sumE]
theorem sumE_le {es : List (IKey × ByteArray)} (h : ∀ e, e ∈ es → GoodE e.1 ∧ GoodV e.1 e.2) : 0 ≤ sumE es ∧ sumE es ≤ 1080 * es.length := by
  induction es with
  | nil => exact ⟨Int.le_refl _, Int.le_refl _⟩
  | cons e es ih =>
    obtain ⟨h1, h2⟩ := ih fun x hx => h x (List.mem_cons_of_mem _ hx)
    obtain ⟨g, v⟩ := h e (List.mem_cons_self ..)
    have e1 : sumE (e :: es) = roomE e.1 e.2 + sumE es := by simp [sumE]
    have a := g.1
    have b := v.le
    rw [e1, List.length_cons]
    unfold roomE
    omega
structure Tab (B : Nat) (w : World) (T : TLoc) (M : MT) : Prop where
  rep : TRep w T M
  full : MFull M
  size : M.size = sumE M.es
  lo : ∀ b, TFoot T M b → B ≤ b
theorem Tab.ext {B : Nat} {w w' : World} {T : TLoc} {M : MT} (h : Tab B w T M) (he : Ext w w') : Tab B w' T M := ⟨h.rep.ext he, h.full, h.size, h.lo⟩
theorem Tab.bound {B : Nat} {w : World} {T : TLoc} {M : MT} (h : Tab B w T M) (hl : M.es.length ≤ 3000000000000) : 0 ≤ M.size ∧ M.size ≤ 4611686018427387904 := by
  obtain ⟨h1, h2⟩ := sumE_le fun e he => ⟨h.full.good e he, h.full.gv e he⟩
  rw [h.size]; omega
theorem mfull_new : MFull MT.new :=
  { inv := fun i hi => absurd hi (Nat.not_lt_zero _), dn := fun i hi => absurd hi (Nat.not_lt_zero _), keys := fun k => ⟨fun ⟨i, hi, _⟩ => absurd hi (Nat.not_lt_zero _), fun ⟨e, he, _⟩ => (by cases he)⟩, good := fun e he => (by cases he), uniq := List.nodup_nil, room := fun i hi => absurd hi (Nat.not_lt_zero _), cnt := fun i hi => absurd hi (Nat.not_lt_zero _), le := Nat.le_refl _, gt := fun h => absurd h (Nat.lt_irrefl _), gv := fun e he => (by cases he), apk := fun i j hi => absurd hi (Nat.not_lt_zero _) }
/-- what lies below a bound stays -/
def Lo (B : Nat) (w w' : World) : Prop := Ch (fun b => B ≤ b) w w'
theorem Lo.tr {B : Nat} {a b c : World} (h : Lo B a b) (k : Lo B b c) : Lo B a c := Ch.tr h k
theorem Lo.of_ext {B : Nat} {a b : World} (h : Ext a b) : Lo B a b := Ch.of_ext h
theorem ext_lo {w0 w w' : World} {B : Nat} (h : Ext w0 w) (k : Lo B w w') (hB : w0.heap.size ≤ B) : Ext w0 w' :=
  ((Ch.of_ext h).tr k).ext fun b hb hx => by have := Nat.le_trans hB hx; omega
theorem tnew_tab (w : World) : Calls Try.prog 30 #[] w (fun e w' => ∃ T, e = .returned (.pointer (some ⟨T.tb, 0, none⟩)) ∧ Tab w.heap.size w' T MT.new ∧ Ext w w') :=
  (tnew_in w).mono fun _ _ ⟨T, h1, h2, h3, h4⟩ => ⟨T, h1, ⟨h2, mfull_new, rfl, h4⟩, h3⟩
theorem get_tab {B : Nat} {w : World} {T : TLoc} {M : MT} (h : Tab B w T M) (u : ByteArray) (s : Nat) (hu : u.size ≤ 1099511627776) :
    Calls Try.prog 25 #[.pointer (some ⟨T.tb, 0, none⟩), .string u, .int .u64 s] w (GetPost M u s w) := get_in h.rep h.full.toMInv u s hu
theorem freeze_tab {B : Nat} {w : World} {T : TLoc} {M : MT} (h : Tab B w T M) : Calls Try.prog 34 #[.pointer (some ⟨T.tb, 0, none⟩)] w (fun e w' => e = .returned (.tuple #[]) ∧ Tab B w' T (iceT M) ∧ Lo B w w') :=
  (freeze_in h.rep).mono fun _ _ ⟨h1, h2, h3⟩ => ⟨h1, ⟨h2, { h.full with }, h.size, h.lo⟩, h3.mono fun b _ hb => h.lo b (.inl hb)⟩

/-- a value that may not be -/
def badV (k : IKey) (v : ByteArray) : Bool := decide (1000 < v.size) || (decide (k.kind = 0) && decide (v.toList ≠ []))
/-- what Add answers -/
def addC (fr : Bool) (es : List (IKey × ByteArray)) (k : IKey) (v : ByteArray) : Int :=
  if fr then 80 else if kChk k ≠ 0 then kChk k else if badV k v then 31 else if ∃ e, e ∈ es ∧ e.1 = k then 81 else 0
def addE (fr : Bool) (es : List (IKey × ByteArray)) (k : IKey) (v : ByteArray) : List (IKey × ByteArray) := if addC fr es k v = 0 then es ++ [(k, v)] else es
def TabPost (B : Nat) (w : World) (T : TLoc) (M : MT) (k : IKey) (v : ByteArray) (e : Ending) (w' : World) : Prop :=
  e = .returned (.int .i64 (addC M.frozen M.es k v)) ∧ ∃ T2 M2, T2.tb = T.tb ∧ Tab B w' T2 M2 ∧ M2.es = addE M.frozen M.es k v ∧ M2.frozen = M.frozen ∧ Lo B w w'
theorem good_of {k : IKey} (h : kChk k = 0) (h0 : 0 ≤ k.seq) : GoodE k := by
  unfold kChk at h
  split at h
  · cases h
  · split at h
    · cases h
    · split at h
      · rename_i h1 h2 h3
        exact ⟨by omega, h0, by omega, h3⟩
      · cases h
theorem add_tab {B : Nat} {w : World} {T : TLoc} {M : MT} (h : Tab B w T M) (hB : B ≤ w.heap.size) (hl : M.es.length ≤ 3000000000000) (k : IKey) (v : ByteArray) (h0 : 0 ≤ k.seq) (hu : k.user.size ≤ 9223372036854775807) (hv : v.size ≤ 9223372036854775807) :
    Calls Try.prog 26 #[.pointer (some ⟨T.tb, 0, none⟩), aKey k, .string v] w (TabPost B w T M k v) := by
  have old : ∀ c : Int, c ≠ 0 → addC M.frozen M.es k v = c → ∀ e w', IntExt c w e w' → TabPost B w T M k v e w' := fun c hc hac e w' ⟨h1, h2⟩ =>
    ⟨by rw [hac]; exact h1, T, M, rfl, h.ext h2, by unfold addE; rw [hac, if_neg hc], rfl, Lo.of_ext h2⟩
  by_cases hf : M.frozen = true
  · exact (add_frozen h.rep hf k v).mono (old 80 (by decide) (by unfold addC; rw [if_pos hf]))
  · have hf' : M.frozen = false := by simpa using hf
    by_cases hc : kChk k = 0
    · by_cases hb : badV k v = true
      · refine (add_val h.rep hf' k hu hc v hv ?_).mono (old 31 (by decide) (by unfold addC; rw [if_neg hf, if_neg (by rw [hc]; decide), if_pos hb]))
        unfold badV at hb
        by_cases h1 : 1000 < v.size
        · exact .inl h1
        · simp [h1] at hb
          exact .inr ⟨h1, hb.1, hb.2⟩
      · have hgv : GoodV k v := by
          unfold badV at hb
          simp at hb
          exact ⟨hb.1, hb.2⟩
        by_cases hi : ∃ e, e ∈ M.es ∧ e.1 = k
        · exact (add_same h.rep hf' k hu hc v hgv hi).mono (old 81 (by decide) (by unfold addC; rw [if_neg hf, if_neg (by rw [hc]; decide), if_neg hb, if_pos hi]))
        · have hac : addC M.frozen M.es k v = 0 := by unfold addC; rw [if_neg hf, if_neg (by rw [hc]; decide), if_neg hb, if_neg hi]
          obtain ⟨s0, s1⟩ := h.bound hl
          refine (add_new h.rep h.full hf' k (good_of hc h0) hc v hgv (fun e he hk => hi ⟨e, he, hk⟩) hl s0 s1).mono ?_
          rintro e w' ⟨rfl, T2, M2, t1, t2, t3, t4, t5, t6, t7, t8⟩
          refine ⟨by rw [hac], T2, M2, t1, ⟨t2, t3, by rw [t6, t4, sumE_snoc, h.size], fun b hb => ?_⟩, by unfold addE; rw [if_pos hac]; exact t4, t5, t7.mono fun b _ hb => h.lo b hb⟩
          rcases t8 b hb with h9 | h9
          · exact h.lo b h9
          · omega
    · exact (add_chk h.rep hf' k hu hc v).mono (old (kChk k) hc (by unfold addC; rw [if_neg hf, if_pos hc]))
end Go.Proofs.Ytoonhcmeklmnlaa
