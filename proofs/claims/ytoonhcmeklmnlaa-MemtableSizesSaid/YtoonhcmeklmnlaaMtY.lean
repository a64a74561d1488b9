/- What is known at a number: plain; the first so many of a slice. -/
import Derived.Test.YtoonhcmeklmnlaaMtX
import Derived.Laws.StructEq
set_option linter.unusedSimpArgs false
set_option linter.unusedVariables false
set_option linter.unnecessarySimpa false
namespace Go.Proofs.Ytoonhcmeklmnlaa
open Go.RowKit Go.Rg Go.St

theorem uniq_fst {l : List KVp} (h : (l.map Prod.fst).Nodup) {e x : KVp} (he : e ∈ l) (hx : x ∈ l) (hk : x.1 = e.1) : x = e := by
  induction l with
  | nil => cases he
  | cons a l ih =>
    rw [List.map_cons, List.nodup_cons] at h
    rcases List.mem_cons.1 he with rfl | he'
    · rcases List.mem_cons.1 hx with rfl | hx'
      · rfl
      · exact absurd (List.mem_map.2 ⟨x, hx', hk⟩) h.1
    · rcases List.mem_cons.1 hx with rfl | hx'
      · exact absurd (List.mem_map.2 ⟨e, he', hk.symm⟩) h.1
      · exact ih h.2 he' hx'
/-- what is known is one thing, and hangs on what the number sees alone -/
theorem getOf_one {es es' : List KVp} {u : ByteArray} {s : Int} (hS : ∀ e : KVp, e.1.seq ≤ s → (e ∈ es' ↔ e ∈ es)) (hg : ∀ e, e ∈ es → GoodE e.1) (hu : (es.map Prod.fst).Nodup) {v v' : ByteArray} {n n' : Int} (h : GetOf (mkT es) u s v n) (h' : GetOf (mkT es') u s v' n') : v = v' ∧ n = n' := by
  rcases h with ⟨h1, rfl, rfl⟩ | ⟨e, ⟨hm, hue, hse, hmax⟩, hk⟩
  · rcases h' with ⟨_, rfl, rfl⟩ | ⟨e, ⟨hm, hue, hse, hmax⟩, hk⟩
    · exact ⟨rfl, rfl⟩
    · have := h1 e ((hS e hse).1 hm) hue
      omega
  · rcases h' with ⟨h1, rfl, rfl⟩ | ⟨e', ⟨hm', hue', hse', hmax'⟩, hk'⟩
    · have := h1 e ((hS e hse).2 hm) hue
      omega
    · have h1 := hmax e' ((hS e' hse').1 hm') hue' hse'
      have h2 := hmax' e ((hS e hse).2 hm) hue hse
      have g1 := (hg e hm).2.2.2
      have g2 := (hg e' ((hS e' hse').1 hm')).2.2.2
      have hke : e'.1 = e.1 := by
        obtain ⟨⟨a, b, c⟩, d⟩ := e
        obtain ⟨⟨a', b', c'⟩, d'⟩ := e'
        simp only at *
        subst hue
        subst hue'
        have : b = b' := by omega
        subst this
        have : c = c' := by omega
        subst this
        rfl
      obtain rfl := uniq_fst hu hm ((hS e' hse').1 hm') hke
      rcases hk with ⟨k1, rfl, rfl⟩ | ⟨k1, rfl, rfl⟩ <;> rcases hk' with ⟨k2, rfl, rfl⟩ | ⟨k2, rfl, rfl⟩
      · exact ⟨rfl, rfl⟩
      · omega
      · omega
      · exact ⟨rfl, rfl⟩
theorem mem_addE {fr : Bool} {es : List KVp} {k : IKey} {v : ByteArray} {e : KVp} : e ∈ addE fr es k v ↔ e ∈ es ∨ (addC fr es k v = 0 ∧ e = (k, v)) := by
  unfold addE
  split
  · rename_i h
    simp [h]
  · rename_i h
    simp [h]
theorem slS_take {α : Type} [Inhabited α] {w : World} {a : Option Addr} {m cap sz : Nat} {enc : α → List Value} {xs : List α} (h : SlS w (.slice a m cap) sz enc xs) (n : Nat) (hn : n ≤ xs.length) : SlS w (.slice a n cap) sz enc (xs.take n) := by
  obtain ⟨a', c', e, h0, h1, h2⟩ := h.ex
  simp only [Value.slice.injEq] at e
  obtain ⟨rfl, rfl, rfl⟩ := e
  have hl : (xs.take n).length = n := by rw [List.length_take]; omega
  refine ⟨⟨a, cap, by rw [hl], by omega, h1, fun hp => ?_⟩⟩
  obtain ⟨b, off, e2, hc⟩ := h2 (by omega)
  refine ⟨b, off, e2, fun i hi j hj => ?_⟩
  rw [hc i (by omega) j hj]
  congr 2
  rw [nth_eq _ _ hi, nth_eq _ _ (by omega), List.getElem_take]

/-! ### the order of adding; two lists that are alike -/
def okKV (x : KVp) : Bool := decide (kChk x.1 = 0) && !badV x.1 x.2
theorem addC_zero {es : List KVp} {x : KVp} : addC false es x.1 x.2 = 0 ↔ okKV x = true ∧ ¬ ∃ e, e ∈ es ∧ e.1 = x.1 := by
  unfold addC okKV
  rw [if_neg (by decide)]
  by_cases h1 : kChk x.1 = 0
  · rw [if_neg (by rw [h1]; decide)]
    by_cases h2 : badV x.1 x.2 = true
    · rw [if_pos h2, h2]; simp
    · rw [if_neg h2]
      have h2' : badV x.1 x.2 = false := by simpa using h2
      by_cases h3 : ∃ e, e ∈ es ∧ e.1 = x.1
      · rw [if_pos h3]; simp [h3]
      · rw [if_neg h3]; simp [h1, h2', h3]
  · rw [if_pos h1]; simp [h1]
theorem mem_addAll : ∀ (xs es : List KVp), (∀ a, a ∈ es ++ xs → ∀ b, b ∈ es ++ xs → a.1 = b.1 → a = b) → ∀ e, e ∈ addAll es xs ↔ e ∈ es ∨ (e ∈ xs ∧ okKV e = true)
  | [], es, _, e => by simp [addAll]
  | x :: xs, es, h, e => by
    have hsub : ∀ a, a ∈ addE false es x.1 x.2 ++ xs → a ∈ es ++ x :: xs := fun a ha => by
      rcases List.mem_append.1 ha with ha | ha
      · rcases mem_addE.1 ha with ha | ⟨_, rfl⟩
        · exact List.mem_append_left _ ha
        · exact List.mem_append_right _ (List.mem_cons_self ..)
      · exact List.mem_append_right _ (List.mem_cons_of_mem _ ha)
    show e ∈ addAll (addE false es x.1 x.2) xs ↔ _
    rw [mem_addAll xs _ (fun a ha b hb => h a (hsub a ha) b (hsub b hb)) e, mem_addE, addC_zero, List.mem_cons]
    constructor
    · rintro ((h1 | ⟨⟨h1, _⟩, h2⟩) | ⟨h1, h2⟩)
      · exact .inl h1
      · have : e = x := h2
        subst this
        exact .inr ⟨.inl rfl, h1⟩
      · exact .inr ⟨.inr h1, h2⟩
    · rintro (h1 | ⟨rfl | h1, h2⟩)
      · exact .inl (.inl h1)
      · by_cases h3 : ∃ a, a ∈ es ∧ a.1 = e.1
        · obtain ⟨a, ha, hk⟩ := h3
          have := h a (List.mem_append_left _ ha) e (List.mem_append_right _ (List.mem_cons_self ..)) hk
          rw [← this]
          exact .inl (.inl ha)
        · exact .inl (.inr ⟨⟨h2, h3⟩, rfl⟩)
      · exact .inr ⟨h1, h2⟩
theorem sumE_cons (x : KVp) (l : List KVp) : sumE (x :: l) = roomE x.1 x.2 + sumE l := by simp [sumE]
theorem sumE_perm {a b : List KVp} (h : a.Perm b) : sumE a = sumE b := by
  induction h with
  | nil => rfl
  | cons x _ ih => rw [sumE_cons, sumE_cons, ih]
  | swap x y l => rw [sumE_cons, sumE_cons, sumE_cons, sumE_cons]; omega
  | trans _ _ h1 h2 => exact h1.trans h2
theorem nodup_of_keys {l : List KVp} (h : (l.map Prod.fst).Nodup) : l.Nodup := by
  rw [List.Nodup, List.pairwise_map] at h
  exact h.imp fun hab e => hab (by rw [e])
theorem sumE_same {a b : List KVp} (ha : (a.map Prod.fst).Nodup) (hb : (b.map Prod.fst).Nodup) (h : ∀ e, e ∈ a ↔ e ∈ b) : sumE a = sumE b :=
  sumE_perm ((List.perm_ext_iff_of_nodup (nodup_of_keys ha) (nodup_of_keys hb)).2 h)
/-- rising lists of the same entries are one list -/
theorem rising_one : ∀ {a b : List KVp}, a.Pairwise (fun x y => kl (keyT x.1) (keyT y.1) = true) → b.Pairwise (fun x y => kl (keyT x.1) (keyT y.1) = true) → (∀ e, e ∈ a ↔ e ∈ b) → a = b
  | [], [], _, _, _ => rfl
  | [], y :: b, _, _, h => by have := (h y).2 (List.mem_cons_self ..); cases this
  | x :: a, [], _, _, h => by have := (h x).1 (List.mem_cons_self ..); cases this
  | x :: a, y :: b, ha, hb, h => by
    rw [List.pairwise_cons] at ha hb
    have hxy : x = y := by
      rcases List.mem_cons.1 ((h x).1 (List.mem_cons_self ..)) with e | h1
      · exact e
      · rcases List.mem_cons.1 ((h y).2 (List.mem_cons_self ..)) with e | h2
        · exact e.symm
        · have k1 := hb.1 x h1
          have k2 := ha.1 y h2
          rw [kl_asymm k1] at k2; cases k2
    subst hxy
    congr 1
    refine rising_one ha.2 hb.2 fun e => ⟨fun he => ?_, fun he => ?_⟩
    · rcases List.mem_cons.1 ((h e).1 (List.mem_cons_of_mem _ he)) with rfl | h1
      · have := ha.1 e he
        rw [kl_irrefl] at this; cases this
      · exact h1
    · rcases List.mem_cons.1 ((h e).2 (List.mem_cons_of_mem _ he)) with rfl | h1
      · have := hb.1 e he
        rw [kl_irrefl] at this; cases this
      · exact h1
theorem all_one {es es' : List KVp} (h : ∀ e, e ∈ es ↔ e ∈ es') {out out' : List KVp} (ha : AllOf (mkT es) out) (hb : AllOf (mkT es') out') : out = out' :=
  rising_one ha.ris hb.ris fun e => (ha.mem e).trans ((h e).trans (hb.mem e).symm)

/-! ### alike -/
theorem kv_neq (x : KVp) (w : World) : (binOp .neq 44 (.agg #[.string x.1.user, .int .u64 x.1.seq, .int .i64 x.1.kind, .string x.2]) (.agg #[.string x.1.user, .int .u64 x.1.seq, .int .i64 x.1.kind, .string x.2])).run Try.prog w = .ok (.bool false) w := by
  have hS : Try.prog.underlying 44 = some (.struct (Try.prog.fieldsOf 44)) := by kernel_rfl
  have hp : Try.prog.stoodInHeld 44 = false := by kernel_rfl
  have hS2 : Try.prog.underlying 42 = some (.struct (Try.prog.fieldsOf 42)) := by kernel_rfl
  have hp2 : Try.prog.stoodInHeld 42 = false := by kernel_rfl
  have u1 := Try.underlying3
  have u2 := Try.underlying36
  have u3 := Try.underlying9
  have a1 := Try.isAgg3
  have a2 := Try.isAgg36
  have a3 := Try.isAgg9
  have z1 := Try.sizeOf3
  have z2 := Try.sizeOf36
  have z3 := Try.sizeOf9
  have a4 := Try.isAgg42
  have z4 := Try.sizeOf42
  have e4 := fun (xs ys : Array Value) (w : World) => run_equalIn_agg (P := Try.prog) w 9998 42 xs ys hS2 hp2
  rw [run_neq_struct, show (10000 : Nat) = 9999 + 1 from rfl, run_equalIn_agg w 9999 44 _ _ hS hp]
  simp only [Program.fieldsOf, Try.underlying44, Try.underlying42] at e4 ⊢
  go_simp
theorem kv_cells {w : World} {v : Value} {l : List KVp} (h : SlS w v 4 eKV l) {b off cap : Nat} (hv : v = .slice (some ⟨b, off, none⟩) l.length cap) {k : Nat} (hk : k < l.length) :
    w.cell? ⟨b, off + k * 4, none⟩ = some (.string (nth l k).1.user) ∧ w.cell? ⟨b, off + k * 4 + 1, none⟩ = some (.int .u64 (nth l k).1.seq) ∧ w.cell? ⟨b, off + k * 4 + 2, none⟩ = some (.int .i64 (nth l k).1.kind) ∧ w.cell? ⟨b, off + k * 4 + 3, none⟩ = some (.string (nth l k).2) := by
  obtain ⟨h1, h2⟩ := kv_at h hv hk
  exact ⟨h1 0 _ rfl, h1 1 _ rfl, h1 2 _ rfl, h2⟩
set_option maxHeartbeats 1000000 in
theorem same_in (va vb : Value) (l : List KVp) (w : World) (ha : SlS w va 4 eKV l) (hb : SlS w vb 4 eKV l) : Calls Try.prog 28 #[va, vb] w (TrueExt w) := by
  obtain ⟨a, cap, rfl, hcap, hm, hc⟩ := ha.ex
  obtain ⟨a', cap', rfl, hcap', hm', hc'⟩ := hb.ex
  unfold maxLen at hm hm'
  have HA := hid ha
  have HB := hid hb
  have HC := hid hc
  have HC' := hid hc'
  clear hc hc' ha hb
  have hne := kv_neq
  go_enter Try.func28, Try.ntmps28
  go_wp2
  go_loopw [5] (fun i wr => ∃ k : Nat, k ≤ l.length ∧ i = .int .i64 k ∧ Ext w wr) (fun i _ => l.length - (intOf i).toNat)
  case atStart => exact ⟨0, Nat.zero_le _, rfl, Ext.rfl _⟩
  case round =>
    obtain ⟨k, hk, rfl, he⟩ := hrel
    have HE := hid he
    clear he
    by_cases hlt : k < l.length
    · obtain ⟨b1, off, rfl, _⟩ := HC.out (by omega)
      obtain ⟨b2, off', rfl, _⟩ := HC'.out (by omega)
      obtain ⟨c0, c1, c2, c3⟩ := kv_cells (HA.out.go (fun _ => rfl) HE.out) rfl hlt
      obtain ⟨d0, d1, d2, d3⟩ := kv_cells (HB.out.go (fun _ => rfl) HE.out) rfl hlt
      go_wp2_with fail
      go_quiet (fail)
      go_wp2
      go_roundw
      case rel => exact ⟨k + 1, by omega, by go_num, HE.out.drN _⟩
      case measure => simp [intOf]; omega
    · have : k = l.length := by omega
      subst this
      go_wp2
      go_ret
      exact ⟨rfl, HE.out⟩
end Go.Proofs.Ytoonhcmeklmnlaa
