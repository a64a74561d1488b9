/- The document's Add, and both tables side by side. -/
import Derived.Test.YtoonhcmeklmnlaaLawMz
import Derived.Deep.RegionWith
import Derived.Deep.CutRange
set_option linter.unusedSimpArgs false
set_option linter.unusedVariables false
set_option linter.unnecessarySimpa false

/-! ## (MtR) The document's answer for tables: its walks. -/
namespace Go.Proofs.Ytoonhcmeklmnlaa
open Go.RowKit Go.Rg Go.St

set_option maxHeartbeats 1000000 in
theorem check02_in (k : IKey) (hu : k.user.size ≤ 9223372036854775807) (w : World) : Calls Try.prog 69 #[aKey k] w (IntExt (kChk k) w) := by
  obtain ⟨u, s, n⟩ := k
  unfold kChk
  simp only at hu ⊢
  by_cases h1 : 64 < u.size
  · rw [if_pos h1]
    have hd : decide ((64 : Int) < (u.size : Int)) = true := decide_eq_true (by omega)
    go_enter Try.func69, Try.ntmps69
    go_wp2_with fail
    go_ret
    exact ⟨rfl, (Ext.rfl w).al _⟩
  · rw [if_neg h1]
    have hd : decide ((64 : Int) < (u.size : Int)) = false := decide_eq_false (by omega)
    by_cases h2 : 72057594037927935 < s
    · rw [if_pos h2]
      have hd2 : decide (72057594037927935 < s) = true := decide_eq_true h2
      go_enter Try.func69, Try.ntmps69
      go_wp2_with fail
      go_ret
      exact ⟨rfl, (Ext.rfl w).al _⟩
    · rw [if_neg h2]
      have hd2 : decide (72057594037927935 < s) = false := decide_eq_false h2
      by_cases h3 : n = 0
      · subst h3
        rw [if_pos (.inl rfl)]
        go_enter Try.func69, Try.ntmps69
        go_wp2_with fail
        go_ret
        exact ⟨rfl, (Ext.rfl w).al _⟩
      · have hd3 : (n == 0) = false := by simpa using h3
        have hd5 : (n != 0) = true := by simpa using h3
        by_cases h4 : n = 1
        · subst h4
          rw [if_pos (.inr rfl)]
          go_enter Try.func69, Try.ntmps69
          go_wp2_with fail
          go_ret
          exact ⟨rfl, (Ext.rfl w).al _⟩
        · have hd4 : (n == 1) = false := by simpa using h4
          have hd6 : (n != 1) = true := by simpa using h4
          rw [if_neg (by omega)]
          go_enter Try.func69, Try.ntmps69
          go_wp2_with fail
          go_ret
          exact ⟨rfl, (Ext.rfl w).al _⟩

/-! ### Get, by definition -/
def Hit (u : ByteArray) (s : Int) (e : KVp) : Prop := e.1.user = u ∧ e.1.seq ≤ s
def RefGet (L : List KVp) (u : ByteArray) (s : Int) (v : ByteArray) (n : Int) : Prop :=
  ((∀ j, j < L.length → ¬ Hit u s (nth L j)) ∧ v = ByteArray.empty ∧ n = 0) ∨ ∃ i, i < L.length ∧ Hit u s (nth L i) ∧ (∀ j, j < i → ¬ Hit u s (nth L j)) ∧ (((nth L i).1.kind = 0 ∧ v = ByteArray.empty ∧ n = 1) ∨ ((nth L i).1.kind ≠ 0 ∧ v = (nth L i).2 ∧ n = 2))
set_option maxHeartbeats 1000000 in
theorem get08_in (v0 : Value) (L : List KVp) (u : ByteArray) (s : Nat) (w : World) (h : SlS w v0 4 eKV L) : Calls Try.prog 33 #[v0, .string u, .int .u64 s] w (fun e w' => ∃ v n, e = .returned (.tuple #[.string v, .int .i64 n]) ∧ RefGet L u s v n ∧ Ext w w') := by
  obtain ⟨a, cap, rfl, hcap, hm, hc⟩ := h.ex
  unfold maxLen at hm
  have H := hid h
  have HC := hid hc
  clear h hc
  go_enter Try.func33, Try.ntmps33
  go_wp2_with fail
  go_loopw [8] (fun t wr => ∃ i : Nat, i ≤ L.length ∧ t = .int .i64 i ∧ Ext w wr ∧ ∀ j, j < i → ¬ Hit u s (nth L j)) (fun t _ => L.length - (intOf t).toNat)
  case atStart => exact ⟨0, Nat.zero_le _, rfl, Ext.rfl _, fun j hj => absurd hj (Nat.not_lt_zero _)⟩
  case round =>
    obtain ⟨i, hi, rfl, he, hno⟩ := hrel
    have HE := hid he
    have HN := hid hno
    clear he hno
    by_cases hlt : i < L.length
    · obtain ⟨b, off, rfl, _⟩ := HC.out (by omega)
      obtain ⟨c0, c1, c2, c3⟩ := kv_cells (H.out.go (fun _ => rfl) HE.out) rfl hlt
      by_cases hu : (nth L i).1.user = u
      · have huq : ((nth L i).1.user.toList == u.toList) = true := by rw [hu]; simp
        by_cases hs : (nth L i).1.seq ≤ s
        · have hsq : decide ((nth L i).1.seq ≤ (s : Int)) = true := decide_eq_true hs
          have HH := hid (show Hit u s (nth L i) from ⟨hu, hs⟩)
          by_cases hk : (nth L i).1.kind = 0
          · have hkq : ((nth L i).1.kind == 0) = true := by rw [hk]; rfl
            have HK := hid hk
            clear hu hs hk
            go_wp2_with fail
            go_ret2
            exact ⟨_, _, rfl, .inr ⟨i, hlt, HH.out, HN.out, .inl ⟨HK.out, rfl, rfl⟩⟩, HE.out⟩
          · have hkq : ((nth L i).1.kind == 0) = false := by simpa using hk
            have HK := hid hk
            clear hu hs hk
            go_wp2_with fail
            go_ret2
            exact ⟨_, _, rfl, .inr ⟨i, hlt, HH.out, HN.out, .inr ⟨HK.out, rfl, rfl⟩⟩, HE.out⟩
        · have hsq : decide ((nth L i).1.seq ≤ (s : Int)) = false := decide_eq_false hs
          have HH := hid (show ¬ Hit u s (nth L i) from fun h => hs h.2)
          clear hu hs
          go_wp2_with fail
          go_roundw
          case rel =>
            refine ⟨i + 1, hlt, by go_num, HE.out, fun j hj => ?_⟩
            by_cases e : j = i
            · rw [e]; exact HH.out
            · exact HN.out j (by omega)
          case measure => simp [intOf]; omega
      · have huq : ((nth L i).1.user.toList == u.toList) = false := str_ne hu
        have HH := hid (show ¬ Hit u s (nth L i) from fun h => hu h.1)
        clear hu
        go_wp2_with fail
        go_roundw
        case rel =>
          refine ⟨i + 1, hlt, by go_num, HE.out, fun j hj => ?_⟩
          by_cases e : j = i
          · rw [e]; exact HH.out
          · exact HN.out j (by omega)
        case measure => simp [intOf]; omega
    · have : i = L.length := by omega
      subst this
      go_wp2_with fail
      go_ret2
      exact ⟨_, _, rfl, .inl ⟨HN.out, rfl, rfl⟩, HE.out⟩
theorem refGet_of {es L : List KVp} (hA : AllOf (mkT es) L) (hg : ∀ e, e ∈ es → GoodE e.1) {u : ByteArray} {s : Int} {v : ByteArray} {n : Int} (h : RefGet L u s v n) : GetOf (mkT es) u s v n := by
  rcases h with ⟨h1, rfl, rfl⟩ | ⟨i, hi, hh, hno, hk⟩
  · refine .inl ⟨fun e he hu => ?_, rfl, rfl⟩
    obtain ⟨j, hj, rfl⟩ := mem_nth ((hA.mem e).2 he)
    have := h1 j hj
    exact Int.not_le.1 fun hs => this ⟨hu, hs⟩
  · have hm : nth L i ∈ es := (hA.mem _).1 (nth_mem L i hi)
    refine .inr ⟨nth L i, ⟨hm, hh.1, hh.2, fun e' he' hu' hs' => ?_⟩, ?_⟩
    · obtain ⟨j, hj, rfl⟩ := mem_nth ((hA.mem e').2 he')
      rcases Nat.lt_trichotomy j i with h | h | h
      · exact absurd ⟨hu', hs'⟩ (hno j h)
      · rw [h]; exact Int.le_refl _
      · have h2 := List.pairwise_iff_getElem.1 hA.ris i j hi hj h
        rw [← nth_eq L i hi, ← nth_eq L j hj, keyT_less (hg _ hm) (hg _ he'), if_pos (hh.1.trans hu'.symm)] at h2
        have := of_decide_eq_true h2
        omega
    · have hk1 := (hg _ hm).2.2.2
      rcases hk with ⟨k, rfl, rfl⟩ | ⟨k, rfl, rfl⟩
      · exact .inl ⟨k, rfl, rfl⟩
      · exact .inr ⟨by omega, rfl, rfl⟩
set_option maxHeartbeats 1000000 in
theorem size08_in (v0 : Value) (L : List KVp) (w : World) (h : SlS w v0 4 eKV L) (hg : ∀ e, e ∈ L → GoodE e.1 ∧ GoodV e.1 e.2) (hn : L.length ≤ 1000000) : Calls Try.prog 35 #[v0] w (IntExt (sumE L) w) := by
  obtain ⟨a, cap, rfl, hcap, hm, hc⟩ := h.ex
  unfold maxLen at hm
  have H := hid h
  have HC := hid hc
  have HG := hid hg
  clear h hc hg
  go_enter Try.func35, Try.ntmps35
  go_wp2_with fail
  go_loopw [3, 4] (fun n t wr => ∃ i : Nat, i ≤ L.length ∧ t = .int .i64 i ∧ n = .int .i64 (sumE (L.take i)) ∧ Ext w wr) (fun _ t _ => L.length - (intOf t).toNat)
  case atStart => exact ⟨0, Nat.zero_le _, rfl, rfl, Ext.rfl _⟩
  case round =>
    obtain ⟨i, hi, rfl, rfl, he⟩ := hrel
    have HE := hid he
    clear he
    by_cases hlt : i < L.length
    · obtain ⟨b, off, rfl, _⟩ := HC.out (by omega)
      obtain ⟨c0, c1, c2, c3⟩ := kv_cells (H.out.go (fun _ => rfl) HE.out) rfl hlt
      have hs1 : sumE (L.take (i + 1)) = sumE (L.take i) + ((nth L i).1.user.size + (nth L i).2.size + 16) := by rw [take_snoc L i hlt, show nth L i = ((nth L i).1, (nth L i).2) from rfl, sumE_snoc]; rfl
      have hb := sumE_le (es := L.take i) fun e he => HG.out e (List.mem_of_mem_take he)
      have hb2 := HG.out _ (nth_mem L i hlt)
      have hu1 := hb2.1.1
      have hv1 := hb2.2.le
      have hw1 : 0 ≤ sumE (L.take i) ∧ sumE (L.take i) ≤ 1080000000 := by rw [List.length_take] at hb; omega
      obtain ⟨hw1, hw2⟩ := hw1
      have HS := hid hs1
      clear hs1 hb hb2
      generalize sumE (L.take i) = se at *
      go_wp2_with fail
      go_quiet (fail)
      go_wp2_with fail
      go_roundw
      case rel => exact ⟨i + 1, hlt, by go_num, by rw [HS.out]; exact congrArg (Value.int .i64) (by omega), HE.out.drN _⟩
      case measure => simp [intOf]; omega
    · have : i = L.length := by omega
      subst this
      rw [List.take_of_length_le (Nat.le_refl _)]
      go_wp2_with fail
      go_ret
      exact ⟨rfl, HE.out⟩

/-! ### With, by definition -/
def withL (x : KVp) : List KVp → List KVp
  | [] => [x]
  | e :: l => if cmpK x.1 e.1 < 0 then x :: e :: l else e :: withL x l
theorem withL_none {x : KVp} : ∀ {l : List KVp}, (∀ e, e ∈ l → ¬ cmpK x.1 e.1 < 0) → withL x l = l ++ [x]
  | [], _ => rfl
  | e :: l, h => by
    unfold withL
    rw [if_neg (h e (List.mem_cons_self ..)), withL_none fun a ha => h a (List.mem_cons_of_mem _ ha)]
    rfl
theorem withL_hit {x e : KVp} (he : cmpK x.1 e.1 < 0) : ∀ {l : List KVp}, (∀ a, a ∈ l → ¬ cmpK x.1 a.1 < 0) → withL x (l ++ [e]) = l ++ [x] ++ [e]
  | [], _ => by simp [withL, he]
  | a :: l, h => by
    show withL x (a :: (l ++ [e])) = _
    unfold withL
    rw [if_neg (h a (List.mem_cons_self ..)), withL_hit he fun b hb => h b (List.mem_cons_of_mem _ hb)]
    rfl
theorem withL_done {x e : KVp} : ∀ {l : List KVp}, (∃ a, a ∈ l ∧ cmpK x.1 a.1 < 0) → withL x (l ++ [e]) = withL x l ++ [e]
  | [], h => by obtain ⟨a, ha, _⟩ := h; cases ha
  | a :: l, h => by
    show withL x (a :: (l ++ [e])) = _
    unfold withL
    by_cases hc : cmpK x.1 a.1 < 0
    · rw [if_pos hc, if_pos hc]; rfl
    · rw [if_neg hc, if_neg hc, withL_done]
      · rfl
      · obtain ⟨b, hb, hb2⟩ := h
        rcases List.mem_cons.1 hb with rfl | hb
        · exact absurd hb2 hc
        · exact ⟨b, hb, hb2⟩
theorem withL_len (x : KVp) : ∀ l, (withL x l).length = l.length + 1
  | [] => rfl
  | e :: l => by
    unfold withL
    split
    · rfl
    · simp [withL_len x l]
theorem mem_withL (x : KVp) : ∀ l a, a ∈ withL x l ↔ a ∈ l ∨ a = x
  | [], a => by simp [withL]
  | e :: l, a => by
    unfold withL
    split
    · simp only [List.mem_cons]
      constructor
      · rintro (h | h | h)
        · exact .inr h
        · exact .inl (.inl h)
        · exact .inl (.inr h)
      · rintro ((h | h) | h)
        · exact .inr (.inl h)
        · exact .inr (.inr h)
        · exact .inl h
    · rw [List.mem_cons, mem_withL x l a, List.mem_cons]
      constructor
      · rintro (h | h | h)
        · exact .inl (.inl h)
        · exact .inl (.inr h)
        · exact .inr h
      · rintro ((h | h) | h)
        · exact .inl h
        · exact .inr (.inl h)
        · exact .inr (.inr h)
theorem cmp_neg {a b : IKey} : cmpK a b < 0 ↔ kl (keyT a) (keyT b) = true := by
  unfold cmpK
  split
  · rename_i h; simp [h]
  · rename_i h
    split
    · simp; simpa using h
    · simp; simpa using h
theorem withL_rise {x : KVp} : ∀ {l : List KVp}, l.Pairwise (fun a b => kl (keyT a.1) (keyT b.1) = true) → (∀ e, e ∈ l → keyT e.1 ≠ keyT x.1) → (withL x l).Pairwise (fun a b => kl (keyT a.1) (keyT b.1) = true)
  | [], _, _ => List.pairwise_singleton _ _
  | e :: l, h, hno => by
    rw [List.pairwise_cons] at h
    unfold withL
    by_cases hc : cmpK x.1 e.1 < 0
    · rw [if_pos hc, List.pairwise_cons, List.pairwise_cons]
      have h1 := cmp_neg.1 hc
      refine ⟨fun a ha => ?_, h⟩
      rcases List.mem_cons.1 ha with rfl | ha
      · exact h1
      · exact kl_trans h1 (h.1 a ha)
    · rw [if_neg hc, List.pairwise_cons]
      refine ⟨fun a ha => ?_, withL_rise h.2 fun b hb => hno b (List.mem_cons_of_mem _ hb)⟩
      rcases (mem_withL x l a).1 ha with ha | rfl
      · exact h.1 a ha
      · rcases kl_total (keyT e.1) (keyT a.1) with k | k | k
        · exact k
        · exact absurd k (hno e (List.mem_cons_self ..))
        · exact absurd (cmp_neg.2 k) hc
theorem all_with {es L : List KVp} (hA : AllOf (mkT es) L) (hg : ∀ e, e ∈ es → GoodE e.1) {x : KVp} (hx : GoodE x.1) (hno : ∀ e, e ∈ es → e.1 ≠ x.1) : AllOf (mkT (es ++ [x])) (withL x L) := by
  refine ⟨fun e => ?_, withL_rise hA.ris fun e he hk => ?_⟩
  · rw [mem_withL, hA.mem]
    show e ∈ es ∨ e = x ↔ e ∈ es ++ [x]
    simp
  · have hm := (hA.mem e).1 he
    exact hno e hm (keyT_inj (hg e hm) hx hk)

abbrev boxKV (x : KVp) : Obj := .cells #[.string x.1.user, .int .u64 x.1.seq, .int .i64 x.1.kind, .string x.2] 44
def WithR (x : KVp) (L : List KVp) (i : Nat) (d : Bool) (out : List KVp) : Prop :=
  (d = false ∧ out = L.take i ∧ ∀ a, a ∈ L.take i → ¬ cmpK x.1 a.1 < 0) ∨ (d = true ∧ out = withL x (L.take i) ∧ ∃ a, a ∈ L.take i ∧ cmpK x.1 a.1 < 0)
set_option maxRecDepth 100000 in
set_option maxHeartbeats 2000000 in
theorem with08_in (v0 : Value) (L : List KVp) (x : KVp) (w : World) (h : SlS w v0 4 eKV L) (hg : ∀ e, e ∈ L → GoodE e.1) (hx : GoodE x.1) (hn : L.length ≤ 1000000) : Calls Try.prog 70 #[v0, .agg #[.string x.1.user, .int .u64 x.1.seq, .int .i64 x.1.kind, .string x.2]] w (fun e w' => ∃ v, e = .returned v ∧ w'.ownsRow w.heap.size 44 4 v (withL x L).length ((withL x L).flatMap eKV) ∧ Ext w w') := by
  obtain ⟨a, cap, rfl, hcap, hm, hc⟩ := h.ex
  unfold maxLen at hm
  have H := hid h
  have HC := hid hc
  have HG := hid hg
  have HGX := hid hx
  clear h hc hg hx
  go_enter Try.func70, Try.ntmps70
  go_wp2_with fail
  go_loopw [5, 6, 7] (fun ov dv t wr => ∃ i : Nat, i ≤ L.length ∧ t = .int .i64 i ∧ ∃ d out, dv = .bool d ∧ Ext (w.alloc (boxKV x)) wr ∧ wr.ownsRow (w.alloc (boxKV x)).heap.size 44 4 ov out.length (out.flatMap eKV) ∧ WithR x L i d out) (fun _ _ t _ => L.length - (intOf t).toNat)
  case atStart => exact ⟨0, Nat.zero_le _, rfl, false, [], rfl, Ext.rfl _, World.ownsRow_nil _ _ _ _, .inl ⟨rfl, rfl, fun a ha => by cases ha⟩⟩
  case round =>
    obtain ⟨i, hi, rfl, d, out, rfl, he, ho, hw⟩ := hrel
    have HE := hid he
    have HO := hid ho
    have HW := hid hw
    clear he ho hw
    have hsz : (w.alloc (boxKV x)).heap.size = w.heap.size + 1 := by show (w.heap.push _).size = _; simp
    have HBL := hid (fun (w' : World) (he : Ext (w.alloc (boxKV x)) w') => (he.block w.heap.size (by rw [hsz]; exact Nat.lt_succ_self _)).trans (heap_alloc_new w (boxKV x)))
    have HSZ := hid hsz
    clear hsz
    by_cases hlt : i < L.length
    · obtain ⟨b, off, rfl, _⟩ := HC.out (by omega)
      have HEX := hid (show ∀ w', Ext (w.alloc (boxKV x)) w' → SlS w' (.slice (some ⟨b, off, none⟩) L.length cap) 4 eKV L from fun w' he => H.out.go (fun _ => rfl) (((Ext.rfl w).al (boxKV x)).tr he))
      have HAT := hid (fun (w' : World) (he : Ext (w.alloc (boxKV x)) w') => kv_at (HEX.out w' he) rfl hlt)
      have HCE := hid (fun (w' : World) (he : Ext (w.alloc (boxKV x)) w') => kv_cells (HEX.out w' he) rfl hlt)
      have HGE := hid (HG.out _ (nth_mem L i hlt))
      have HBX := hid (show ∀ w', Ext (w.alloc (boxKV x)) w' → w'.rangeAt w.heap.size 0 [.string x.1.user, .int .u64 x.1.seq, .int .i64 x.1.kind] from fun w' he j v hj => by
        have h1 := HBL.out w' he
        rw [Nat.zero_add, cell_of_row _ _ _ _ _ _ h1]
        match j, hj with
        | 0, hj => exact hj
        | 1, hj => exact hj
        | 2, hj => exact hj)
      have hts := take_snoc L i hlt
      rcases HW.out with ⟨rfl, hout, hno⟩ | ⟨rfl, hout, hex⟩
      · have hol : out.length ≤ 1000000 := by rw [hout, List.length_take]; omega
        by_cases hc : cmpK x.1 (nth L i).1 < 0
        · have hcm : icmp BinOp.lss (cmpK x.1 (nth L i).1) 0 = some true := by unfold icmp; simp [hc]
          have HOUT := hid (And.intro hout (And.intro hno hc))
          clear hout hno hc
          go_wp2_with fail
          refine wp_draw (by kernel_rfl) (by kernel_rfl) ?_
          refine rg_step 14 (ob_move (by rfl) (by rfl)) rfl (by rfl) ?_
          refine rg_step 15 (ob_not false (by rfl) (by rfl)) rfl (by rfl) ?_
          refine rg_step 16 (ob_move (by rfl) (by rfl)) rfl (by rfl) ?_
          refine rg_step 17 (ob_field (n := 2) 0 0 42 (by rfl) (by rfl) Try.underlying44 (by rfl) (by kernel_rfl) rfl) rfl (by rfl) ?_
          refine rg_step 18 (ob_loadmid (cs := [.string x.1.user, .int .u64 x.1.seq, .int .i64 x.1.kind]) (by rfl) (by rfl) (fun _ he => HBX.out _ (HE.out.tr he)) Try.underlying42 rfl (by kernel_rfl)) rfl (by rfl) ?_
          refine rg_step 19 (ob_move (by rfl) (by rfl)) rfl (by rfl) ?_
          refine rg_step 20 (ob_move (by rfl) (by rfl)) rfl (by rfl) ?_
          refine rg_step 21 (ob_index 4 (off + i * 4) (by rfl) (by rfl) (by rfl) Try.underlying35 (by kernel_rfl) (Int.natCast_nonneg i) (Int.ofNat_lt.2 hlt) (by rw [Int.toNat_natCast])) rfl (by rfl) ?_
          refine rg_step 22 (ob_field (n := 2) (off + i * 4) 0 42 (by rfl) (by rfl) Try.underlying44 (by rfl) (by kernel_rfl) rfl) rfl (by rfl) ?_
          refine rg_step 23 (ob_loadmid (cs := [.string (nth L i).1.user, .int .u64 (nth L i).1.seq, .int .i64 (nth L i).1.kind]) (by rfl) (by rfl) (fun _ he => (HAT.out _ (HE.out.tr he)).1) Try.underlying42 rfl (by kernel_rfl)) rfl (by rfl) ?_
          refine rg_step 24 (ob_call (.ex (.int .i64 (cmpK x.1 (nth L i).1))) (by rfl) cf_cmp (fun w he => gives_ex (compare_in x.1 (nth L i).1 HGX.out HGE.out w))) rfl (by rfl) ?_
          refine rg_step 25 (ob_icmp true (by rfl) (by rfl) (by rfl) hcm) rfl (by rfl) ?_
          refine rg_step 26 (ob_pick true (by rfl) (by rfl) (by rfl)) rfl (by rfl) ?_
          refine rg_end ?_
          intro w4 he4
          simp only [asg, List.set_cons_zero, List.set_cons_succ, List.map_cons, List.map_nil, opens]
          have E4 := hid (HE.out.tr he4)
          have O4 := hid (owns_ext HO.out he4)
          obtain ⟨q0, q1, q2, q3⟩ := HCE.out w4 E4.out
          have hbl := HBL.out w4 E4.out
          have p0 := cell_of_row _ _ 0 _ _ _ hbl
          have p1 := cell_of_row _ _ 1 _ _ _ hbl
          have p2 := cell_of_row _ _ 2 _ _ _ hbl
          have p3 := cell_of_row _ _ 3 _ _ _ hbl
          simp at p0 p1 p2 p3
          clear he4 hbl
          go_wp2_with (first | (at_builtin; refine wpList_app el_kv rfl (owns_ext O4.out ((Ext.rfl w4).al _)) rfl rfl (news_at w4 (eKV x).toArray _) (eKV_one x) (by omega) (E4.out.al _).size ?_; intro v' w5 hown6 hg6 hb6; have M5 := hid hown6; have EM5 := hid (ext_via E4.out ((Ext.rfl _).al _) hb6); clear hown6 hg6 hb6; obtain ⟨r0, r1, r2, r3⟩ := HCE.out w5 EM5.out) | (at_builtin; refine wpList_app el_kv rfl (owns_ext M5.out ((Ext.rfl w5).al _)) rfl rfl (news_at w5 (eKV (nth L i)).toArray _) (eKV_one (nth L i)) (by omega) (EM5.out.al _).size ?_; intro v' w6 hown6 hg6 hb6; have M6 := hid hown6; have EM6 := hid (ext_via EM5.out ((Ext.rfl _).al _) hb6); clear hown6 hg6 hb6))
          go_roundw
          case rel =>
            refine ⟨i + 1, hlt, by go_num, true, out ++ [x] ++ [nth L i], rfl, EM6.out, ?_, .inr ⟨rfl, by rw [hts, HOUT.out.1, withL_hit HOUT.out.2.2 (fun a ha => Int.not_lt.2 (HOUT.out.2.1 a ha))], nth L i, by rw [hts]; simp, HOUT.out.2.2⟩⟩
            have := M6.out
            simpa [List.flatMap_append, List.append_assoc, Nat.add_assoc] using this
          case measure => simp [intOf]; omega
        · have hcm : icmp BinOp.lss (cmpK x.1 (nth L i).1) 0 = some false := by unfold icmp; simp; omega
          have HOUT := hid (And.intro hout (And.intro hno hc))
          clear hout hno hc
          go_wp2_with fail
          refine wp_draw (by kernel_rfl) (by kernel_rfl) ?_
          refine rg_step 14 (ob_move (by rfl) (by rfl)) rfl (by rfl) ?_
          refine rg_step 15 (ob_not false (by rfl) (by rfl)) rfl (by rfl) ?_
          refine rg_step 16 (ob_move (by rfl) (by rfl)) rfl (by rfl) ?_
          refine rg_step 17 (ob_field (n := 2) 0 0 42 (by rfl) (by rfl) Try.underlying44 (by rfl) (by kernel_rfl) rfl) rfl (by rfl) ?_
          refine rg_step 18 (ob_loadmid (cs := [.string x.1.user, .int .u64 x.1.seq, .int .i64 x.1.kind]) (by rfl) (by rfl) (fun _ he => HBX.out _ (HE.out.tr he)) Try.underlying42 rfl (by kernel_rfl)) rfl (by rfl) ?_
          refine rg_step 19 (ob_move (by rfl) (by rfl)) rfl (by rfl) ?_
          refine rg_step 20 (ob_move (by rfl) (by rfl)) rfl (by rfl) ?_
          refine rg_step 21 (ob_index 4 (off + i * 4) (by rfl) (by rfl) (by rfl) Try.underlying35 (by kernel_rfl) (Int.natCast_nonneg i) (Int.ofNat_lt.2 hlt) (by rw [Int.toNat_natCast])) rfl (by rfl) ?_
          refine rg_step 22 (ob_field (n := 2) (off + i * 4) 0 42 (by rfl) (by rfl) Try.underlying44 (by rfl) (by kernel_rfl) rfl) rfl (by rfl) ?_
          refine rg_step 23 (ob_loadmid (cs := [.string (nth L i).1.user, .int .u64 (nth L i).1.seq, .int .i64 (nth L i).1.kind]) (by rfl) (by rfl) (fun _ he => (HAT.out _ (HE.out.tr he)).1) Try.underlying42 rfl (by kernel_rfl)) rfl (by rfl) ?_
          refine rg_step 24 (ob_call (.ex (.int .i64 (cmpK x.1 (nth L i).1))) (by rfl) cf_cmp (fun w he => gives_ex (compare_in x.1 (nth L i).1 HGX.out HGE.out w))) rfl (by rfl) ?_
          refine rg_step 25 (ob_icmp false (by rfl) (by rfl) (by rfl) hcm) rfl (by rfl) ?_
          refine rg_step 26 (ob_pick true (by rfl) (by rfl) (by rfl)) rfl (by rfl) ?_
          refine rg_end ?_
          intro w4 he4
          simp only [asg, List.set_cons_zero, List.set_cons_succ, List.map_cons, List.map_nil, opens]
          have E4 := hid (HE.out.tr he4)
          have O4 := hid (owns_ext HO.out he4)
          obtain ⟨q0, q1, q2, q3⟩ := HCE.out w4 E4.out
          clear he4
          go_wp2_with (at_builtin; refine wpList_app el_kv rfl (owns_ext O4.out ((Ext.rfl w4).al _)) rfl rfl (news_at w4 (eKV (nth L i)).toArray _) (eKV_one (nth L i)) (by omega) (E4.out.al _).size ?_; intro v' w5 hown6 hg6 hb6; have M5 := hid hown6; have EM5 := hid (ext_via E4.out ((Ext.rfl _).al _) hb6); clear hown6 hg6 hb6)
          go_roundw
          case rel =>
            refine ⟨i + 1, hlt, by go_num, false, out ++ [nth L i], rfl, EM5.out, ?_, .inl ⟨rfl, by rw [hts, HOUT.out.1], fun a ha => by rw [hts, List.mem_append] at ha; exact ha.elim (fun h => Int.not_lt.2 (HOUT.out.2.1 a h)) (fun h => by rw [List.mem_singleton.1 h]; have := HOUT.out.2.2; omega)⟩⟩
            have := M5.out
            simpa [List.flatMap_append, List.append_assoc, Nat.add_assoc] using this
          case measure => simp [intOf]; omega
      · have hol : out.length ≤ 1000001 := by rw [hout, withL_len, List.length_take]; omega
        have HOUT := hid (And.intro hout hex)
        clear hout hex
        go_wp2_with fail
        go_quiet (fail)
        have E4 := hid (HE.out.drN nq)
        have O4 := hid (owns_ext HO.out ((Ext.rfl wr).drN nq))
        obtain ⟨q0, q1, q2, q3⟩ := HCE.out _ E4.out
        go_wp2_with (at_builtin; refine wpList_app el_kv rfl (owns_ext O4.out ((Ext.rfl (wr.drewN nq)).al _)) rfl rfl (news_at (wr.drewN nq) (eKV (nth L i)).toArray _) (eKV_one (nth L i)) (by omega) (E4.out.al _).size ?_; intro v' w5 hown6 hg6 hb6; have M5 := hid hown6; have EM5 := hid (ext_via E4.out ((Ext.rfl _).al _) hb6); clear hown6 hg6 hb6)
        go_roundw
        case rel =>
          refine ⟨i + 1, hlt, by go_num, true, out ++ [nth L i], rfl, EM5.out, ?_, .inr ⟨rfl, by rw [hts, HOUT.out.1, withL_done HOUT.out.2], by obtain ⟨a, ha, hb⟩ := HOUT.out.2; exact ⟨a, by rw [hts]; exact List.mem_append_left _ ha, hb⟩⟩⟩
          have := M5.out
          simpa [List.flatMap_append, List.append_assoc, Nat.add_assoc] using this
        case measure => simp [intOf]; omega
    · have : i = L.length := by omega
      subst this
      rw [WithR, List.take_of_length_le (Nat.le_refl _)] at HW
      rcases HW.out with ⟨rfl, rfl, hno⟩ | ⟨rfl, rfl, hex⟩
      · have E4 := HE
        have O4 := HO
        have HNO := hid hno
        have hbl := HBL.out wr HE.out
        have p0 := cell_of_row _ _ 0 _ _ _ hbl
        have p1 := cell_of_row _ _ 1 _ _ _ hbl
        have p2 := cell_of_row _ _ 2 _ _ _ hbl
        have p3 := cell_of_row _ _ 3 _ _ _ hbl
        simp at p0 p1 p2 p3
        clear hbl hno
        go_wp2_with (at_builtin; refine wpList_app el_kv rfl (owns_ext O4.out ((Ext.rfl wr).al _)) rfl rfl (news_at wr (eKV x).toArray _) (eKV_one x) (by omega) (E4.out.al _).size ?_; intro v' w5 hown6 hg6 hb6; have M5 := hid hown6; have EM5 := hid (ext_via E4.out ((Ext.rfl _).al _) hb6); clear hown6 hg6 hb6)
        go_ret
        refine ⟨_, rfl, ?_, ((Ext.rfl w).al _).tr EM5.out⟩
        rw [withL_none (fun a ha => Int.not_lt.2 (HNO.out a ha))]
        have := owns_base M5.out (show w.heap.size ≤ _ from by rw [HSZ.out]; exact Nat.le_succ _)
        simpa [List.flatMap_append] using this
      · go_wp2_with fail
        go_ret
        exact ⟨_, rfl, owns_base HO.out (by rw [HSZ.out]; exact Nat.le_succ _), ((Ext.rfl w).al _).tr HE.out⟩
end Go.Proofs.Ytoonhcmeklmnlaa

/-! ## (MtS) The document's Add, and both tables side by side. -/
namespace Go.Proofs.Ytoonhcmeklmnlaa
open Go.RowKit Go.Rg Go.St

theorem size_zero {v : ByteArray} : v.toList = [] ↔ v.size = 0 := by
  rw [ByteArray.toList_eq]
  show v.data.toList = [] ↔ v.data.size = 0
  rw [← Array.length_toList, List.length_eq_zero_iff]
theorem badV_yes {k : IKey} {v : ByteArray} (h : badV k v = true) : 1000 < v.size ∨ (¬ 1000 < v.size ∧ k.kind = 0 ∧ 0 < v.size) := by
  unfold badV at h
  by_cases h1 : 1000 < v.size
  · exact .inl h1
  · rw [decide_eq_false h1, Bool.false_or, Bool.and_eq_true] at h
    refine .inr ⟨h1, of_decide_eq_true h.1, Nat.pos_of_ne_zero fun hz => of_decide_eq_true h.2 (size_zero.2 hz)⟩
theorem badV_no {k : IKey} {v : ByteArray} (h : ¬ badV k v = true) : v.size ≤ 1000 ∧ (k.kind = 0 → v.size = 0) := by
  unfold badV at h
  rw [Bool.or_eq_true, not_or, Bool.and_eq_true] at h
  refine ⟨Nat.not_lt.1 fun hl => h.1 (decide_eq_true hl), fun hk => ?_⟩
  by_cases hz : v.size = 0
  · exact hz
  · exact absurd ⟨decide_eq_true hk, decide_eq_true fun he => hz (size_zero.1 he)⟩ h.2

def RefAt (B rb : Nat) (fr : Bool) (L : List KVp) (w : World) : Prop :=
  ∃ lv, w.heap[rb]? = some (.cells #[lv, .bool fr] 57 (0, 0)) ∧ w.ownsRow B 44 4 lv L.length (L.flatMap eKV)
theorem RefAt.ext {B rb : Nat} {fr : Bool} {L : List KVp} {w w' : World} (h : RefAt B rb fr L w) (he : Ext w w') : RefAt B rb fr L w' := by
  obtain ⟨lv, h1, h2⟩ := h
  exact ⟨lv, (he.block _ (blk_lt h1)).trans h1, owns_ext h2 he⟩
theorem RefAt.set {B rb : Nat} {fr : Bool} {L : List KVp} {w : World} {lv v9 : Value} (h : w.heap[rb]? = some (.cells #[lv, .bool fr] 57 (0, 0))) (ho : w.ownsRow B 44 4 v9 L.length (L.flatMap eKV)) : RefAt B rb fr L (w.setCell ⟨rb, 0, none⟩ v9) :=
  ⟨v9, (heap_setCell_same w rb 0 _ _ _ h).trans rfl, owns_ch ho fun g hg => heap_setCell_other _ _ _ _ fun e => own_ne' ho h (by decide) (by rw [hg, e])⟩
def refL (fr : Bool) (L : List KVp) (k : IKey) (v : ByteArray) : List KVp := if addC fr L k v = 0 then withL (k, v) L else L
def RefPost (B rb : Nat) (fr : Bool) (L : List KVp) (k : IKey) (v : ByteArray) (w : World) (e : Ending) (w' : World) : Prop := e = .returned (.int .i64 (addC fr L k v)) ∧ RefAt B rb fr (refL fr L k v) w' ∧ Ch (· = rb) w w'
set_option maxRecDepth 100000 in
set_option maxHeartbeats 2000000 in
theorem add08_in {B rb : Nat} {fr : Bool} {L : List KVp} {w : World} (h : RefAt B rb fr L w) (hB : B ≤ w.heap.size) (hg : ∀ e, e ∈ L → GoodE e.1) (hn : L.length ≤ 1000000) (k : IKey) (v : ByteArray) (h0 : 0 ≤ k.seq) (hu : k.user.size ≤ 9223372036854775807) (hv : v.size ≤ 9223372036854775807) :
    Calls Try.prog 32 #[.pointer (some ⟨rb, 0, none⟩), aKey k, .string v] w (RefPost B rb fr L k v w) := by
  have hold := h
  obtain ⟨lv, hrb, hown⟩ := h
  have hlt := blk_lt hrb
  have c1 : w.cell? ⟨rb, 1, none⟩ = some (.bool fr) := cell_of_row _ _ _ _ _ _ hrb
  have old : ∀ c : Int, c ≠ 0 → addC fr L k v = c → ∀ e w', IntExt c w e w' → RefPost B rb fr L k v w e w' := fun c hc hac e w' ⟨h1, h2⟩ =>
    ⟨by rw [hac]; exact h1, by unfold refL; rw [hac, if_neg hc]; exact hold.ext h2, Ch.of_ext h2⟩
  have HOLD := hid old
  have HG := hid hg
  have HRB := hid hrb
  have HOW := hid hown
  have H0 := hid h0
  have HCHK := hid (fun w => check02_in k hu w)
  clear hold old hg h0 hown hrb
  cases fr
  · by_cases hc : kChk k = 0
    · have hcq : (kChk k == 0) = true := by rw [hc]; rfl
      have hcq2 : (kChk k != 0) = false := by rw [hc]; rfl
      obtain ⟨lb, cl, hlv, hmx⟩ := slice_of HOW.out
      by_cases hb : badV k v = true
      · have hac : addC false L k v = 31 := by unfold addC; rw [if_neg (by decide), if_neg (by rw [hc]; decide), if_pos hb]
        have hcase := badV_yes hb
        clear hb
        rcases hcase with h1 | ⟨h1, h2, h3⟩
        · have hd : decide ((1000 : Int) < (v.size : Int)) = true := decide_eq_true (by omega)
          have HC := hid hc
          clear hc
          go_enter Try.func32, Try.ntmps32
          go_wp2_with fail
          refine (HCHK.out _).mono ?_
          rintro e w1 ⟨rfl, he1⟩
          have E1 := hid (((Ext.rfl w).al _).tr he1)
          rw [HC.out]
          clear he1
          go_wp2_with fail
          go_ret
          exact HOLD.out 31 (by decide) hac _ _ ⟨rfl, E1.out⟩
        · have hd : decide ((1000 : Int) < (v.size : Int)) = false := decide_eq_false (by omega)
          have hd2 : decide ((0 : Int) < (v.size : Int)) = true := decide_eq_true (by omega)
          have hk0 : (k.kind == 0) = true := by rw [h2]; rfl
          have HC := hid hc
          clear hc h2
          go_enter Try.func32, Try.ntmps32
          go_wp2_with fail
          refine (HCHK.out _).mono ?_
          rintro e w1 ⟨rfl, he1⟩
          have E1 := hid (((Ext.rfl w).al _).tr he1)
          have b2 := ext_new he1 2 rfl
          rw [HC.out]
          clear he1
          go_wp2_with fail
          go_ret
          exact HOLD.out 31 (by decide) hac _ _ ⟨rfl, E1.out⟩
      · have hcase := badV_no hb
        have HBV := hid hb
        have HC := hid hc
        have HCS := hid hcase
        have hd : decide ((1000 : Int) < (v.size : Int)) = false := decide_eq_false (by omega)
        clear hb hc hcase
        go_enter Try.func32, Try.ntmps32
        go_wp2_with fail
        refine (HCHK.out _).mono ?_
        rintro e w1 ⟨rfl, he1⟩
        have E1 := hid (((Ext.rfl w).al _).tr he1)
        have BX := hid ((he1.block w.heap.size (by show _ < (w.heap.push _).size; rw [Array.size_push]; exact Nat.lt_succ_self _)).trans (heap_alloc_new w _))
        have b2 := ext_new he1 2 rfl
        rw [HC.out]
        clear he1
        go_upto_region 6 with fail
        go_cut [30] from 18 to 30 (fun b wx => b = .bool false ∧ wx = w1)
        case first =>
          by_cases hk : k.kind = 0
          · have hk0 : (k.kind == 0) = true := by rw [hk]; rfl
            have hd2 : decide ((0 : Int) < (v.size : Int)) = false := decide_eq_false (by have := HCS.out.2 hk; omega)
            have HS0 := hid (HCS.out.2 hk)
            clear hk
            go_wp2_with fail
            go_meet
            case rel => exact ⟨by rw [HS0.out]; rfl, rfl⟩
          · have hk0 : (k.kind == 0) = false := by simpa using hk
            clear hk
            go_wp2_with fail
            go_meet
            case rel => exact ⟨rfl, rfl⟩
        case rest =>
          obtain ⟨rfl, rfl⟩ := hcut
          have HRB1 := hid ((E1.out.block rb (blk_lt HRB.out)).trans HRB.out)
          have HLV := hid hlv
          have hsl : SlS w (.slice lb L.length cl) 4 eKV L := hlv ▸ owns_slT HOW.out rfl eKV_length (by decide)
          have HSL := hid (show SlS wc (.slice lb L.length cl) 4 eKV L from hsl.go (fun _ => rfl) E1.out)
          unfold maxLen at hmx
          clear hsl hlv
          go_wp2_with fail
          go_loopw [8] (fun t wr => ∃ i : Nat, i ≤ L.length ∧ t = .int .i64 i ∧ Ext wc wr ∧ ∀ j, j < i → (nth L j).1 ≠ k) (fun t _ => L.length - (intOf t).toNat)
          case atStart => exact ⟨0, Nat.zero_le _, rfl, Ext.rfl _, fun j hj => absurd hj (Nat.not_lt_zero _)⟩
          case round =>
            obtain ⟨i, hi, rfl, he, hno⟩ := hrel
            have HE := hid he
            have HNO := hid hno
            clear he hno
            have hrb2 := (HE.out.block rb (blk_lt HRB1.out)).trans HRB1.out
            have k0 : wr.cell? ⟨rb, 0, none⟩ = some (.slice lb L.length cl) := by rw [cell_of_row _ _ _ _ _ _ hrb2]; exact congrArg some HLV.out
            clear hrb2
            by_cases hlt2 : i < L.length
            · obtain ⟨_, _, hes, _, _, hc⟩ := HSL.out.ex
              obtain ⟨b, off, ha, _⟩ := hc (by omega)
              simp only [Value.slice.injEq] at hes
              obtain ⟨rfl, _, rfl⟩ := hes
              subst ha
              clear hc
              obtain ⟨q0, q1, q2, q3⟩ := kv_cells (HSL.out.go (fun _ => rfl) HE.out) rfl hlt2
              have hbx := (HE.out.block _ (blk_lt BX.out)).trans BX.out
              have p0 := cell_of_row _ _ 0 _ _ _ hbx
              have p1 := cell_of_row _ _ 1 _ _ _ hbx
              have p2 := cell_of_row _ _ 2 _ _ _ hbx
              simp at p0 p1 p2
              have hkq := fun w => key_eql (nth L i).1 k w
              clear hbx
              by_cases hke : (nth L i).1 = k
              · have hdk : decide ((nth L i).1 = k) = true := decide_eq_true hke
                have hac : addC false L k v = 81 := by unfold addC; rw [if_neg (by decide), if_neg (by rw [HC.out]; decide), if_neg HBV.out, if_pos ⟨_, nth_mem L i hlt2, hke⟩]
                have HKE := hid hke
                clear hke
                go_wp2_with fail
                go_quiet (fail)
                go_wp2_with fail
                go_ret
                exact HOLD.out 81 (by decide) hac _ _ ⟨rfl, E1.out.tr (HE.out.drN _)⟩
              · have hdk : decide ((nth L i).1 = k) = false := decide_eq_false hke
                have HKE := hid hke
                clear hke
                go_wp2_with fail
                go_quiet (fail)
                go_wp2_with fail
                go_roundw
                case rel =>
                  refine ⟨i + 1, hlt2, by go_num, HE.out.drN _, fun j hj => ?_⟩
                  by_cases e : j = i
                  · rw [e]; exact HKE.out
                  · exact HNO.out j (by omega)
                case measure => simp [intOf]; omega
            · have : i = L.length := by omega
              subst this
              have hnone : ¬ ∃ e, e ∈ L ∧ e.1 = k := fun ⟨e, he, hk⟩ => by
                obtain ⟨j, hj, rfl⟩ := mem_nth he
                exact HNO.out j hj hk
              have hok : okKV (k, v) = true := by unfold okKV; rw [decide_eq_true HC.out, Bool.true_and, Bool.not_eq_true']; simpa using HBV.out
              have hac : addC false L k v = 0 := addC_zero (x := (k, v)).2 ⟨hok, hnone⟩
              have HAC := hid hac
              have HW := hid (show ∀ w', Ext wc w' → Calls Try.prog 70 #[.slice lb L.length cl, .agg #[.string k.user, .int .u64 k.seq, .int .i64 k.kind, .string v]] w' (fun e w'' => ∃ v0, e = .returned v0 ∧ w''.ownsRow w'.heap.size 44 4 v0 (withL (k, v) L).length ((withL (k, v) L).flatMap eKV) ∧ Ext w' w'') from fun w' he => with08_in _ L (k, v) w' (HSL.out.go (fun _ => rfl) he) HG.out (good_of HC.out H0.out) hn)
              have hbx := (HE.out.block _ (blk_lt BX.out)).trans BX.out
              have p0 := cell_of_row _ _ 0 _ _ _ hbx
              have p1 := cell_of_row _ _ 1 _ _ _ hbx
              have p2 := cell_of_row _ _ 2 _ _ _ hbx
              simp at p0 p1 p2
              have f0 : ∀ i, wr.frozen? ⟨rb, i, none⟩ = false := fun i => frozen_of_row _ _ _ _ _ ((HE.out.block rb (blk_lt HRB1.out)).trans HRB1.out)
              have hrl : rb < wr.heap.size := cell_lt k0
              clear hnone hok hac hbx
              go_wp2_with fail
              go_region_with (go_at_call 70; refine (HW.out _ (HE.out.dr)).mono ?_; rintro e w9 ⟨v9, rfl, ho9, he9⟩; obtain ⟨a9, c9, rfl, _⟩ := slice_of ho9; have O9 := hid ho9; have E9 := hid he9; have f9 : ∀ i, w9.frozen? ⟨rb, i, none⟩ = false := (fun i => (ext_frozen he9 rb i hrl).trans (f0 i)); have k9 : w9.cell? ⟨rb, 0, none⟩ = some (.slice lb L.length cl) := ext_cell he9 k0; clear ho9 he9)
              all_goals
                go_wp2_with fail
                go_ret
                refine ⟨by rw [HAC.out]; rfl, ?_, (Ch.of_ext (E1.out.tr ((HE.out.dr).tr E9.out))).setC rfl⟩
                have hr9 := (E9.out.block rb hrl).trans ((HE.out.block rb (blk_lt HRB1.out)).trans HRB1.out)
                have hres := RefAt.set hr9 (owns_base O9.out (Nat.le_trans hB (Nat.le_trans E1.out.size HE.out.size)))
                rw [show refL false L k v = withL (k, v) L from if_pos HAC.out]
                exact hres
    · have hac : addC false L k v = kChk k := by unfold addC; rw [if_neg (by decide), if_pos hc]
      have hcq : (kChk k == 0) = false := by simpa using hc
      have hcq2 : (kChk k != 0) = true := by simpa using hc
      have HC := hid hc
      clear hc
      go_enter Try.func32, Try.ntmps32
      go_wp2_with fail
      refine (HCHK.out _).mono ?_
      rintro e w1 ⟨rfl, he1⟩
      have E1 := hid (((Ext.rfl w).al _).tr he1)
      clear he1
      go_wp2_with fail
      go_ret
      exact HOLD.out _ HC.out hac _ _ ⟨rfl, E1.out⟩
  · have hac : addC true L k v = 80 := by unfold addC; rw [if_pos rfl]
    go_enter Try.func32, Try.ntmps32
    go_wp2_with fail
    go_ret
    exact HOLD.out 80 (by decide) hac _ _ ⟨rfl, (Ext.rfl w).al _⟩
end Go.Proofs.Ytoonhcmeklmnlaa
