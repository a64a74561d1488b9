/- The document's files: names in a row; one sought, one taken away, one laid in; a change done. -/
import Derived.Test.YtjekfifnhdoamaaSf0
import Derived.Test.YtjekfifnhdoamaaAp
import Derived.Test.YtjekfifnhdoamaaRows
import Derived.Test.YtjekfifnhdoamaaRg2
import Derived.WalkSpells
import Derived.WalkLawsBesides
import Derived.Laws.EntriesVeiled
import Derived.Deep.QuietTactic
import Derived.Deep.CutRange
import Derived.BigQuiet
import Derived.StillTailTactics
import Derived.Lib.UnsafeStr
set_option linter.unusedSimpArgs false
set_option linter.unusedVariables false
set_option linter.unnecessarySimpa false
namespace Go.Proofs.Ytjekfifnhdoamaa
open Go.RowKit Go.Rg Go.St

/-- a name of the document's, in its row -/
def eNm (p : ByteArray × Nat) : List Value := [.string p.1, .int .i64 (p.2 : Nat)]
/-- a change of the document's: 1: made, 2: with another name, 3: gone -/
def eCg (c : Chg) : List Value := if c.frm.size = 0 then [.int .i64 1, .string c.to_, .string ByteArray.empty, .int .i64 (c.x : Nat)] else if c.to_.size = 0 then [.int .i64 3, .string c.frm, .string ByteArray.empty, .int .i64 0] else [.int .i64 2, .string c.frm, .string c.to_, .int .i64 (c.x : Nat)]
theorem eNm_length (p : ByteArray × Nat) : (eNm p).length = 2 := rfl
theorem eCg_length (c : Chg) : (eCg c).length = 4 := by
  unfold eCg
  split
  · rfl
  · split <;> rfl
theorem eNm_one (p : ByteArray × Nat) : ∀ u ∈ eNm p, u.oneCell' = true := by
  intro u hu
  simp only [eNm, List.mem_cons, List.mem_nil_iff, or_false] at hu
  rcases hu with rfl | rfl <;> rfl
theorem eCg_one (c : Chg) : ∀ u ∈ eCg c, u.oneCell' = true := by
  intro u hu
  unfold eCg at hu
  split at hu
  · simp at hu; rcases hu with rfl | rfl | rfl | rfl <;> rfl
  · split at hu
    · simp at hu; rcases hu with rfl | rfl | rfl | rfl <;> rfl
    · simp at hu; rcases hu with rfl | rfl | rfl | rfl <;> rfl
theorem el_nm : ElT Try.prog 110 129 2 24 := ⟨Try.underlying110, by kernel_rfl, by decide, by decide⟩
theorem el_cg : ElT Try.prog 111 127 4 48 := ⟨Try.underlying111, by kernel_rfl, by decide, by decide⟩
theorem el_fl : ElT Try.prog 109 115 2 32 := ⟨Try.underlying109, by kernel_rfl, by decide, by decide⟩
abbrev OwnN (w : World) (base : Nat) (v : Value) (l : Nm) : Prop := w.ownsRow base 129 2 v l.length (l.flatMap eNm)
abbrev SlN (w : World) (v : Value) (l : Nm) : Prop := SlS w v 2 eNm l
theorem OwnN.sl {w : World} {base : Nat} {v : Value} {l : Nm} (h : OwnN w base v l) : SlN w v l := owns_slG h rfl eNm_length (by decide)
theorem OwnN.snoc {w : World} {base : Nat} {v : Value} {l : Nm} {p : ByteArray × Nat} (h : w.ownsRow base 129 2 v (l.length + 1) (l.flatMap eNm ++ eNm p)) : OwnN w base v (l ++ [p]) := by
  unfold OwnN
  rw [List.length_append, List.flatMap_append]
  simpa using h
theorem at2 {α : Type} [Inhabited α] {w : World} {b off : Nat} {enc : α → List Value} {xs : List α} {k : Nat} (h : ∀ j, j < 2 → w.cell? ⟨b, off + k * 2 + j, none⟩ = (enc (nth xs k))[j]?) {c0 c1 : Value} (e : enc (nth xs k) = [c0, c1]) :
    w.cell? ⟨b, off + k * 2, none⟩ = some c0 ∧ w.cell? ⟨b, off + k * 2 + 1, none⟩ = some c1 := by
  rw [e] at h
  exact ⟨h 0 (by omega), h 1 (by omega)⟩
theorem fnd_at {k : ByteArray} : ∀ {l : Nm} {i : Nat}, i < l.length → (∀ j, j < i → (nth l j).1 ≠ k) → (nth l i).1 = k → fndN l k = some (nth l i).2
  | p :: l, 0, _, _, h => by
    have h' : p.1 = k := h
    unfold fndN
    rw [List.find?_cons, show (p.1 == k) = true by simpa using h']
    rfl
  | p :: l, i + 1, hi, hn, h => by
    have h0 : p.1 ≠ k := hn 0 (Nat.succ_pos _)
    have ih := fnd_at (l := l) (i := i) (by simpa using hi) (fun j hj => hn (j + 1) (by omega)) h
    unfold fndN at ih ⊢
    rw [List.find?_cons, show (p.1 == k) = false by simpa using h0]
    exact ih
theorem fnd_not {k : ByteArray} {l : Nm} (h : ∀ j, j < l.length → (nth l j).1 ≠ k) : fndN l k = none := by
  unfold fndN
  rw [Option.map_eq_none_iff, List.find?_eq_none]
  intro p hp
  obtain ⟨j, hj, e⟩ := List.getElem_of_mem hp
  have := h j hj
  rw [nth_eq l j hj, e] at this
  simpa using this
/-- what is told of a name that is sought -/
def FindP (l : Nm) (k : ByteArray) (w : World) (e : Ending) (w' : World) : Prop :=
  w = w' ∧ ((fndN l k = none ∧ e = .returned (.int .i64 (-1))) ∨ ∃ i : Nat, i < l.length ∧ fndN l k = some (nth l i).2 ∧ (nth l i).1 = k ∧ e = .returned (.int .i64 i))
theorem bs_ne {a b : ByteArray} (h : ¬ a = b) : (a.toList == b.toList) = false := by simpa using fun e => h (ba_ext e)
set_option maxHeartbeats 1000000 in
theorem rfind_in (v : Value) (l : Nm) (key : ByteArray) (w : World) (h : SlN w v l) : Calls Try.prog 76 #[v, .string key] w (FindP l key w) := by
  obtain ⟨a, cap, rfl, hcap, hm, hc⟩ := h.ex
  unfold maxLen at hm
  clear h
  go_enter Try.func76, Try.ntmps76
  go_wp2
  go_loopw [5] (fun i wr => ∃ k : Nat, k ≤ l.length ∧ i = .int .i64 k ∧ Hid (w = wr) ∧ ∀ j, j < k → (nth l j).1 ≠ key) (fun i _ => l.length - (intOf i).toNat)
  case atStart => exact ⟨0, Nat.zero_le _, rfl, hid (by trivial), fun j hj => absurd hj (Nat.not_lt_zero _)⟩
  case round =>
    obtain ⟨k, hk, rfl, hw, hno⟩ := hrel
    cases hw.out
    by_cases hlt : k < l.length
    · obtain ⟨b1, off, rfl, hcell⟩ := hc (by omega)
      obtain ⟨c0, c1⟩ := at2 (hcell k hlt) rfl
      have HN := hid hno
      clear hc hcell hno
      by_cases heq : (nth l k).1 = key
      · have HE := hid heq
        subst heq
        go_wp2
        go_ret
        exact ⟨rfl, .inr ⟨k, hlt, fnd_at hlt HN.out rfl, rfl, rfl⟩⟩
      · have heq' := bs_ne heq
        go_wp2
        go_roundw
        case rel => exact ⟨k + 1, by omega, by go_num, hid (by trivial), fun j hj => (if hjk : j = k then (by rw [hjk]; exact heq) else HN.out j (by omega))⟩
        case measure => simp [intOf]; omega
    · have : k = l.length := by omega
      subst this
      go_wp2
      go_ret
      exact ⟨rfl, .inl ⟨fnd_not hno, rfl⟩⟩
theorem rgood_in (n : ByteArray) (w : World) : Calls Try.prog 75 #[.string n] w (fun e w' => e = .returned (.bool (goodN n)) ∧ w = w') := by
  by_cases h : 0 < n.size
  · have d1 : decide ((0 : Int) < (n.size : Int)) = true := decide_eq_true (by omega)
    have HG := hid (show goodN n = decide (n.size ≤ 32) by unfold goodN; rw [decide_eq_true h]; rfl)
    go_enter Try.func75, Try.ntmps75
    go_wp2
    go_ret
    refine ⟨?_, rfl⟩
    rw [HG.out]
    by_cases h2 : n.size ≤ 32
    · simp [h2]; omega
    · simp [h2]; omega
  · have d1 : decide ((0 : Int) < (n.size : Int)) = false := decide_eq_false (by omega)
    have HG := hid (show goodN n = false by unfold goodN; rw [decide_eq_false h]; rfl)
    go_enter Try.func75, Try.ntmps75
    go_wp2
    go_ret
    exact ⟨by rw [HG.out]; rfl, rfl⟩
def NamesExt (l : Nm) (w : World) (e : Ending) (w' : World) : Prop := ∃ v, e = .returned v ∧ OwnN w' w.heap.size v l ∧ Ext w w'
theorem offK_take (k : ByteArray) (l : Nm) (j : Nat) (h : j < l.length) : offK k (l.take (j + 1)) = offK k (l.take j) ++ (if (nth l j).1 ≠ k then [nth l j] else []) := by
  unfold offK
  rw [take_succ_nth l j h, List.filter_append]
  by_cases e : (nth l j).1 = k
  · simp [e]
  · simp [e]
theorem offK_len (k : ByteArray) (l : Nm) : (offK k l).length ≤ l.length := List.length_filter_le _ _
set_option maxRecDepth 100000 in
set_option maxHeartbeats 2000000 in
theorem rwithout_in (v : Value) (l : Nm) (key : ByteArray) (w : World) (hs : SlN w v l) (hn : l.length ≤ 2000000000000) :
    Calls Try.prog 95 #[v, .string key] w (NamesExt (offK key l) w) := by
  obtain ⟨ad, cap, rfl, hcap, hm, hc⟩ := hs.ex
  have HC := hid hc
  clear hs hc
  unfold maxLen at hm
  go_enter Try.func95, Try.ntmps95
  go_wp2
  go_loopw [5, 6] (fun o t wr => ∃ j : Nat, j ≤ l.length ∧ t = .int .i64 j ∧ Ext w wr ∧ OwnN wr w.heap.size o (offK key (l.take j))) (fun _ t _ => l.length - (intOf t).toNat)
  case atStart => exact ⟨0, Nat.zero_le _, rfl, Ext.rfl _, World.ownsRow_nil _ _ _ _⟩
  case round =>
    obtain ⟨j, hj, rfl, he, hown⟩ := hrel
    have HE := hid he
    have HO := hid hown
    clear he hown
    by_cases hlt : j < l.length
    · obtain ⟨b1, off, rfl, hcell⟩ := HC.out (by omega)
      obtain ⟨c0, c1⟩ := at2 (w := wr) (enc := eNm) (xs := l) (k := j) (fun i hi => ext_cellq HE.out (hcell j hlt i hi) hi rfl) rfl
      have hsucc := hid (offK_take key l j hlt)
      have hle := offK_len key (l.take j)
      rw [List.length_take] at hle
      clear hcell
      by_cases hov : (nth l j).1 = key
      · have HV := hid hov
        rw [hov] at c0
        clear hov
        go_wp2_with fail
        go_roundw
        case rel => exact ⟨j + 1, by omega, by go_num, HE.out, by rw [hsucc.out, if_neg (by rw [HV.out]; simp), List.append_nil]; exact HO.out⟩
        case measure => simp [intOf]; omega
      · have d1 := bs_ne hov
        have HV := hid hov
        clear hov
        go_wp2_with (at_builtin; refine wpList_app el_nm rfl (owns_ext HO.out ((Ext.rfl wr).al _)) rfl rfl (news_atG wr (eNm (nth l j)).toArray _) (eNm_one _) (by omega) (HE.out.al _).size ?_; intro v' w4 hown4 hg4 hb4; have O4 := hid (OwnN.snoc hown4); have E4 := hid (Below.trans (HE.out.al _) hb4); clear hown4 hg4 hb4)
        go_roundw
        case rel => exact ⟨j + 1, by omega, by go_num, E4.out, by rw [hsucc.out, if_pos HV.out]; exact O4.out⟩
        case measure => simp [intOf]; omega
    · have : j = l.length := by omega
      subst this
      rw [List.take_length] at HO
      go_wp2
      go_ret
      exact ⟨_, rfl, HO.out, HE.out⟩

/-! ### laid in -/
theorem ins_hit (f x : ByteArray × Nat) : ∀ l : Nm, l.any (fun o => kl f.1 o.1) = true → nmIns f (l ++ [x]) = nmIns f l ++ [x]
  | [], h => by simp at h
  | o :: l, h => by
    rw [List.cons_append]
    unfold nmIns
    by_cases ho : kl f.1 o.1 = true
    · rw [if_pos ho, if_pos ho]; rfl
    · rw [if_neg ho, if_neg ho]
      rw [List.any_cons] at h
      have : l.any (fun o => kl f.1 o.1) = true := by cases hh : kl f.1 o.1 with
        | true => exact absurd hh ho
        | false => rw [hh] at h; simpa using h
      rw [ins_hit f x l this]; rfl
theorem ins_none (f : ByteArray × Nat) (m : Nm) : ∀ l : Nm, l.any (fun o => kl f.1 o.1) = false → nmIns f (l ++ m) = l ++ nmIns f m
  | [], _ => rfl
  | o :: l, h => by
    rw [List.any_cons, Bool.or_eq_false_iff] at h
    rw [List.cons_append]
    conv => lhs; unfold nmIns
    rw [if_neg (by rw [h.1]; decide), ins_none f m l h.2]
    rfl
theorem nmIns_len (f : ByteArray × Nat) (l : Nm) : (nmIns f l).length = l.length + 1 := by rw [(nmIns_perm f l).length_eq, List.length_cons]
/-- names with one more, so far -/
def nmTo (f : ByteArray × Nat) (l : Nm) : Nm := if l.any (fun o => kl f.1 o.1) = true then nmIns f l else l
theorem nmTo_len (f : ByteArray × Nat) (l : Nm) : (nmTo f l).length ≤ l.length + 1 := by
  unfold nmTo
  split
  · rw [nmIns_len]; exact Nat.le_refl _
  · omega
theorem nmTo_hit {f x : ByteArray × Nat} {l : Nm} (h : l.any (fun o => kl f.1 o.1) = true) : nmTo f (l ++ [x]) = nmTo f l ++ [x] := by
  unfold nmTo
  rw [if_pos h, if_pos (by rw [List.any_append, h]; rfl), ins_hit f x l h]
theorem nmTo_now {f x : ByteArray × Nat} {l : Nm} (h : l.any (fun o => kl f.1 o.1) = false) (hx : kl f.1 x.1 = true) : nmTo f (l ++ [x]) = nmTo f l ++ [f] ++ [x] := by
  have ha : (l ++ [x]).any (fun o => kl f.1 o.1) = true := by rw [List.any_append]; simp [hx]
  unfold nmTo
  rw [if_pos ha, if_neg (by rw [h]; decide), ins_none f [x] l h]
  unfold nmIns
  rw [if_pos hx, List.append_assoc]; rfl
theorem nmTo_not {f x : ByteArray × Nat} {l : Nm} (h : l.any (fun o => kl f.1 o.1) = false) (hx : kl f.1 x.1 = false) : nmTo f (l ++ [x]) = nmTo f l ++ [x] := by
  have ha : ¬ (l ++ [x]).any (fun o => kl f.1 o.1) = true := by rw [List.any_append, h]; simp [hx]
  unfold nmTo
  rw [if_neg ha, if_neg (by rw [h]; decide)]
theorem nmTo_end {f : ByteArray × Nat} {l : Nm} (h : l.any (fun o => kl f.1 o.1) = false) : nmIns f l = nmTo f l ++ [f] := by
  have := ins_none f [] l h
  rw [List.append_nil] at this
  rw [this]; unfold nmTo; rw [if_neg (by rw [h]; decide)]; rfl
theorem alloc_sizeR (w : World) (o : Obj) : (w.alloc o).heap.size = w.heap.size + 1 := by show (w.heap.push o).size = _; simp
theorem wp_go {P : Prop} (h : P) : P := h
set_option maxRecDepth 100000 in
set_option maxHeartbeats 4000000 in
theorem rwithN_in (v : Value) (l0 : Nm) (f : ByteArray × Nat) (w : World) (hs : SlN w v l0) (hn : l0.length ≤ 2000000000000) :
    Calls Try.prog 94 #[v, .agg #[.string f.1, .int .i64 (f.2 : Nat)]] w (NamesExt (putN l0 f) w) := by
  have E1 := hid ((Ext.rfl w).al (.cells #[.string f.1, .int .i64 (f.2 : Nat)] 129))
  have R1 := hid (heap_alloc_new w (.cells #[.string f.1, .int .i64 (f.2 : Nat)] 129))
  have S1 := hid (hs.go eNm_length E1.out)
  have hsz := alloc_sizeR w (.cells #[.string f.1, .int .i64 (f.2 : Nat)] 129)
  have HB := hid (show w.heap.size ≤ (w.alloc (.cells #[.string f.1, .int .i64 (f.2 : Nat)] 129)).heap.size by omega)
  clear hs hsz
  go_enter Try.func94, Try.ntmps94
  have hc0 : ∀ w', Ext (w.alloc (.cells #[.string f.1, .int .i64 (f.2 : Nat)] 129)) w' → w'.cell? ⟨w.heap.size, 0, none⟩ = some (.string f.1) ∧ w'.cell? ⟨w.heap.size, 1, none⟩ = some (.int .i64 (f.2 : Nat)) := fun w' he => ⟨ext_new he 0 rfl, ext_new he 1 rfl⟩
  have HC0 := hid hc0
  obtain ⟨k0, k1⟩ := hc0 _ (Ext.rfl _)
  clear hc0 R1
  obtain ⟨g, hg⟩ : ∃ g, g = w.heap.size := ⟨_, rfl⟩
  rw [← hg] at k0 k1
  go_wp2_with fail
  rw [← hg] at HC0
  simp only [← hg]
  generalize w.alloc (.cells #[.string f.1, .int .i64 (f.2 : Nat)] 129) = w1 at *
  refine (rwithout_in v l0 f.1 w1 S1.out hn).mono ?_
  rintro e w2 ⟨v2, rfl, hown, he2⟩
  have E2 := hid he2
  have SL2 := hown.sl
  have HPUT := hid (show putN l0 f = nmIns f (offK f.1 l0) from rfl)
  have hlen : (offK f.1 l0).length ≤ 2000000000000 := Nat.le_trans (offK_len _ _) hn
  generalize offK f.1 l0 = l at *
  obtain ⟨ad, cap, rfl, hcap, hm, hc⟩ := SL2.ex
  have HC := hid hc
  have HG := hid hg
  clear hc SL2 hown hn k0 k1 S1 he2 hg
  unfold maxLen at hm
  go_wp2_with fail
  go_loopw [5, 6, 7] (fun o d t wr => ∃ j : Nat, j ≤ l.length ∧ t = .int .i64 j ∧ Ext w2 wr ∧ d = .bool ((l.take j).any (fun o => kl f.1 o.1)) ∧ OwnN wr w2.heap.size o (nmTo f (l.take j))) (fun _ _ t _ => l.length - (intOf t).toNat)
  case atStart => exact ⟨0, Nat.zero_le _, rfl, Ext.rfl _, rfl, World.ownsRow_nil _ _ _ _⟩
  case round =>
    obtain ⟨j, hj, rfl, he, rfl, hown⟩ := hrel
    have HE := hid he
    have HO := hid hown
    clear he hown
    obtain ⟨k0, k1⟩ := HC0.out wr (E2.out.tr HE.out)
    have hlen2 := nmTo_len f (l.take j)
    rw [List.length_take] at hlen2
    by_cases hlt : j < l.length
    · obtain ⟨b1, off, rfl, hcell⟩ := HC.out (by omega)
      obtain ⟨c0, c1⟩ := at2 (w := wr) (enc := eNm) (xs := l) (k := j) (fun i hi => ext_cellq HE.out (hcell j hlt i hi) hi rfl) rfl
      have HCX := hid (fun w' (h : Ext w2 w') => at2 (w := w') (enc := eNm) (xs := l) (k := j) (fun i hi => ext_cellq h (hcell j hlt i hi) hi rfl) rfl)
      have HTS := hid (take_succ_nth l j hlt)
      clear hcell
      generalize hda : (l.take j).any (fun o => kl f.1 o.1) = da at *
      have HDA := hid hda
      clear hda
      cases da
      · cases hk : kl f.1 (nth l j).1
        · have HK := hid hk
          have hd : Op.bytesLess f.1.toList (nth l j).1.toList = false := hk
          clear hk
          go_wp2_with fail
          go_quiet (fail)
          go_wp2_with (at_builtin; refine wpList_app el_nm rfl (owns_ext HO.out (((Ext.rfl wr).drN _).al _)) rfl rfl (news_atG _ (eNm (nth l j)).toArray _) (eNm_one _) (by omega) (Nat.le_trans HE.out.size (((Ext.rfl wr).drN _).al _).size) ?_; intro v' w4 hown4 hg4 hb4; have O4 := hid (OwnN.snoc hown4); have E4 := hid (Below.trans ((HE.out.drN _).al _) hb4); clear hown4 hg4 hb4)
          go_roundw
          case rel => exact ⟨j + 1, by omega, by go_num, E4.out, by rw [HTS.out, List.any_append, HDA.out]; simp [HK.out], by rw [HTS.out, nmTo_not HDA.out HK.out]; exact O4.out⟩
          case measure => simp [intOf]; omega
        · have HK := hid hk
          have hd : Op.bytesLess f.1.toList (nth l j).1.toList = true := hk
          clear hk
          go_wp2_with fail
          go_quiet (fail)
          go_upto_region 10 with (at_builtin; refine wpList_app el_nm rfl (owns_ext HO.out (((Ext.rfl wr).drN _).al _)) rfl rfl (news_atG _ (eNm f).toArray _) (eNm_one _) (by omega) (Nat.le_trans HE.out.size (((Ext.rfl wr).drN _).al _).size) ?_; intro v' w4 hown4 hg4 hb4; have O4 := hid (OwnN.snoc hown4); have E4 := hid (Below.trans ((HE.out.drN _).al _) hb4); obtain ⟨q0, q1⟩ := HCX.out w4 E4.out; clear hown4 hg4 hb4)
          go_wp2_with (at_builtin; refine wpList_app el_nm rfl (owns_ext O4.out ((Ext.rfl w4).al _)) rfl rfl (news_atG w4 (eNm (nth l j)).toArray _) (eNm_one _) (by simp only [List.length_append, List.length_cons, List.length_nil]; omega) (Nat.le_trans E4.out.size ((Ext.rfl w4).al _).size) ?_; intro v7 w7 hown7 hg7 hb7; have O7 := hid (OwnN.snoc hown7); have E7 := hid (Below.trans (Ext.tr E4.out ((Ext.rfl w4).al _)) hb7); clear hown7 hg7 hb7)
          go_roundw
          case rel => exact ⟨j + 1, by omega, by go_num, E7.out, by rw [HTS.out, List.any_append, HDA.out]; simp [HK.out], by rw [HTS.out, nmTo_now HDA.out HK.out]; exact O7.out⟩
          case measure => simp [intOf]; omega
      · go_wp2_with fail
        go_quiet (fail)
        go_wp2_with (at_builtin; refine wpList_app el_nm rfl (owns_ext HO.out (((Ext.rfl wr).drN _).al _)) rfl rfl (news_atG _ (eNm (nth l j)).toArray _) (eNm_one _) (by omega) (Nat.le_trans HE.out.size (((Ext.rfl wr).drN _).al _).size) ?_; intro v' w4 hown4 hg4 hb4; have O4 := hid (OwnN.snoc hown4); have E4 := hid (Below.trans ((HE.out.drN _).al _) hb4); clear hown4 hg4 hb4)
        go_roundw
        case rel => exact ⟨j + 1, by omega, by go_num, E4.out, by rw [HTS.out, List.any_append, HDA.out]; rfl, by rw [HTS.out, nmTo_hit HDA.out]; exact O4.out⟩
        case measure => simp [intOf]; omega
    · have : j = l.length := by omega
      subst this
      rw [List.take_length] at HO hlen2 ⊢
      cases hda : l.any (fun o => kl f.1 o.1)
      · have HDA := hid hda
        have HI := hid (nmTo_end hda)
        clear hda
        go_wp2_with (at_builtin; refine wpList_app el_nm rfl (owns_ext HO.out ((Ext.rfl wr).al _)) rfl rfl (news_atG _ (eNm f).toArray _) (eNm_one _) (by omega) (Nat.le_trans HE.out.size ((Ext.rfl wr).al _).size) ?_; intro v' w4 hown4 hg4 hb4; have O4 := hid (OwnN.snoc hown4); have E4 := hid (Below.trans (HE.out.al _) hb4); clear hown4 hg4 hb4)
        go_ret
        exact ⟨_, rfl, by rw [HPUT.out, HI.out]; exact owns_base O4.out (Nat.le_trans HB.out E2.out.size), (E1.out.tr E2.out).tr E4.out⟩
      · have HDA := hid hda
        have HI := hid (show nmIns f l = nmTo f l by unfold nmTo; rw [if_pos hda])
        clear hda
        go_wp2_with fail
        go_ret
        exact ⟨_, rfl, by rw [HPUT.out, HI.out]; exact owns_base HO.out (Nat.le_trans HB.out E2.out.size), (E1.out.tr E2.out).tr HE.out⟩

/-! ### a change done -/
theorem cf_with (args : Array Value) (w : World) : (callFunc 94 args).run Try.prog w = .ok (.enter 94 args) w := by kernel_rfl
theorem cf_without (args : Array Value) (w : World) : (callFunc 95 args).run Try.prog w = .ok (.enter 95 args) w := by kernel_rfl
theorem run_bNm (a : ByteArray) (n : Int) (w : World) : (Instr.build 129 #[(0, .string a), (1, .int .i64 n)]).run Try.prog w = .ok (.agg #[.string a, .int .i64 n]) w := by kernel_rfl
theorem ob_bNm {ops : Array Oper} {w0 : World} {s : Nat → Option SV} {d : Option Tmp} {ty : TypeId} {pos : String} {aft : Array Edge} {g : Option (Nat × Bool)} {x y : Operand} {a : ByteArray} {n : Int} (hg : gw ops s ⟨d, .build 129 #[(0, x), (1, y)], ty, pos, aft, g⟩ = some true) (hx : lk s x = some (.ex (.string a))) (hy : lk s y = some (.ex (.int .i64 n))) :
    Ob Try.prog ops w0 ⟨d, .build 129 #[(0, x), (1, y)], ty, pos, aft, g⟩ s (.ex (.agg #[.string a, .int .i64 n])) :=
  ob_ex2 hg (x := x) (y := y) rfl hx hy fun ρ w _ h1 h2 => by
    have h := run_bNm a n w
    simp [execOp, h1, h2, h]
/-- names of the call's own -/
def namSV (l : Nm) : SV := .rel (fun v w => OwnN w 0 v l) (fun _ _ _ he h => owns_ext h he)
abbrev aCg (c : Chg) : Value := .agg (eCg c).toArray
/-- names that may be, and a change that may be -/
def CgOk (c : Chg) : Prop := (c.frm.size = 0 → c.to_.size ≠ 0)
theorem emp_of {a : ByteArray} (h : a.size = 0) : a = ByteArray.empty := by
  cases a with
  | mk d =>
    have : d.size = 0 := h
    have e : d = #[] := Array.eq_empty_of_size_eq_zero this
    rw [e]; rfl
set_option maxRecDepth 100000 in
set_option maxHeartbeats 4000000 in
theorem rchanged_in (v : Value) (l : Nm) (c : Chg) (w : World) (hs : SlN w v l) (hc : CgOk c) (hn : l.length ≤ 1000000000000) :
    Calls Try.prog 79 #[v, aCg c] w (NamesExt (doneC c l) w) := by
  have HS := hid hs
  by_cases h1 : c.frm.size = 0
  · have h2 := hc h1
    have e1 : eCg c = [.int .i64 1, .string c.to_, .string ByteArray.empty, .int .i64 (c.x : Nat)] := by unfold eCg; rw [if_pos h1]
    have HD := hid (show doneC c l = putN l (c.to_, c.x) by unfold doneC; simp only [h1, h2, if_true, if_false])
    unfold aCg
    rw [e1]
    clear e1 h1 h2 hs
    have E1 := hid ((Ext.rfl w).al (.cells #[.int .i64 1, .string c.to_, .string ByteArray.empty, .int .i64 (c.x : Nat)] 127))
    have hsz := alloc_sizeR w (.cells #[.int .i64 1, .string c.to_, .string ByteArray.empty, .int .i64 (c.x : Nat)] 127)
    have HB := hid (show w.heap.size ≤ (w.alloc (.cells #[.int .i64 1, .string c.to_, .string ByteArray.empty, .int .i64 (c.x : Nat)] 127)).heap.size by omega)
    clear hsz
    go_enter Try.func79, Try.ntmps79
    go_wp2_with fail
    refine (rwithN_in v l (c.to_, c.x) _ (HS.out.go eNm_length E1.out) (by omega)).mono ?_
    rintro e w2 ⟨v2, rfl, hown, he2⟩
    have O2 := hid hown
    have E2 := hid he2
    clear hown he2
    go_wp2_with fail
    go_ret
    exact ⟨_, rfl, by rw [HD.out]; exact owns_base O2.out HB.out, E1.out.tr E2.out⟩
  · by_cases h2 : c.to_.size = 0
    · have e1 : eCg c = [.int .i64 3, .string c.frm, .string ByteArray.empty, .int .i64 0] := by unfold eCg; rw [if_neg h1, if_pos h2]
      have HD := hid (show doneC c l = offK c.frm l by unfold doneC; simp only [h1, h2, if_true, if_false])
      unfold aCg
      rw [e1]
      clear e1 h1 h2 hs
      have E1 := hid ((Ext.rfl w).al (.cells #[.int .i64 3, .string c.frm, .string ByteArray.empty, .int .i64 0] 127))
      have hsz := alloc_sizeR w (.cells #[.int .i64 3, .string c.frm, .string ByteArray.empty, .int .i64 0] 127)
      have HB := hid (show w.heap.size ≤ (w.alloc (.cells #[.int .i64 3, .string c.frm, .string ByteArray.empty, .int .i64 0] 127)).heap.size by omega)
      clear hsz
      go_enter Try.func79, Try.ntmps79
      go_wp2_with fail
      refine (rwithout_in v l c.frm _ (HS.out.go eNm_length E1.out) (by omega)).mono ?_
      rintro e w2 ⟨v2, rfl, hown, he2⟩
      have O2 := hid hown
      have E2 := hid he2
      clear hown he2
      go_wp2_with fail
      go_ret
      exact ⟨_, rfl, by rw [HD.out]; exact owns_base O2.out HB.out, E1.out.tr E2.out⟩
    · have e1 : eCg c = [.int .i64 2, .string c.frm, .string c.to_, .int .i64 (c.x : Nat)] := by unfold eCg; rw [if_neg h1, if_neg h2]
      have HD := hid (show doneC c l = putN (offK c.frm l) (c.to_, c.x) by unfold doneC; simp only [h1, h2, if_true, if_false])
      unfold aCg
      rw [e1]
      clear e1 h1 h2 hs
      have E1 := hid ((Ext.rfl w).al (.cells #[.int .i64 2, .string c.frm, .string c.to_, .int .i64 (c.x : Nat)] 127))
      have hsz := alloc_sizeR w (.cells #[.int .i64 2, .string c.frm, .string c.to_, .int .i64 (c.x : Nat)] 127)
      have HB := hid (show w.heap.size ≤ (w.alloc (.cells #[.int .i64 2, .string c.frm, .string c.to_, .int .i64 (c.x : Nat)] 127)).heap.size by omega)
      have hol := hid (offK_len c.frm l)
      clear hsz
      go_enter Try.func79, Try.ntmps79
      go_wp2_with fail
      obtain ⟨g, hg⟩ : ∃ g, g = w.heap.size := ⟨_, rfl⟩
      have hc0 : ∀ w', Ext (w.alloc (.cells #[.int .i64 2, .string c.frm, .string c.to_, .int .i64 (c.x : Nat)] 127)) w' → w'.cell? ⟨w.heap.size, 1, none⟩ = some (.string c.frm) ∧ w'.cell? ⟨w.heap.size, 2, none⟩ = some (.string c.to_) ∧ w'.cell? ⟨w.heap.size, 3, none⟩ = some (.int .i64 (c.x : Nat)) := fun w' he => ⟨ext_new he 1 rfl, ext_new he 2 rfl, ext_new he 3 rfl⟩
      rw [← hg] at hc0
      have HC0 := hid hc0
      clear hc0
      simp only [← hg]
      generalize w.alloc (.cells #[.int .i64 2, .string c.frm, .string c.to_, .int .i64 (c.x : Nat)] 127) = w1 at *
      refine wp_draw (by kernel_rfl) (by kernel_rfl) ?_
      refine rg_step 18 (ob_move (by rfl) (by rfl)) rfl (by rfl) ?_
      refine rg_step 19 (ob_field (n := 0) 1 1 9 (by rfl) (by rfl) Try.underlying127 (by rfl) (by kernel_rfl) rfl) rfl (by rfl) ?_
      refine rg_step 20 (ob_load (v := .string c.frm) (by rfl) (by rfl) (by kernel_rfl) (fun _ he => (HC0.out _ he).1)) rfl (by rfl) ?_
      refine rg_step 21 (ob_call (namSV (offK c.frm l)) (by rfl) cf_without (fun w' he => (rwithout_in v l c.frm w' (HS.out.go eNm_length (E1.out.tr he)) (by omega)).mono fun e w'' ⟨v', h1, h2, h3⟩ => ⟨v', h1, h3, owns_base h2 (Nat.zero_le _)⟩)) rfl (by rfl) ?_
      refine rg_step 22 (ob_field (n := 0) 2 2 9 (by rfl) (by rfl) Try.underlying127 (by rfl) (by kernel_rfl) rfl) rfl (by rfl) ?_
      refine rg_step 23 (ob_load (v := .string c.to_) (by rfl) (by rfl) (by kernel_rfl) (fun _ he => (HC0.out _ he).2.1)) rfl (by rfl) ?_
      refine rg_step 24 (ob_field (n := 0) 3 3 3 (by rfl) (by rfl) Try.underlying127 (by rfl) (by kernel_rfl) rfl) rfl (by rfl) ?_
      refine rg_step 25 (ob_load (v := .int .i64 (c.x : Nat)) (by rfl) (by rfl) (by kernel_rfl) (fun _ he => (HC0.out _ he).2.2)) rfl (by rfl) ?_
      refine rg_step 26 (ob_bNm (by rfl) (by rfl) (by rfl)) rfl (by rfl) ?_
      refine rg_step 27 (ob_call (.rel (fun v w' => w'.ownsRow w1.heap.size 129 2 v (putN (offK c.frm l) (c.to_, c.x)).length ((putN (offK c.frm l) (c.to_, c.x)).flatMap eNm)) (fun _ _ _ he h => owns_ext h he)) (by rfl) cf_with (fun w' he v' hv' => (rwithN_in v' (offK c.frm l) (c.to_, c.x) w' (OwnN.sl hv') (by have := hol.out; omega)).mono fun e w'' ⟨u, h1, h2, h3⟩ => ⟨u, h1, h3, owns_base h2 he.size⟩)) rfl (by rfl) ?_
      refine rg_step 4 (ob_assign (by rfl) (by rfl)) rfl (by rfl) ?_
      refine rg_end ?_
      intro wf hef
      simp only [asg, List.set_cons_zero, List.set_cons_succ, List.map_cons, List.map_nil, namSV, opens]
      intro v4 hv4 v21 hv21 v27 hv27
      have EF := hid hef
      have HV := hid hv4
      clear hef hv4 hv21 hv27
      go_wp2_with fail
      go_ret
      exact ⟨_, rfl, by rw [HD.out]; exact owns_base HV.out HB.out, E1.out.tr EF.out⟩
end Go.Proofs.Ytjekfifnhdoamaa
