/- What is known at a number: plain; the first so many of a slice. -/
import Derived.Test.YtoonhcmeklmnlaaMtW
import Derived.Test.YtoonhcmeklmnlaaLawMt
import Derived.Test.YtoonhcmeklmnlaaRg1
import Derived.Laws.StructEq
set_option linter.unusedSimpArgs false
set_option linter.unusedVariables false
set_option linter.unnecessarySimpa false

/-! ## (MtX) A table told by its entries alone: contracts for laws; and the law's own function that fills a table. -/
namespace Go.Rg
open Go.RowKit
section
variable {P : Program} {ops : Array Oper} {w0 : World} {s : Nat → Option SV} {d : Option Tmp} {ty : TypeId} {pos : String} {aft : Array Edge} {g : Option (Nat × Bool)}
theorem ob_loadmid {x : Operand} {t : TypeId} {b o : Nat} {cs : List Value} (hg : gw ops s ⟨d, .load t x, ty, pos, aft, g⟩ = some true) (hx : lk s x = some (.ex (.pointer (some ⟨b, o, none⟩))))
    (hc : ∀ w, Ext w0 w → w.rangeAt b o cs) {D : TypeDesc} (hu : P.underlying t = some D) (hd : D.isRow = true) (hi : (P.info? t).map (·.size) = some cs.length) : Ob P ops w0 ⟨d, .load t x, ty, pos, aft, g⟩ s (.ex (.agg cs.toArray)) :=
  ob_ex1 hg (x := x) rfl hx fun ρ w he h1 => by
    simp only [execOp, h1, Instr.loadAt, Instr.sureAddr, Sem.run_bind, Sem.run_pure, Result.andThen_ok, run_loadVar_mid w b o t cs D (hc w he) hu hd hi]
end
end Go.Rg
namespace Go.Proofs.Ytoonhcmeklmnlaa
open Go.RowKit Go.Rg Go.St

def mkT (es : List KVp) : MT := ⟨[], es, 0, false⟩
def TabAt (B tb : Nat) (fr : Bool) (es : List KVp) (w : World) : Prop := ∃ T M, T.tb = tb ∧ Tab B w T M ∧ M.es = es ∧ M.frozen = fr
theorem TabAt.ext {B tb : Nat} {fr : Bool} {es : List KVp} {w w' : World} (h : TabAt B tb fr es w) (he : Ext w w') : TabAt B tb fr es w' := by
  obtain ⟨T, M, h1, h2, h3⟩ := h
  exact ⟨T, M, h1, h2.ext he, h3⟩
theorem at_new (w : World) : Calls Try.prog 30 #[] w (fun e w' => ∃ tb, e = .returned (.pointer (some ⟨tb, 0, none⟩)) ∧ TabAt w.heap.size tb false [] w' ∧ Ext w w') :=
  (tnew_tab w).mono fun _ _ ⟨T, h1, h2, h3⟩ => ⟨T.tb, h1, ⟨T, _, rfl, h2, rfl, rfl⟩, h3⟩
def AddAt (B tb : Nat) (fr : Bool) (es : List KVp) (k : IKey) (v : ByteArray) (w : World) (e : Ending) (w' : World) : Prop := e = .returned (.int .i64 (addC fr es k v)) ∧ TabAt B tb fr (addE fr es k v) w' ∧ Lo B w w'
theorem at_add {B tb : Nat} {fr : Bool} {es : List KVp} {w : World} (h : TabAt B tb fr es w) (hB : B ≤ w.heap.size) (hl : es.length ≤ 3000000000000) (k : IKey) (v : ByteArray) (h0 : 0 ≤ k.seq) (hu : k.user.size ≤ 9223372036854775807) (hv : v.size ≤ 9223372036854775807) :
    Calls Try.prog 26 #[.pointer (some ⟨tb, 0, none⟩), aKey k, .string v] w (AddAt B tb fr es k v w) := by
  obtain ⟨T, M, rfl, hT, rfl, rfl⟩ := h
  exact (add_tab hT hB hl k v h0 hu hv).mono fun _ _ ⟨h1, T2, M2, t2, h2, h3, h4, h5⟩ => ⟨h1, ⟨T2, M2, t2, h2, h3, h4⟩, h5⟩
theorem at_get {B tb : Nat} {fr : Bool} {es : List KVp} {w : World} (h : TabAt B tb fr es w) (u : ByteArray) (s : Nat) (hu : u.size ≤ 1099511627776) :
    Calls Try.prog 25 #[.pointer (some ⟨tb, 0, none⟩), .string u, .int .u64 s] w (GetPost (mkT es) u s w) := by
  obtain ⟨T, M, rfl, hT, rfl, rfl⟩ := h
  exact get_tab hT u s hu
theorem at_size {B tb : Nat} {fr : Bool} {es : List KVp} {w : World} (h : TabAt B tb fr es w) : Calls Try.prog 27 #[.pointer (some ⟨tb, 0, none⟩)] w (IntExt (sumE es) w) := by
  obtain ⟨T, M, rfl, hT, rfl, rfl⟩ := h
  have := size_in hT.rep
  rw [hT.size] at this
  exact this
theorem at_freeze {B tb : Nat} {fr : Bool} {es : List KVp} {w : World} (h : TabAt B tb fr es w) : Calls Try.prog 34 #[.pointer (some ⟨tb, 0, none⟩)] w (fun e w' => e = .returned (.tuple #[]) ∧ TabAt B tb true es w' ∧ Lo B w w') := by
  obtain ⟨T, M, rfl, hT, rfl, rfl⟩ := h
  exact (freeze_tab hT).mono fun _ _ ⟨h1, h2, h3⟩ => ⟨h1, ⟨T, _, rfl, h2, rfl, rfl⟩, h3⟩
theorem at_all {B tb : Nat} {fr : Bool} {es : List KVp} {w : World} (h : TabAt B tb fr es w) (hl : es.length ≤ 3000000000000) : Calls Try.prog 29 #[.pointer (some ⟨tb, 0, none⟩)] w (AllPost (mkT es) w) := by
  obtain ⟨T, M, rfl, hT, rfl, rfl⟩ := h
  exact (all_in hT.rep hT.full hl).mono fun _ _ ⟨v, out, h1, h2, h3⟩ => ⟨v, out, h1, ⟨h2.mem, h2.ris⟩, h3⟩
theorem TabAt.good {B tb : Nat} {fr : Bool} {es : List KVp} {w : World} (h : TabAt B tb fr es w) : (∀ e, e ∈ es → GoodE e.1 ∧ GoodV e.1 e.2) ∧ (es.map Prod.fst).Nodup := by
  obtain ⟨T, M, _, hT, rfl, _⟩ := h
  exact ⟨fun e he => ⟨hT.full.good e he, hT.full.gv e he⟩, hT.full.uniq⟩

/-! ### a table filled -/
def addAll (es : List KVp) (xs : List KVp) : List KVp := xs.foldl (fun es x => addE false es x.1 x.2) es
theorem addAll_snoc (es xs : List KVp) (x : KVp) : addAll es (xs ++ [x]) = addE false (addAll es xs) x.1 x.2 := by simp [addAll]
theorem addE_len (fr : Bool) (es : List KVp) (k : IKey) (v : ByteArray) : (addE fr es k v).length ≤ es.length + 1 := by
  unfold addE
  split
  · simp
  · omega
theorem addAll_len : ∀ (xs es : List KVp), (addAll es xs).length ≤ es.length + xs.length
  | [], es => by simp [addAll]
  | x :: xs, es => by
    have h1 := addAll_len xs (addE false es x.1 x.2)
    have h2 := addE_len false es x.1 x.2
    show (addAll (addE false es x.1 x.2) xs).length ≤ _
    rw [List.length_cons]
    omega
theorem take_snoc (l : List KVp) (k : Nat) (hk : k < l.length) : l.take (k + 1) = l.take k ++ [nth l k] := by
  rw [List.take_add_one]
  congr 1
  rw [nth_eq l k hk, List.getElem?_eq_getElem hk]
  rfl
/-- what may be said of keys and values that come in -/
def OkKV (x : KVp) : Prop := 0 ≤ x.1.seq ∧ x.1.user.size ≤ 9223372036854775807 ∧ x.2.size ≤ 9223372036854775807
theorem kv_at {w : World} {v : Value} {l : List KVp} (h : SlS w v 4 eKV l) {b off cap : Nat} (hv : v = .slice (some ⟨b, off, none⟩) l.length cap) {k : Nat} (hk : k < l.length) :
    w.rangeAt b (off + k * 4) [.string (nth l k).1.user, .int .u64 (nth l k).1.seq, .int .i64 (nth l k).1.kind] ∧ w.cell? ⟨b, off + k * 4 + 3, none⟩ = some (.string (nth l k).2) := by
  obtain ⟨a, c, e, _, _, h3⟩ := h.ex
  obtain ⟨b', off', rfl, hc⟩ := h3 (by omega)
  rw [hv] at e
  simp only [Value.slice.injEq, Option.some.injEq, Addr.mk.injEq] at e
  obtain ⟨⟨rfl, rfl, _⟩, _⟩ := e
  refine ⟨fun j v hj => ?_, hc k hk 3 (by omega)⟩
  match j, hj with
  | 0, hj => cases hj; exact hc k hk 0 (by omega)
  | 1, hj => cases hj; exact hc k hk 1 (by omega)
  | 2, hj => cases hj; exact hc k hk 2 (by omega)
theorem cf_add (args : Array Value) (w : World) : (callFunc 26 args).run Try.prog w = .ok (.enter 26 args) w := by kernel_rfl
def turnedL (t : Bool) (l : List KVp) : List KVp := if t then l.reverse else l
theorem turnedL_len (t : Bool) (l : List KVp) : (turnedL t l).length = l.length := by unfold turnedL; split <;> simp
theorem nth_turned (l : List KVp) (k : Nat) (hk : k < l.length) : nth (turnedL true l) k = nth l (l.length - 1 - k) := by
  have h1 : k < l.reverse.length := by simpa using hk
  show nth l.reverse k = _
  rw [nth_eq _ _ h1, nth_eq _ _ (by omega), List.getElem_reverse]
def AddedPost (t : Bool) (l : List KVp) (w : World) (e : Ending) (w' : World) : Prop := ∃ tb, e = .returned (.pointer (some ⟨tb, 0, none⟩)) ∧ TabAt w.heap.size tb false (addAll [] (turnedL t l)) w' ∧ Ext w w'
/-- what stands while one is added -/
def AddI (w : World) (B tb : Nat) (es : List KVp) (x : KVp) (b : Bool) (w' : World) : Prop := Ext w w' ∧ B ≤ w'.heap.size ∧ TabAt B tb false (bif b then addE false es x.1 x.2 else es) w'
theorem AddI.ext {w : World} {B tb : Nat} {es : List KVp} {x : KVp} {b : Bool} {w1 w2 : World} (h : AddI w B tb es x b w1) (he : Ext w1 w2) : AddI w B tb es x b w2 := ⟨h.1.tr he, Nat.le_trans h.2.1 he.size, h.2.2.ext he⟩
theorem AddI.call {w : World} {B tb : Nat} {es : List KVp} {x : KVp} (hw : w.heap.size ≤ B) (hl : es.length ≤ 3000000000000) (hx : OkKV x) {w' : World} (h : AddI w B tb es x false w') :
    Calls Try.prog 26 #[.pointer (some ⟨tb, 0, none⟩), aKey x.1, .string x.2] w' (fun e w'' => e = .returned (.int .i64 (addC false es x.1 x.2)) ∧ AddI w B tb es x true w'') :=
  (at_add h.2.2 h.2.1 hl x.1 x.2 hx.1 hx.2.1 hx.2.2).mono fun _ w'' ⟨h1, h2, h3⟩ => ⟨h1, ext_lo h.1 h3 hw, Nat.le_trans h.2.1 h3.size, h2⟩

set_option maxRecDepth 100000 in
set_option maxHeartbeats 1000000 in
theorem added_in (t : Bool) (v : Value) (l : List KVp) (w : World) (h : SlS w v 4 eKV l) (hok : ∀ x, x ∈ l → OkKV x) (hn : l.length ≤ 3000000000000) : Calls Try.prog 24 #[v, .bool t] w (AddedPost t l w) := by
  obtain ⟨a, cap, rfl, hcap, hm, hc⟩ := h.ex
  have H := hid h
  have HOK := hid hok
  unfold maxLen at hm
  clear h hc hok
  go_enter Try.func24, Try.ntmps24
  go_wp2_with fail
  refine (at_new _).mono ?_
  rintro e w1 ⟨tb, rfl, hT, he1⟩
  have T1 := hid hT
  have E1 := hid he1
  clear hT he1
  go_wp2_with fail
  go_loopw [6] (fun k wr => ∃ i : Nat, i ≤ l.length ∧ k = .int .i64 i ∧ Ext w wr ∧ TabAt w.heap.size tb false (addAll [] ((turnedL t l).take i)) wr) (fun k _ => l.length - (intOf k).toNat)
  case atStart => exact ⟨0, Nat.zero_le _, rfl, E1.out, T1.out⟩
  case round =>
    clear T1 E1
    obtain ⟨i, hi, rfl, he, hT⟩ := hrel
    have HE := hid he
    have HT := hid hT
    clear he hT
    by_cases hlt : i < l.length
    · have hbase : ∀ w', Ext w w' → SlS w' (.slice a l.length cap) 4 eKV l := fun w' he => H.out.go (fun _ => rfl) he
      obtain ⟨_, _, hes, _, _, hc⟩ := H.out.ex
      obtain ⟨b, off, ha, _⟩ := hc (by omega)
      simp only [Value.slice.injEq] at hes
      obtain ⟨rfl, _, rfl⟩ := hes
      subst ha
      clear hc
      obtain ⟨j, hj, hjl⟩ : ∃ j : Nat, j < l.length ∧ (nth (turnedL t l) i = nth l j ∧ j = if t then l.length - 1 - i else i) := by
        cases t
        · exact ⟨i, hlt, rfl, rfl⟩
        · exact ⟨_, by omega, nth_turned l i hlt, rfl⟩
      have hslot : (if t then (l.length : Int) - 1 - i else i) = j := by
        rw [hjl.2]
        cases t
        · rfl
        · simp; omega
      have hst := take_snoc (turnedL t l) i (by rw [turnedL_len]; exact hlt)
      rw [hjl.1] at hst
      have hlen : (addAll [] ((turnedL t l).take i)).length ≤ 3000000000000 := by
        have h1 := addAll_len ((turnedL t l).take i) []
        rw [List.length_take, turnedL_len] at h1
        simp at h1
        omega
      have hmem : nth l j ∈ l := nth_mem l j hj
      have HK := hid (HOK.out _ hmem)
      have HST := hid hst
      have HLE := hid hlen
      clear hst hlen hmem hjl
      have HJI := hid (Int.ofNat_lt.2 hj)
      have HAT := hid (fun w' (he : Ext w w') => kv_at (hbase w' he) rfl hj)
      have hI0 := hid (show AddI w w.heap.size tb (addAll [] ((turnedL t l).take i)) (nth l j) false wr from ⟨HE.out, HE.out.size, HT.out⟩)
      have hjn : (j : Int) < l.length := HJI.out
      clear hbase HT
      cases t
      case false =>
        simp only [Bool.false_eq_true, if_false, if_true, ite_true, ite_false] at hslot
        obtain rfl : j = i := by omega
        clear hslot
        go_wp2_with fail
        refine wp_draw1 (AddI w w.heap.size tb (addAll [] ((turnedL false l).take j)) (nth l j)) 11 (by kernel_rfl) (by kernel_rfl) (fun b w w' h he => h.ext he) hI0.out (by rfl) ?_
        refine rg1_step 24 (by rfl) (fun _ _ hi => ob_move (by rfl) (by rfl)) rfl (by rfl) ?_
        refine rg1_step 25 (by rfl) (fun _ _ hi => ob_move (by rfl) (by rfl)) rfl (by rfl) ?_
        refine rg1_step 26 (by rfl) (fun _ _ hi => ob_move (by rfl) (by rfl)) rfl (by rfl) ?_
        refine rg1_step 27 (by rfl) (fun _ _ hi => ob_index 4 (off + j * 4) (by rfl) (by rfl) (by rfl) Try.underlying35 (by kernel_rfl) (Int.natCast_nonneg j) HJI.out (by rw [Int.toNat_natCast])) rfl (by rfl) ?_
        refine rg1_step 28 (by rfl) (fun _ _ hi => ob_field (n := 2) (off + j * 4) 0 42 (by rfl) (by rfl) Try.underlying44 (by rfl) (by kernel_rfl) rfl) rfl (by rfl) ?_
        refine rg1_step 29 (by rfl) (fun _ _ hi => ob_loadmid (cs := [.string (nth l j).1.user, .int .u64 (nth l j).1.seq, .int .i64 (nth l j).1.kind]) (by rfl) (by rfl) (fun _ he => (HAT.out _ (hi.1.tr he)).1) Try.underlying42 rfl (by kernel_rfl)) rfl (by rfl) ?_
        refine rg1_step 30 (by rfl) (fun _ _ hi => ob_move (by rfl) (by rfl)) rfl (by rfl) ?_
        refine rg1_step 31 (by rfl) (fun _ _ hi => ob_move (by rfl) (by rfl)) rfl (by rfl) ?_
        refine rg1_step 32 (by rfl) (fun _ _ hi => ob_index 4 (off + j * 4) (by rfl) (by rfl) (by rfl) Try.underlying35 (by kernel_rfl) (Int.natCast_nonneg j) HJI.out (by rw [Int.toNat_natCast])) rfl (by rfl) ?_
        refine rg1_step 33 (by rfl) (fun _ _ hi => ob_field (n := 0) (off + j * 4 + 3) 3 9 (by rfl) (by rfl) Try.underlying44 (by rfl) (by kernel_rfl) rfl) rfl (by rfl) ?_
        refine rg1_step 34 (by rfl) (fun _ _ hi => ob_load (v := .string (nth l j).2) (by rfl) (by rfl) (by kernel_rfl) (fun _ he => (HAT.out _ (hi.1.tr he)).2)) rfl (by rfl) ?_
        refine rg1_call 35 [.pointer (some ⟨tb, 0, none⟩), aKey (nth l j).1, .string (nth l j).2] cf_add (by rfl) (by rfl) (fun w' hi => AddI.call (Nat.le_refl _) HLE.out HK.out hi) ?_
        refine rg1_end ?_
        intro w4 hi4
        simp only [asg, List.set_cons_zero, List.set_cons_succ, List.map_cons, List.map_nil, opens]
        have HI4 := hid hi4
        clear hi4
        go_wp2_with fail
        go_roundw
        case rel => exact ⟨j + 1, hlt, by go_num, HI4.out.1, by rw [HST.out, addAll_snoc]; exact HI4.out.2.2⟩
        case measure => simp [intOf]; omega
      case true =>
        simp only [Bool.false_eq_true, if_false, if_true, ite_true, ite_false] at hslot
        go_wp2_with fail
        refine wp_draw1 (AddI w w.heap.size tb (addAll [] ((turnedL true l).take i)) (nth l j)) 11 (by kernel_rfl) (by kernel_rfl) (fun b w w' h he => h.ext he) hI0.out (by rfl) ?_
        refine rg1_step 24 (by rfl) (fun _ _ hi => ob_move (by rfl) (by rfl)) rfl (by rfl) ?_
        refine rg1_step 25 (by rfl) (fun _ _ hi => ob_move (by rfl) (by rfl)) rfl (by rfl) ?_
        refine rg1_step 26 (by rfl) (fun _ _ hi => ob_move (by rfl) (by rfl)) rfl (by rfl) ?_
        refine rg1_step 27 (by rfl) (fun _ _ hi => ob_index 4 (off + j * 4) (by rfl) (by rfl) (by rfl) Try.underlying35 (by kernel_rfl) (Int.natCast_nonneg j) HJI.out (by rw [Int.toNat_natCast])) rfl (by rfl) ?_
        refine rg1_step 28 (by rfl) (fun _ _ hi => ob_field (n := 2) (off + j * 4) 0 42 (by rfl) (by rfl) Try.underlying44 (by rfl) (by kernel_rfl) rfl) rfl (by rfl) ?_
        refine rg1_step 29 (by rfl) (fun _ _ hi => ob_loadmid (cs := [.string (nth l j).1.user, .int .u64 (nth l j).1.seq, .int .i64 (nth l j).1.kind]) (by rfl) (by rfl) (fun _ he => (HAT.out _ (hi.1.tr he)).1) Try.underlying42 rfl (by kernel_rfl)) rfl (by rfl) ?_
        refine rg1_step 30 (by rfl) (fun _ _ hi => ob_move (by rfl) (by rfl)) rfl (by rfl) ?_
        refine rg1_step 31 (by rfl) (fun _ _ hi => ob_move (by rfl) (by rfl)) rfl (by rfl) ?_
        refine rg1_step 32 (by rfl) (fun _ _ hi => ob_index 4 (off + j * 4) (by rfl) (by rfl) (by rfl) Try.underlying35 (by kernel_rfl) (Int.natCast_nonneg j) HJI.out (by rw [Int.toNat_natCast])) rfl (by rfl) ?_
        refine rg1_step 33 (by rfl) (fun _ _ hi => ob_field (n := 0) (off + j * 4 + 3) 3 9 (by rfl) (by rfl) Try.underlying44 (by rfl) (by kernel_rfl) rfl) rfl (by rfl) ?_
        refine rg1_step 34 (by rfl) (fun _ _ hi => ob_load (v := .string (nth l j).2) (by rfl) (by rfl) (by kernel_rfl) (fun _ he => (HAT.out _ (hi.1.tr he)).2)) rfl (by rfl) ?_
        refine rg1_call 35 [.pointer (some ⟨tb, 0, none⟩), aKey (nth l j).1, .string (nth l j).2] cf_add (by rfl) (by rfl) (fun w' hi => AddI.call (Nat.le_refl _) HLE.out HK.out hi) ?_
        refine rg1_end ?_
        intro w4 hi4
        simp only [asg, List.set_cons_zero, List.set_cons_succ, List.map_cons, List.map_nil, opens]
        have HI4 := hid hi4
        clear hi4
        go_wp2_with fail
        go_roundw
        case rel => exact ⟨i + 1, hlt, by go_num, HI4.out.1, by rw [HST.out, addAll_snoc]; exact HI4.out.2.2⟩
        case measure => simp [intOf]; omega
    · have : i = l.length := by omega
      subst this
      go_wp2_with fail
      go_ret
      refine ⟨tb, rfl, ?_, HE.out⟩
      have := HT.out
      rw [List.take_of_length_le (by rw [turnedL_len]; exact Nat.le_refl _)] at this
      exact this
end Go.Proofs.Ytoonhcmeklmnlaa

/-! ## (MtY) What is known at a number: plain; the first so many of a slice. -/
namespace Go.Proofs.Ytoonhcmeklmnlaa
open Go.RowKit Go.Rg Go.St

theorem uniq_fst {l : List KVp} (h : (l.map Prod.fst).Nodup) {e x : KVp} (he : e ∈ l) (hx : x ∈ l) (hk : x.1 = e.1) : x = e := by
  induction l with
  | nil => cases he
  | cons a l ih =>
    rw [List.map_cons, List.nodup_cons] at h
    rcases List.mem_cons.1 he with rfl | he'
    · rcases List.mem_cons.1 hx with rfl | hx'
      · rfl
      · exact absurd (List.mem_map.2 ⟨x, hx', hk⟩) h.1
    · rcases List.mem_cons.1 hx with rfl | hx'
      · exact absurd (List.mem_map.2 ⟨e, he', hk.symm⟩) h.1
      · exact ih h.2 he' hx'
/-- what is known is one thing, and hangs on what the number sees alone -/
theorem getOf_one {es es' : List KVp} {u : ByteArray} {s : Int} (hS : ∀ e : KVp, e.1.seq ≤ s → (e ∈ es' ↔ e ∈ es)) (hg : ∀ e, e ∈ es → GoodE e.1) (hu : (es.map Prod.fst).Nodup) {v v' : ByteArray} {n n' : Int} (h : GetOf (mkT es) u s v n) (h' : GetOf (mkT es') u s v' n') : v = v' ∧ n = n' := by
  rcases h with ⟨h1, rfl, rfl⟩ | ⟨e, ⟨hm, hue, hse, hmax⟩, hk⟩
  · rcases h' with ⟨_, rfl, rfl⟩ | ⟨e, ⟨hm, hue, hse, hmax⟩, hk⟩
    · exact ⟨rfl, rfl⟩
    · have := h1 e ((hS e hse).1 hm) hue
      omega
  · rcases h' with ⟨h1, rfl, rfl⟩ | ⟨e', ⟨hm', hue', hse', hmax'⟩, hk'⟩
    · have := h1 e ((hS e hse).2 hm) hue
      omega
    · have h1 := hmax e' ((hS e' hse').1 hm') hue' hse'
      have h2 := hmax' e ((hS e hse).2 hm) hue hse
      have g1 := (hg e hm).2.2.2
      have g2 := (hg e' ((hS e' hse').1 hm')).2.2.2
      have hke : e'.1 = e.1 := by
        obtain ⟨⟨a, b, c⟩, d⟩ := e
        obtain ⟨⟨a', b', c'⟩, d'⟩ := e'
        simp only at *
        subst hue
        subst hue'
        have : b = b' := by omega
        subst this
        have : c = c' := by omega
        subst this
        rfl
      obtain rfl := uniq_fst hu hm ((hS e' hse').1 hm') hke
      rcases hk with ⟨k1, rfl, rfl⟩ | ⟨k1, rfl, rfl⟩ <;> rcases hk' with ⟨k2, rfl, rfl⟩ | ⟨k2, rfl, rfl⟩
      · exact ⟨rfl, rfl⟩
      · omega
      · omega
      · exact ⟨rfl, rfl⟩
theorem mem_addE {fr : Bool} {es : List KVp} {k : IKey} {v : ByteArray} {e : KVp} : e ∈ addE fr es k v ↔ e ∈ es ∨ (addC fr es k v = 0 ∧ e = (k, v)) := by
  unfold addE
  split
  · rename_i h
    simp [h]
  · rename_i h
    simp [h]
theorem slS_take {α : Type} [Inhabited α] {w : World} {a : Option Addr} {m cap sz : Nat} {enc : α → List Value} {xs : List α} (h : SlS w (.slice a m cap) sz enc xs) (n : Nat) (hn : n ≤ xs.length) : SlS w (.slice a n cap) sz enc (xs.take n) := by
  obtain ⟨a', c', e, h0, h1, h2⟩ := h.ex
  simp only [Value.slice.injEq] at e
  obtain ⟨rfl, rfl, rfl⟩ := e
  have hl : (xs.take n).length = n := by rw [List.length_take]; omega
  refine ⟨⟨a, cap, by rw [hl], by omega, h1, fun hp => ?_⟩⟩
  obtain ⟨b, off, e2, hc⟩ := h2 (by omega)
  refine ⟨b, off, e2, fun i hi j hj => ?_⟩
  rw [hc i (by omega) j hj]
  congr 2
  rw [nth_eq _ _ hi, nth_eq _ _ (by omega), List.getElem_take]

/-! ### the order of adding; two lists that are alike -/
def okKV (x : KVp) : Bool := decide (kChk x.1 = 0) && !badV x.1 x.2
theorem addC_zero {es : List KVp} {x : KVp} : addC false es x.1 x.2 = 0 ↔ okKV x = true ∧ ¬ ∃ e, e ∈ es ∧ e.1 = x.1 := by
  unfold addC okKV
  rw [if_neg (by decide)]
  by_cases h1 : kChk x.1 = 0
  · rw [if_neg (by rw [h1]; decide)]
    by_cases h2 : badV x.1 x.2 = true
    · rw [if_pos h2, h2]; simp
    · rw [if_neg h2]
      have h2' : badV x.1 x.2 = false := by simpa using h2
      by_cases h3 : ∃ e, e ∈ es ∧ e.1 = x.1
      · rw [if_pos h3]; simp [h3]
      · rw [if_neg h3]; simp [h1, h2', h3]
  · rw [if_pos h1]; simp [h1]
theorem mem_addAll : ∀ (xs es : List KVp), (∀ a, a ∈ es ++ xs → ∀ b, b ∈ es ++ xs → a.1 = b.1 → a = b) → ∀ e, e ∈ addAll es xs ↔ e ∈ es ∨ (e ∈ xs ∧ okKV e = true)
  | [], es, _, e => by simp [addAll]
  | x :: xs, es, h, e => by
    have hsub : ∀ a, a ∈ addE false es x.1 x.2 ++ xs → a ∈ es ++ x :: xs := fun a ha => by
      rcases List.mem_append.1 ha with ha | ha
      · rcases mem_addE.1 ha with ha | ⟨_, rfl⟩
        · exact List.mem_append_left _ ha
        · exact List.mem_append_right _ (List.mem_cons_self ..)
      · exact List.mem_append_right _ (List.mem_cons_of_mem _ ha)
    show e ∈ addAll (addE false es x.1 x.2) xs ↔ _
    rw [mem_addAll xs _ (fun a ha b hb => h a (hsub a ha) b (hsub b hb)) e, mem_addE, addC_zero, List.mem_cons]
    constructor
    · rintro ((h1 | ⟨⟨h1, _⟩, h2⟩) | ⟨h1, h2⟩)
      · exact .inl h1
      · have : e = x := h2
        subst this
        exact .inr ⟨.inl rfl, h1⟩
      · exact .inr ⟨.inr h1, h2⟩
    · rintro (h1 | ⟨rfl | h1, h2⟩)
      · exact .inl (.inl h1)
      · by_cases h3 : ∃ a, a ∈ es ∧ a.1 = e.1
        · obtain ⟨a, ha, hk⟩ := h3
          have := h a (List.mem_append_left _ ha) e (List.mem_append_right _ (List.mem_cons_self ..)) hk
          rw [← this]
          exact .inl (.inl ha)
        · exact .inl (.inr ⟨⟨h2, h3⟩, rfl⟩)
      · exact .inr ⟨h1, h2⟩
theorem sumE_cons (x : KVp) (l : List KVp) : sumE (x :: l) = roomE x.1 x.2 + sumE l := by simp [sumE]
theorem sumE_perm {a b : List KVp} (h : a.Perm b) : sumE a = sumE b := by
  induction h with
  | nil => rfl
  | cons x _ ih => rw [sumE_cons, sumE_cons, ih]
  | swap x y l => rw [sumE_cons, sumE_cons, sumE_cons, sumE_cons]; omega
  | trans _ _ h1 h2 => exact h1.trans h2
theorem nodup_of_keys {l : List KVp} (h : (l.map Prod.fst).Nodup) : l.Nodup := by
  rw [List.Nodup, List.pairwise_map] at h
  exact h.imp fun hab e => hab (by rw [e])
theorem sumE_same {a b : List KVp} (ha : (a.map Prod.fst).Nodup) (hb : (b.map Prod.fst).Nodup) (h : ∀ e, e ∈ a ↔ e ∈ b) : sumE a = sumE b :=
  sumE_perm ((List.perm_ext_iff_of_nodup (nodup_of_keys ha) (nodup_of_keys hb)).2 h)
/-- rising lists of the same entries are one list -/
theorem rising_one : ∀ {a b : List KVp}, a.Pairwise (fun x y => kl (keyT x.1) (keyT y.1) = true) → b.Pairwise (fun x y => kl (keyT x.1) (keyT y.1) = true) → (∀ e, e ∈ a ↔ e ∈ b) → a = b
  | [], [], _, _, _ => rfl
  | [], y :: b, _, _, h => by have := (h y).2 (List.mem_cons_self ..); cases this
  | x :: a, [], _, _, h => by have := (h x).1 (List.mem_cons_self ..); cases this
  | x :: a, y :: b, ha, hb, h => by
    rw [List.pairwise_cons] at ha hb
    have hxy : x = y := by
      rcases List.mem_cons.1 ((h x).1 (List.mem_cons_self ..)) with e | h1
      · exact e
      · rcases List.mem_cons.1 ((h y).2 (List.mem_cons_self ..)) with e | h2
        · exact e.symm
        · have k1 := hb.1 x h1
          have k2 := ha.1 y h2
          rw [kl_asymm k1] at k2; cases k2
    subst hxy
    congr 1
    refine rising_one ha.2 hb.2 fun e => ⟨fun he => ?_, fun he => ?_⟩
    · rcases List.mem_cons.1 ((h e).1 (List.mem_cons_of_mem _ he)) with rfl | h1
      · have := ha.1 e he
        rw [kl_irrefl] at this; cases this
      · exact h1
    · rcases List.mem_cons.1 ((h e).2 (List.mem_cons_of_mem _ he)) with rfl | h1
      · have := hb.1 e he
        rw [kl_irrefl] at this; cases this
      · exact h1
theorem all_one {es es' : List KVp} (h : ∀ e, e ∈ es ↔ e ∈ es') {out out' : List KVp} (ha : AllOf (mkT es) out) (hb : AllOf (mkT es') out') : out = out' :=
  rising_one ha.ris hb.ris fun e => (ha.mem e).trans ((h e).trans (hb.mem e).symm)

/-! ### alike -/
theorem kv_neq (x : KVp) (w : World) : (binOp .neq 44 (.agg #[.string x.1.user, .int .u64 x.1.seq, .int .i64 x.1.kind, .string x.2]) (.agg #[.string x.1.user, .int .u64 x.1.seq, .int .i64 x.1.kind, .string x.2])).run Try.prog w = .ok (.bool false) w := by
  have hS : Try.prog.underlying 44 = some (.struct (Try.prog.fieldsOf 44)) := by kernel_rfl
  have hp : Try.prog.stoodInHeld 44 = false := by kernel_rfl
  have hS2 : Try.prog.underlying 42 = some (.struct (Try.prog.fieldsOf 42)) := by kernel_rfl
  have hp2 : Try.prog.stoodInHeld 42 = false := by kernel_rfl
  have u1 := Try.underlying3
  have u2 := Try.underlying36
  have u3 := Try.underlying9
  have a1 := Try.isAgg3
  have a2 := Try.isAgg36
  have a3 := Try.isAgg9
  have z1 := Try.sizeOf3
  have z2 := Try.sizeOf36
  have z3 := Try.sizeOf9
  have a4 := Try.isAgg42
  have z4 := Try.sizeOf42
  have e4 := fun (xs ys : Array Value) (w : World) => run_equalIn_agg (P := Try.prog) w 9998 42 xs ys hS2 hp2
  rw [run_neq_struct, show (10000 : Nat) = 9999 + 1 from rfl, run_equalIn_agg w 9999 44 _ _ hS hp]
  simp only [Program.fieldsOf, Try.underlying44, Try.underlying42] at e4 ⊢
  go_simp
theorem kv_cells {w : World} {v : Value} {l : List KVp} (h : SlS w v 4 eKV l) {b off cap : Nat} (hv : v = .slice (some ⟨b, off, none⟩) l.length cap) {k : Nat} (hk : k < l.length) :
    w.cell? ⟨b, off + k * 4, none⟩ = some (.string (nth l k).1.user) ∧ w.cell? ⟨b, off + k * 4 + 1, none⟩ = some (.int .u64 (nth l k).1.seq) ∧ w.cell? ⟨b, off + k * 4 + 2, none⟩ = some (.int .i64 (nth l k).1.kind) ∧ w.cell? ⟨b, off + k * 4 + 3, none⟩ = some (.string (nth l k).2) := by
  obtain ⟨h1, h2⟩ := kv_at h hv hk
  exact ⟨h1 0 _ rfl, h1 1 _ rfl, h1 2 _ rfl, h2⟩
set_option maxHeartbeats 1000000 in
theorem same_in (va vb : Value) (l : List KVp) (w : World) (ha : SlS w va 4 eKV l) (hb : SlS w vb 4 eKV l) : Calls Try.prog 28 #[va, vb] w (TrueExt w) := by
  obtain ⟨a, cap, rfl, hcap, hm, hc⟩ := ha.ex
  obtain ⟨a', cap', rfl, hcap', hm', hc'⟩ := hb.ex
  unfold maxLen at hm hm'
  have HA := hid ha
  have HB := hid hb
  have HC := hid hc
  have HC' := hid hc'
  clear hc hc' ha hb
  have hne := kv_neq
  go_enter Try.func28, Try.ntmps28
  go_wp2
  go_loopw [5] (fun i wr => ∃ k : Nat, k ≤ l.length ∧ i = .int .i64 k ∧ Ext w wr) (fun i _ => l.length - (intOf i).toNat)
  case atStart => exact ⟨0, Nat.zero_le _, rfl, Ext.rfl _⟩
  case round =>
    obtain ⟨k, hk, rfl, he⟩ := hrel
    have HE := hid he
    clear he
    by_cases hlt : k < l.length
    · obtain ⟨b1, off, rfl, _⟩ := HC.out (by omega)
      obtain ⟨b2, off', rfl, _⟩ := HC'.out (by omega)
      obtain ⟨c0, c1, c2, c3⟩ := kv_cells (HA.out.go (fun _ => rfl) HE.out) rfl hlt
      obtain ⟨d0, d1, d2, d3⟩ := kv_cells (HB.out.go (fun _ => rfl) HE.out) rfl hlt
      go_wp2_with fail
      go_quiet (fail)
      go_wp2
      go_roundw
      case rel => exact ⟨k + 1, by omega, by go_num, HE.out.drN _⟩
      case measure => simp [intOf]; omega
    · have : k = l.length := by omega
      subst this
      go_wp2
      go_ret
      exact ⟨rfl, HE.out⟩
end Go.Proofs.Ytoonhcmeklmnlaa
