/- A file taken away from the set. -/
import Derived.Test.YtoonhcmeklmnlaaVr6
import Derived.Test.YtoonhcmeklmnlaaRgV
import Derived.Deep.RegionHeld3
import Derived.Deep.AppendLies
import Derived.IntWalk
set_option linter.unusedSimpArgs false
set_option linter.unusedVariables false
set_option linter.unnecessarySimpa false
namespace Go.Proofs.Ytoonhcmeklmnlaa
open Go.RowKit Go.Rg Go.St

theorem run_slF_h (a : Option Addr) (n c k : Nat) (h1 : k ≤ c) (w : World) :
    (Instr.sliceAt 64 (.slice a n c) none (some (.int .i64 (k : Int))) none).run Try.prog w = .ok (.slice a k c) w := by
  have h0 : (0 : Int) ≤ (k : Int) := Int.natCast_nonneg k
  have h2 : (k : Int) ≤ (c : Int) := by omega
  simp [go_sem, h0, h2, Try.underlying64]
theorem run_slF_l (b o n c : Nat) (z : Int) (k : Nat) (hz : z = k) (h1 : k ≤ n) (hc : ¬ c = k) (w : World) :
    (Instr.sliceAt 64 (.slice (some ⟨b, o, none⟩) n c) (some (.int .i64 z)) none none).run Try.prog w = .ok (.slice (some ⟨b, o + k * 9, none⟩) (n - k) (c - k)) w := by
  subst hz
  have h0 : (0 : Int) ≤ (k : Int) := Int.natCast_nonneg k
  have h2 : (k : Int) ≤ (n : Int) := by omega
  simp [go_sem, h0, h2, hc, Try.underlying64]
theorem run_slF_l0 (b o n : Nat) (z : Int) (k c : Nat) (hz : z = k) (h1 : k ≤ n) (hc : c = k) (w : World) :
    (Instr.sliceAt 64 (.slice (some ⟨b, o, none⟩) n c) (some (.int .i64 z)) none none).run Try.prog w = .ok (.slice (some ⟨b, o, none⟩) (n - k) 0) w := by
  subst hz
  subst hc
  have h0 : (0 : Int) ≤ (c : Int) := Int.natCast_nonneg c
  have h2 : (c : Int) ≤ (n : Int) := by omega
  simp [go_sem, h0, h2, Try.underlying64]
theorem run_setF (sb n : Nat) (p : Option Addr) (l c : Nat) (u : Value) (w : World) (hc : w.cell? ⟨sb, n, none⟩ = some u) (hf : w.frozen? ⟨sb, n, none⟩ = false) :
    (Instr.storeAt 64 (.pointer (some ⟨sb, n, none⟩)) (.slice p l c)).run Try.prog w = .ok () (w.setCell ⟨sb, n, none⟩ (.slice p l c)) := by
  simp [go_sem, Instr.storeAt, Instr.sureAddr, hc, hf, Try.underlying64, Try.isAgg64]
theorem run_slF_from (b o n c : Nat) (z : Int) (k : Nat) (hz : z = k) (h1 : k ≤ n) (hnc : n ≤ c) : ∃ X c', (∀ w, (Instr.sliceAt 64 (.slice (some ⟨b, o, none⟩) n c) (some (.int .i64 z)) none none).run Try.prog w = .ok (.slice (some ⟨b, X, none⟩) (n - k) c') w) ∧ (k < n → X = o + k * 9) := by
  by_cases hc : c = k
  · exact ⟨o, 0, fun w => run_slF_l0 b o n z k c hz h1 hc w, fun h => by omega⟩
  · exact ⟨o + k * 9, c - k, fun w => run_slF_l b o n c z k hz h1 hc w, fun _ => rfl⟩
section
variable {ops : Array Oper} {w0 : World} {s : Nat → Option SV} {d : Option Tmp} {ty : TypeId} {pos : String} {aft : Array Edge} {g : Option (Nat × Bool)}
theorem ob_slF_h {x y : Operand} {a : Option Addr} {n c k : Nat} (hg : gw ops s ⟨d, .slice 64 x none (some y) none, ty, pos, aft, g⟩ = some true) (hx : lk s x = some (.ex (.slice a n c))) (hy : lk s y = some (.ex (.int .i64 (k : Int)))) (h : k ≤ c) :
    Ob Try.prog ops w0 ⟨d, .slice 64 x none (some y) none, ty, pos, aft, g⟩ s (.ex (.slice a k c)) :=
  ob_ex2 hg (x := x) (y := y) rfl hx hy fun ρ w _ h1 h2 => by
    simp only [execOp, Option.map, h1, h2, Sem.run_bind, run_slF_h a n c k h, Result.andThen_ok, Sem.run_pure]
theorem ob_slF_l {x y : Operand} {v v' : Value} {z : Int} (hg : gw ops s ⟨d, .slice 64 x (some y) none none, ty, pos, aft, g⟩ = some true) (hx : lk s x = some (.ex v)) (hy : lk s y = some (.ex (.int .i64 z)))
    (hr : ∀ w, (Instr.sliceAt 64 v (some (.int .i64 z)) none none).run Try.prog w = .ok v' w) :
    Ob Try.prog ops w0 ⟨d, .slice 64 x (some y) none none, ty, pos, aft, g⟩ s (.ex v') :=
  ob_ex2 hg (x := x) (y := y) rfl hx hy fun ρ w _ h1 h2 => by
    simp only [execOp, Option.map, h1, h2, Sem.run_bind, hr, Result.andThen_ok, Sem.run_pure]
theorem ob_func1 {x : Operand} {f : FuncId} {v : Value} (hg : gw ops s ⟨d, .makeFunc (.func f) #[] #[x], ty, pos, aft, g⟩ = some true) (hx : lk s x = some (.ex v)) :
    Ob Try.prog ops w0 ⟨d, .makeFunc (.func f) #[] #[x], ty, pos, aft, g⟩ s (.ex (.func (.func f) #[] #[v])) :=
  ob_ex1 hg (x := x) rfl hx fun ρ w _ h1 => by
    simp [execOp, Instr.makeFunc, h1]
end
theorem exec_build0 (ρ : Operand → Value) (w : World) (d : Option Tmp) (ty : TypeId) (pos : String) (aft : Array Edge) (g : Option (Nat × Bool)) : (execOp ρ ⟨d, .buildSlice 64 0 #[], ty, pos, aft, g⟩).run Try.prog w = .ok (.value (.slice (some ⟨w.heap.size, 0, none⟩) 0 0)) (w.alloc (.cells #[] 80)) := by kernel_rfl
/-- append of what lies in memory to a row of the call's own: its run -/
theorem run_app {w : World} {T E : TypeId} {sz bt : Nat} (hT : ElT Try.prog T E sz bt) (ty : TypeId) {base : Nat} {v : Value} {n : Nat} {xs : List Value} (hown : w.ownsRow base E sz v n xs)
    {ad : Addr} {m : Nat} (c : Nat) {news : List Value} (hl : news.length = m * sz) (hnews : ∀ j u, news[j]? = some u → w.cell? (ad.add j) = some u) (h1 : ∀ u ∈ news, u.oneCell' = true)
    (hbytes : (n + m) * bt ≤ 140737488355328) (hbase : base ≤ w.heap.size) :
    ∃ av cv w', (Builtin.append_ #[T, T] ty #[v, .slice (some ad) m c]).run Try.prog w = .ok (.slice av (n + m) cv) w' ∧ w'.ownsRow base E sz (.slice av (n + m) cv) (n + m) (xs ++ news) ∧ Below base w w' := by
  obtain ⟨i, z, hi, hz, h2, h3, h4⟩ := hT.parts
  have hm : n + m ≤ maxLen := by
    have := Nat.le_trans (Nat.le_mul_of_pos_right (n + m) hT.bpos) hbytes
    simp only [maxLen]; omega
  obtain ⟨v', w', hr, k1, k2, k3⟩ := run_append_own (w := w) base T ty E i z sz bt hT.und hi hz h2 h3 h4 hT.pos v n xs hown ad m c news hl hnews h1 hm hbytes hbase
  have hb := below_grown hown hbase k2
  rcases k1.2 with ⟨e1, e2⟩ | ⟨g, cap, cur, e1, rest⟩
  · have e3 : v' = .slice none (n + m) 0 := by rw [e2]; exact e1
    rw [e3] at k1 hr
    exact ⟨_, _, _, hr, k1, hb⟩
  · rw [e1] at k1 hr
    exact ⟨_, _, _, hr, k1, hb⟩
theorem exec_app {ρ : Operand → Value} {w w' : World} {d : Option Tmp} {s x : Operand} {T ty : TypeId} {pos : String} {aft : Array Edge} {g : Option (Nat × Bool)} {v u r : Value} (hs : ρ s = v) (hx : ρ x = u)
    (hr : (Builtin.append_ #[T, T] ty #[v, u]).run Try.prog w = .ok r w') : (execOp ρ ⟨d, .call ⟨.builtin .append, #[s, x], #[T, T]⟩, ty, pos, aft, g⟩).run Try.prog w = .ok (.value r) w' := by
  simp [execOp, resolve, invoke, builtin, hs, hx, hr, Result.andThen]
theorem exec_store {ρ : Operand → Value} {w w' : World} {d : Option Tmp} {p x : Operand} {T ty : TypeId} {pos : String} {aft : Array Edge} {g : Option (Nat × Bool)} {v u : Value} (hs : ρ p = v) (hx : ρ x = u)
    (hr : (Instr.storeAt T v u).run Try.prog w = .ok () w') : (execOp ρ ⟨d, .store T p x, ty, pos, aft, g⟩).run Try.prog w = .ok .skip w' := by
  simp [execOp, hs, hx, hr, Result.andThen]

theorem below_cell {B : Nat} {w w' : World} (h : Below B w w') {b o : Nat} {v : Value} (hb : b < B) (hc : w.cell? ⟨b, o, none⟩ = some v) : w'.cell? ⟨b, o, none⟩ = some v := (h.cell (p := ⟨b, o, none⟩) hb).trans hc
theorem below_fr {B : Nat} {w w' : World} (h : Below B w w') {b o : Nat} {v : Bool} (hb : b < B) (hc : w.frozen? ⟨b, o, none⟩ = v) : w'.frozen? ⟨b, o, none⟩ = v := (h.frozen (p := ⟨b, o, none⟩) hb).trans hc
theorem slF_part {w : World} {a : Option Addr} {cap : Nat} {xs : List File} (h : SlFile w (.slice a xs.length cap) xs) {k : Nat} (hk : k < xs.length) :
    ∃ b off, a = some ⟨b, off, none⟩ ∧ b < w.heap.size ∧ (∀ w', Below w.heap.size w w' → ∀ j u, ((xs.take k).flatMap eFile)[j]? = some u → w'.cell? ((⟨b, off, none⟩ : Addr).add j) = some u) ∧
      (∀ w', Below w.heap.size w w' → ∀ j u, ((xs.drop (k + 1)).flatMap eFile)[j]? = some u → w'.cell? ((⟨b, off + (k + 1) * 9, none⟩ : Addr).add j) = some u) := by
  obtain ⟨a', cap', e, h0, h1, h2⟩ := h.ex
  cases e
  obtain ⟨b, off, e2, hc⟩ := h2 (by omega)
  have hlt : b < w.heap.size := by
    have := hc 0 (by omega) 0 (by omega)
    exact cell_lt (v := .int .i64 (nth xs 0).level) this
  refine ⟨b, off, e2, hlt, fun w' he => ?_, fun w' he => ?_⟩
  · refine slF_news rfl fun i hi j hj => ?_
    rw [List.length_take] at hi
    rw [show nth (xs.take k) i = nth xs i by simp [nth, List.getElem?_take, show i < k by omega]]
    exact ext_cellq he (hc i (by omega) j hj) hj rfl
  · refine slF_news rfl fun i hi j hj => ?_
    rw [List.length_drop] at hi
    rw [show nth (xs.drop (k + 1)) i = nth xs (k + 1 + i) by simp [nth, List.getElem?_drop], show off + (k + 1) * 9 + i * 9 + j = off + (k + 1 + i) * 9 + j by rw [Nat.add_mul (k + 1) i 9]; omega]
    exact ext_cellq he (hc (k + 1 + i) (by omega) j hj) hj rfl

theorem put_at {a : Act} {t : Nat} {v : Value} {N : Nat} (hN : a.tmps.size = N) (ht : t < N) : slot (a.put (some t) v) t = v := by
  have : t < a.tmps.size := by omega
  simp [slot, Act.put, this]
theorem put_far {a : Act} {t u : Nat} {v : Value} (h : t ≠ u) : slot (a.put (some t) v) u = slot a u := by
  simp [slot, Act.put, h]

def DropI (w2 : World) (sb n k r : Nat) (A1 A2 : List Value) (S' : Lv) (L : Nat → Bool) (f : Tmp → Value) (w : World) : Prop :=
  (L 25 = false → Below w2.heap.size w2 w) ∧
  (L 3 = true → L 12 = false → w.ownsRow w2.heap.size 80 9 (f 19) 0 []) ∧
  (L 12 = true → L 22 = false → ∃ av cv, f 28 = .slice av (0 + k) cv ∧ w.ownsRow w2.heap.size 80 9 (.slice av (0 + k) cv) (0 + k) ([] ++ A1)) ∧
  (L 22 = true → L 25 = false → ∃ av cv, f 38 = .slice av (0 + k + r) cv ∧ w.ownsRow w2.heap.size 80 9 (.slice av (0 + k + r) cv) (0 + k + r) ([] ++ A1 ++ A2)) ∧
  (L 25 = true → SetAt w sb S' ∧ Below sb w2 w)
theorem DropI.start {w2 w' : World} {sb n k r : Nat} {A1 A2 : List Value} {S' : Lv} {f : Tmp → Value} (he : Ext w2 w') : DropI w2 sb n k r A1 A2 S' (fun _ => false) f w' := by
  simp [DropI]
  exact he
theorem DropI.keep {w2 : World} {sb n k r : Nat} {A1 A2 : List Value} {S' : Lv} {i : Nat} (h3 : i ≠ 3) (h12 : i ≠ 12) (h22 : i ≠ 22) (h25 : i ≠ 25) :
    ∀ L f g w w', (∀ t ∈ [19, 28, 38], f t = g t) → DropI w2 sb n k r A1 A2 S' L f w → Ext w w' → DropI w2 sb n k r A1 A2 S' (setL L i) g w' := by
  intro L f g w w' hfg ⟨q1, q2, q3, q4, q5⟩ he
  have e : ∀ j, j ≠ i → setL L i j = L j := fun j hj => by simp [setL, hj]
  unfold DropI
  rw [e 3 (Ne.symm h3), e 12 (Ne.symm h12), e 22 (Ne.symm h22), e 25 (Ne.symm h25), ← hfg 19 (by simp), ← hfg 28 (by simp), ← hfg 38 (by simp)]
  refine ⟨fun h => Ext.tr (q1 h) he, fun a b => owns_ext (q2 a b) he, fun a b => ?_, fun a b => ?_, fun h => ⟨(q5 h).1.ext he, Below.trans (q5 h).2 (Below.mono he (Nat.le_of_lt (q5 h).1.lt))⟩⟩
  · obtain ⟨av, cv, x1, x2⟩ := q3 a b
    exact ⟨av, cv, x1, owns_ext x2 he⟩
  · obtain ⟨av, cv, x1, x2⟩ := q4 a b
    exact ⟨av, cv, x1, owns_ext x2 he⟩
theorem DropI.build {w2 w : World} {sb n k r : Nat} {A1 A2 : List Value} {S' : Lv} {L : Nat → Bool} {a : Act} (h : DropI w2 sb n k r A1 A2 S' L (slot a) w) (h25 : L 25 = false) (hN : a.tmps.size = 41) :
    DropI w2 sb n k r A1 A2 S' (setL L 3) (slot (a.put (some 19) (.slice (some ⟨w.heap.size, 0, none⟩) 0 0))) (w.alloc (.cells #[] 80)) := by
  obtain ⟨q1, q2, q3, q4, q5⟩ := h
  have hb := q1 h25
  have hx : Ext w (w.alloc (.cells #[] 80)) := (Ext.rfl w).al _
  unfold DropI
  rw [put_at hN (by decide), put_far (by decide), put_far (by decide)]
  simp only [setL, show (12 = 3) = False by simp, show (22 = 3) = False by simp, show (25 = 3) = False by simp, if_false, if_true]
  refine ⟨fun _ => Ext.tr hb hx, fun _ _ => owns_new w #[] _ 0 9 _ rfl hb.size (by decide), fun a b => ?_, fun a b => ?_, fun h => by rw [h25] at h; cases h⟩
  · obtain ⟨av, cv, x1, x2⟩ := q3 a b
    exact ⟨av, cv, x1, owns_ext x2 hx⟩
  · obtain ⟨av, cv, x1, x2⟩ := q4 a b
    exact ⟨av, cv, x1, owns_ext x2 hx⟩
theorem DropI.app1 {w2 w w' : World} {sb n k r : Nat} {A1 A2 : List Value} {S' : Lv} {L : Nat → Bool} {a : Act} (h : DropI w2 sb n k r A1 A2 S' L (slot a) w) (h25 : L 25 = false) (h22 : L 22 = false) (hN : a.tmps.size = 41) {av : Option Addr} {cv : Nat}
    (hown : w'.ownsRow w2.heap.size 80 9 (.slice av (0 + k) cv) (0 + k) ([] ++ A1)) (hb : Below w2.heap.size w w') :
    DropI w2 sb n k r A1 A2 S' (setL L 12) (slot (a.put (some 28) (.slice av (0 + k) cv))) w' := by
  obtain ⟨q1, q2, q3, q4, q5⟩ := h
  unfold DropI
  rw [put_at hN (by decide), put_far (by decide), put_far (by decide)]
  simp only [setL, show (3 = 12) = False by simp, show (22 = 12) = False by simp, show (25 = 12) = False by simp, if_false, if_true]
  refine ⟨fun _ => Below.trans (q1 h25) hb, ?_, fun _ _ => ⟨av, cv, rfl, hown⟩, ?_, ?_⟩
  · intro _ h; cases h
  · intro h; rw [h22] at h; cases h
  · intro h; rw [h25] at h; cases h
theorem DropI.app2 {w2 w w' : World} {sb n k r : Nat} {A1 A2 : List Value} {S' : Lv} {L : Nat → Bool} {a : Act} (h : DropI w2 sb n k r A1 A2 S' L (slot a) w) (h25 : L 25 = false) (h12 : L 12 = true) (hN : a.tmps.size = 41) {av : Option Addr} {cv : Nat}
    (hown : w'.ownsRow w2.heap.size 80 9 (.slice av (0 + k + r) cv) (0 + k + r) ([] ++ A1 ++ A2)) (hb : Below w2.heap.size w w') :
    DropI w2 sb n k r A1 A2 S' (setL L 22) (slot (a.put (some 38) (.slice av (0 + k + r) cv))) w' := by
  obtain ⟨q1, q2, q3, q4, q5⟩ := h
  unfold DropI
  rw [put_at hN (by decide), put_far (by decide), put_far (by decide)]
  simp only [setL, show (3 = 22) = False by simp, show (12 = 22) = False by simp, show (25 = 22) = False by simp, if_false, if_true]
  refine ⟨fun _ => Below.trans (q1 h25) hb, ?_, ?_, fun _ _ => ⟨av, cv, rfl, hown⟩, ?_⟩
  · intro _ h; rw [h12] at h; cases h
  · intro _ h; cases h
  · intro h; rw [h25] at h; cases h

theorem DropI.store {w2 w : World} {sb n k r : Nat} {A1 A2 : List Value} {S' : Lv} {L : Nat → Bool} {f : Tmp → Value} (h : SetAt w sb S') (hb : Below sb w2 w) (h22 : L 22 = true := by assumption) (h12 : L 12 = true := by assumption) :
    DropI w2 sb n k r A1 A2 S' (setL L 25) f w := by
  unfold DropI
  simp only [setL, show (3 = 25) = False by simp, show (12 = 25) = False by simp, show (22 = 25) = False by simp, if_false, if_true]
  refine ⟨?_, ?_, ?_, ?_, fun _ => ⟨h, hb⟩⟩
  · intro h; cases h
  · intro _ h; rw [h12] at h; cases h
  · intro _ h; rw [h22] at h; cases h
  · intro _ h; cases h
theorem slF_of {w : World} {B : Nat} {v : Value} {m : Nat} {xs ys zs : List File} (h : w.ownsRow B 80 9 v m ([] ++ xs.flatMap eFile ++ ys.flatMap eFile)) (hz : zs = xs ++ ys) (hm : m = (xs ++ ys).length) : SlFile w v zs := by
  subst hz
  subst hm
  rw [List.nil_append, ← List.flatMap_append] at h
  exact OwnFiles.sl h

def DropP (sb : Nat) (S : Lv) (d : Gone) (w : World) (e : Ending) (w' : World) : Prop :=
  (hasNum d.num (S d.level.toNat) = false ∧ e = .returned (.bool false) ∨ hasNum d.num (S d.level.toNat) = true ∧ e = .returned (.bool true) ∧ SetAt w' sb (upd S d.level.toNat (remF d.num (S d.level.toNat)))) ∧
  Below sb w w'
set_option maxRecDepth 100000 in
set_option maxHeartbeats 4000000 in
theorem drop_in (sb : Nat) (S : Lv) (n : Nat) (num : Int) (w : World) (h : SetAt w sb S) (hu : UniqS S) (hn : n < 4) (hl : (S n).length ≤ 1000000) :
    Calls Try.prog 74 #[.pointer (some ⟨sb, 0, none⟩), .agg #[.int .i64 n, .int .u64 num]] w (DropP sb S ⟨n, num⟩ w) := by
  obtain ⟨v, c0, f0, hv⟩ := h.at hn
  have hsb := h.lt
  obtain ⟨a, cap, rfl, hcap, hm, hc⟩ := hv.ex
  unfold maxLen at hm
  have hn0 : (0 : Int) ≤ (n : Int) := Int.natCast_nonneg _
  have hn4 : (n : Int) < 4 := by omega
  have HS := hid h
  have HV := hid hv
  have HU := hid (hu n hn)
  clear h hv hc hu
  have DP := hid (fun W (db : Nat) T hd => drop1_on db (n : Int) num T W hd)
  have hix := hasNum_idx num (S n)
  have hia := remF_at num (S n) HU.out
  have hiv : idxV (fun f => decide (f.num = num)) (S n) = if (S n).findIdx (fun f => decide (f.num = num)) < (S n).length then (((S n).findIdx (fun f => decide (f.num = num)) : Nat) : Int) else -1 := rfl
  generalize (S n).findIdx (fun f => decide (f.num = num)) = k at *
  cases hb : hasNum num (S n)
  · have hk : ¬ k < (S n).length := fun h => by rw [hix.1 h] at hb; cases hb
    rw [if_neg hk] at hiv
    have HI := hid hiv
    have HB := hid hb
    clear hiv hix hia hb hk
    go_enter Try.func74, Try.ntmps74
    go_wp2_with fail
    go_region_held3 (fun w' => w'.cell? ⟨sb, n, none⟩ = some (.slice a (S n).length cap) ∧ w'.cell? ⟨w.heap.size, 0, none⟩ = some (.int .i64 n)) (first | go_keep | (go_split_ands; exact ⟨ext_cell he2 (by assumption), ext_cell he2 (by assumption)⟩))
      (first | (go_at_call 96; refine (index_in _ _ _ _ _ _ (HV.out.file (((Ext.rfl w).al _).drN 1)) (DP.out _ w.heap.size _ (heap_alloc_new w _)) ent_drop).mono ?_; rintro e w2 ⟨rfl, he2⟩))
    have E2 := hid ((((Ext.rfl w).al (Obj.cells #[Value.int IntKind.i64 ↑n, Value.int IntKind.u64 num] 97)).drN 1).tr he2)
    rw [HI.out]
    clear he2
    go_wp2_with fail
    go_ret
    exact ⟨.inl ⟨HB.out, rfl⟩, Below.mono E2.out (by omega)⟩
  · have hk : k < (S n).length := hix.2 hb
    rw [if_pos hk] at hiv
    have HI := hid hiv
    have HB := hid hb
    have HA := hid (hia hk)
    clear hiv hix hia hb
    go_enter Try.func74, Try.ntmps74
    go_wp2_with fail
    go_region_held3 (fun w' => w'.cell? ⟨sb, n, none⟩ = some (.slice a (S n).length cap) ∧ w'.cell? ⟨w.heap.size, 0, none⟩ = some (.int .i64 n)) (first | go_keep | (go_split_ands; exact ⟨ext_cell he2 (by assumption), ext_cell he2 (by assumption)⟩))
      (first | (go_at_call 96; refine (index_in _ _ _ _ _ _ (HV.out.file (((Ext.rfl w).al _).drN 1)) (DP.out _ w.heap.size _ (heap_alloc_new w _)) ent_drop).mono ?_; rintro e w2 ⟨rfl, he2⟩))
    have E2 := hid ((((Ext.rfl w).al (Obj.cells #[Value.int IntKind.i64 ↑n, Value.int IntKind.u64 num] 97)).drN 1).tr he2)
    have hgd : w2.cell? ⟨w.heap.size, 0, none⟩ = some (.int .i64 n) := ext_cell he2 (by simp)
    have hsz : w.heap.size < w2.heap.size := cell_lt hgd
    have S2 := hid (HS.out.ext E2.out)
    have hcs : w2.cell? ⟨sb, n, none⟩ = some (.slice a (S n).length cap) := ext_cell E2.out c0
    have hfs : w2.frozen? ⟨sb, n, none⟩ = false := below_fr E2.out hsb f0
    obtain ⟨b, off, rfl, hbl, hT, hD⟩ := slF_part (HV.out.file E2.out) hk
    have HT := hid hT
    have HD := hid hD
    have hw1 : IntKind.i64.wrap ((k : Int) + 1) = (k : Int) + 1 := IntWalk.i64_in _ (by omega)
    rw [HI.out]
    clear he2 c0 f0 hT hD HI
    have HE2 := hid (Below.mono E2.out (Nat.le_of_lt hsb))
    generalize w.heap.size = gd at *
    have hk0 : (0 : Int) ≤ (k : Int) := Int.natCast_nonneg _
    have hsb2 : sb < w2.heap.size := cell_lt hcs
    have HLT := hid (show (((S n).take k).flatMap eFile).length = k * 9 by rw [flat_len, List.length_take]; congr 1; omega)
    have HLD := hid (show (((S n).drop (k + 1)).flatMap eFile).length = ((S n).length - (k + 1)) * 9 by rw [flat_len, List.length_drop])
    have HBT := hid (show (0 + k) * 88 ≤ 140737488355328 by omega)
    have HBD := hid (show (0 + k + ((S n).length - (k + 1))) * 88 ≤ 140737488355328 by omega)
    obtain ⟨X, c', hX, hXo⟩ := run_slF_from b off (S n).length cap ((k : Int) + 1) (k + 1) (by omega) (by omega) hcap
    have HXR := hid hX
    have HXO := hid hXo
    have HDX := hid (fun (w' : World) (he : Below w2.heap.size w2 w') => show ∀ (j : Nat) u, (((S n).drop (k + 1)).flatMap eFile)[j]? = some u → w'.cell? ((⟨b, X, none⟩ : Addr).add j) = some u from by
      rcases Nat.lt_or_ge (k + 1) (S n).length with h1 | h1
      · rw [hXo h1]; exact HD.out w' he
      · intro j u hu
        rw [List.drop_of_length_le h1] at hu
        simp at hu)
    clear hX hXo
    go_wp2_with fail
    have last : ∀ {l : List Oper} {L : Nat → Bool} {i : Nat}, Closed l.toArray L → chk l.toArray (masks l.toArray) = true → ((List.range (l.length - 1)).all fun k => ((masks l.toArray).getD (l.length - 1) 0).testBit k) = true → L i = false → l.length - 1 = 25 → i < 25 → L 25 = false := by
      intro l L i hC h1 h2 hL hl hi
      cases h : L 25 with
      | false => rfl
      | true =>
        have := closed_last h1 h2 hC (by rw [hl]; exact h) i (by omega)
        rw [hL] at this; cases this
    refine wp_drawV (DropI w2 sb n k ((S n).length - (k + 1)) (((S n).take k).flatMap eFile) (((S n).drop (k + 1)).flatMap eFile) (upd S n (remF num (S n)))) (by kernel_rfl) (by kernel_rfl) ?_ ?_
    · intro w' he
      exact DropI.start he
    refine rgv_read 16 [19, 28, 38] (DropI.keep (by decide) (by decide) (by decide) (by decide)) (by rfl) (fun L f w hi hC hL => ob_move (by rfl) (by rfl)) rfl (by rfl) ?_
    refine rgv_read 17 [19, 28, 38] (DropI.keep (by decide) (by decide) (by decide) (by decide)) (by rfl) (fun L f w hi hC hL => ob_field (n := 0) 0 0 3 (by rfl) (by rfl) Try.underlying97 (by rfl) (by kernel_rfl) rfl) rfl (by rfl) ?_
    refine rgv_read 18 [19, 28, 38] (DropI.keep (by decide) (by decide) (by decide) (by decide)) (by rfl) (fun L f w hi hC hL => ob_load (v := .int .i64 n) (by rfl) (by rfl) (by kernel_rfl) (fun w' he => ext_cell he (below_cell (hi.1 (last hC (by kernel_rfl) (by kernel_rfl) hL (by rfl) (by decide))) hsz hgd))) rfl (by rfl) ?_
    refine rgv_eff anyV free_any rfl (fun a L w hx hi hN hC hL he => ?_) ⟨by rfl, ?_⟩
    · have h25 := last hC (by kernel_rfl) (by kernel_rfl) hL (by rfl) (by decide)
      rw [exec_build0]
      exact ⟨trivial, DropI.build hi h25 hN⟩
    refine rgv_read 20 [19, 28, 38] (DropI.keep (by decide) (by decide) (by decide) (by decide)) (by rfl) (fun L f w hi hC hL => ob_move (by rfl) (by rfl)) rfl (by rfl) ?_
    refine rgv_read 21 [19, 28, 38] (DropI.keep (by decide) (by decide) (by decide) (by decide)) (by rfl) (fun L f w hi hC hL => ob_field (n := 0) 0 0 3 (by rfl) (by rfl) Try.underlying97 (by rfl) (by kernel_rfl) rfl) rfl (by rfl) ?_
    refine rgv_read 22 [19, 28, 38] (DropI.keep (by decide) (by decide) (by decide) (by decide)) (by rfl) (fun L f w hi hC hL => ob_load (v := .int .i64 n) (by rfl) (by rfl) (by kernel_rfl) (fun w' he => ext_cell he (below_cell (hi.1 (last hC (by kernel_rfl) (by kernel_rfl) hL (by rfl) (by decide))) hsz hgd))) rfl (by rfl) ?_
    refine rgv_read 23 [19, 28, 38] (DropI.keep (by decide) (by decide) (by decide) (by decide)) (by rfl) (fun L f w hi hC hL => ob_nilck (by rfl) (by rfl)) rfl (by rfl) ?_
    refine rgv_read 24 [19, 28, 38] (DropI.keep (by decide) (by decide) (by decide) (by decide)) (by rfl) (fun L f w hi hC hL => ob_arr 1 n (by rfl) (by rfl) (by rfl) Try.underlying131 (by kernel_rfl) hn0 hn4 (by simp)) rfl (by rfl) ?_
    refine rgv_read 25 [19, 28, 38] (DropI.keep (by decide) (by decide) (by decide) (by decide)) (by rfl) (fun L f w hi hC hL => ob_load (v := .slice (some ⟨b, off, none⟩) (S n).length cap) (by rfl) (by rfl) (by kernel_rfl) (fun w' he => ext_cell he (below_cell (hi.1 (last hC (by kernel_rfl) (by kernel_rfl) hL (by rfl) (by decide))) hsb2 hcs))) rfl (by rfl) ?_
    refine rgv_read 26 [19, 28, 38] (DropI.keep (by decide) (by decide) (by decide) (by decide)) (by rfl) (fun L f w hi hC hL => ob_move (by rfl) (by rfl)) rfl (by rfl) ?_
    refine rgv_read 27 [19, 28, 38] (DropI.keep (by decide) (by decide) (by decide) (by decide)) (by rfl) (fun L f w hi hC hL => ob_slF_h (k := k) (by rfl) (by rfl) (by rfl) (by omega)) rfl (by rfl) ?_
    refine rgv_eff anyV free_any rfl (fun a L w hx hi hN hC hL he => ?_) ⟨by rfl, ?_⟩
    · have h25 := last hC (by kernel_rfl) (by kernel_rfl) hL (by rfl) (by decide)
      have h3 : L 3 = true := he ⟨3, .data⟩ (by simp) rfl
      have h22 : L 22 = false := by
        cases h : L 22 with
        | false => rfl
        | true =>
          have := hC 22 _ rfl h ⟨12, .data⟩ (by simp) rfl
          rw [hL] at this; cases this
      have hb := hi.1 h25
      obtain ⟨av, cv, w', hr, hown, hbl⟩ := run_app el_file 64 (hi.2.1 h3 hL) cap HLT.out (HT.out _ hb) (one_files _) HBT.out hb.size
      rw [exec_app (v := slot a 19) rfl (hx (.tmp 27) (by simp [Op.operands, Call.operands]) _ rfl) hr]
      exact ⟨trivial, DropI.app1 hi h25 h22 hN hown hbl⟩
    refine rgv_read 29 [19, 28, 38] (DropI.keep (by decide) (by decide) (by decide) (by decide)) (by rfl) (fun L f w hi hC hL => ob_move (by rfl) (by rfl)) rfl (by rfl) ?_
    refine rgv_read 30 [19, 28, 38] (DropI.keep (by decide) (by decide) (by decide) (by decide)) (by rfl) (fun L f w hi hC hL => ob_field (n := 0) 0 0 3 (by rfl) (by rfl) Try.underlying97 (by rfl) (by kernel_rfl) rfl) rfl (by rfl) ?_
    refine rgv_read 31 [19, 28, 38] (DropI.keep (by decide) (by decide) (by decide) (by decide)) (by rfl) (fun L f w hi hC hL => ob_load (v := .int .i64 n) (by rfl) (by rfl) (by kernel_rfl) (fun w' he => ext_cell he (below_cell (hi.1 (last hC (by kernel_rfl) (by kernel_rfl) hL (by rfl) (by decide))) hsz hgd))) rfl (by rfl) ?_
    refine rgv_read 32 [19, 28, 38] (DropI.keep (by decide) (by decide) (by decide) (by decide)) (by rfl) (fun L f w hi hC hL => ob_nilck (by rfl) (by rfl)) rfl (by rfl) ?_
    refine rgv_read 33 [19, 28, 38] (DropI.keep (by decide) (by decide) (by decide) (by decide)) (by rfl) (fun L f w hi hC hL => ob_arr 1 n (by rfl) (by rfl) (by rfl) Try.underlying131 (by kernel_rfl) hn0 hn4 (by simp)) rfl (by rfl) ?_
    refine rgv_read 34 [19, 28, 38] (DropI.keep (by decide) (by decide) (by decide) (by decide)) (by rfl) (fun L f w hi hC hL => ob_load (v := .slice (some ⟨b, off, none⟩) (S n).length cap) (by rfl) (by rfl) (by kernel_rfl) (fun w' he => ext_cell he (below_cell (hi.1 (last hC (by kernel_rfl) (by kernel_rfl) hL (by rfl) (by decide))) hsb2 hcs))) rfl (by rfl) ?_
    refine rgv_read 35 [19, 28, 38] (DropI.keep (by decide) (by decide) (by decide) (by decide)) (by rfl) (fun L f w hi hC hL => ob_move (by rfl) (by rfl)) rfl (by rfl) ?_
    refine rgv_read 36 [19, 28, 38] (DropI.keep (by decide) (by decide) (by decide) (by decide)) (by rfl) (fun L f w hi hC hL => ob_iarith ((k : Int) + 1) ((k : Int) + 1) (by rfl) (by rfl) (by rfl) (by rfl) hw1) rfl (by rfl) ?_
    refine rgv_read 37 [19, 28, 38] (DropI.keep (by decide) (by decide) (by decide) (by decide)) (by rfl) (fun L f w hi hC hL => ob_slF_l (by rfl) (by rfl) (by rfl) HXR.out) rfl (by rfl) ?_
    refine rgv_eff anyV free_any rfl (fun a L w hx hi hN hC hL he => ?_) ⟨by rfl, ?_⟩
    · have h25 := last hC (by kernel_rfl) (by kernel_rfl) hL (by rfl) (by decide)
      have h12 : L 12 = true := he ⟨12, .data⟩ (by simp) rfl
      have hb := hi.1 h25
      obtain ⟨av0, cv0, e0, hown0⟩ := hi.2.2.1 h12 hL
      obtain ⟨av, cv, w', hr, hown, hbl⟩ := run_app el_file 64 hown0 c' HLD.out (HDX.out _ hb) (one_files _) HBD.out hb.size
      rw [exec_app e0 (hx (.tmp 37) (by simp [Op.operands, Call.operands]) _ rfl) hr]
      exact ⟨trivial, DropI.app2 hi h25 h12 hN hown hbl⟩
    refine rgv_read 39 [19, 28, 38] (DropI.keep (by decide) (by decide) (by decide) (by decide)) (by rfl) (fun L f w hi hC hL => ob_nilck (by rfl) (by rfl)) rfl (by rfl) ?_
    refine rgv_read 40 [19, 28, 38] (DropI.keep (by decide) (by decide) (by decide) (by decide)) (by rfl) (fun L f w hi hC hL => ob_arr 1 n (by rfl) (by rfl) (by rfl) Try.underlying131 (by kernel_rfl) hn0 hn4 (by simp)) rfl (by rfl) ?_
    refine rgv_eff (.ex undef) (free_ex _) rfl (fun a L w hx hi hN hC hL he => ?_) ?_
    · have h22 : L 22 = true := he ⟨22, .data⟩ (by simp) rfl
      have h12 : L 12 = true := hC 22 _ rfl h22 ⟨12, .data⟩ (by simp) rfl
      have hb := hi.1 hL
      obtain ⟨av0, cv0, e0, hown0⟩ := hi.2.2.2.1 h22 hL
      rw [exec_store (hx (.tmp 40) (by simp [Op.operands]) _ rfl) (show a.eval (.tmp 38) = _ from e0) (run_setF sb n av0 _ cv0 _ w (below_cell hb hsb2 hcs) (below_fr hb hsb2 hfs))]
      refine ⟨rfl, DropI.store ((S2.out.ext hb).set hn (slF_of hown0 HA.out (by rw [List.length_append, List.length_take, List.length_drop]; omega))) (Below.setCell (Below.mono hb (Nat.le_of_lt hsb2)) (Nat.le_refl _) _)⟩
    refine rgv_end ?_
    intro L w' hall
    simp only [asg, List.set_cons_zero, List.set_cons_succ, List.map_cons, List.map_nil, opens, anyV]
    intro v19 _ v28 _ v38 _ hi
    obtain ⟨hset, hbel⟩ := hi.2.2.2.2 (hall 25 (by decide))
    have HSET := hid hset
    have HBEL := hid (Below.trans HE2.out hbel)
    clear hi hset hbel hall
    go_wp2_with fail
    go_ret
    exact ⟨.inr ⟨HB.out, rfl, HSET.out⟩, HBEL.out⟩
end Go.Proofs.Ytoonhcmeklmnlaa
