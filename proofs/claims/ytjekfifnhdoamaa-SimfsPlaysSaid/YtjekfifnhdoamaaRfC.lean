/- The law's helper: one call of both. -/
import Derived.Test.YtjekfifnhdoamaaRfB
import Derived.Test.YtjekfifnhdoamaaRg2
set_option linter.unusedSimpArgs false
set_option linter.unusedVariables false
set_option linter.unnecessarySimpa false
namespace Go.Proofs.Ytjekfifnhdoamaa
open Go.RowKit Go.Rg Go.St


theorem uponN_call {P : Program} {J : World → Prop} {v : Value} {w : World} {ρ : Operand → Value} {t : Tmp} {f : FuncId} {xs : Array Operand} {tys : Array TypeId} {ty : TypeId} {pos : String} {aft : Array Edge} (vs : List Value)
    (h0 : ρ (.func f) = .func (.func f) #[] #[]) (ha : xs.toList.map ρ = vs) (hf : ∀ (args : Array Value) (w : World), (callFunc f args).run P w = .ok (.enter f args) w)
    (h : Calls P f vs.toArray w (fun e w'' => e = .returned v ∧ J w'')) : UponN P v J ((execOp ρ ⟨some t, .call ⟨.value (.func f), xs, tys⟩, ty, pos, aft, none⟩).run P w) := by
  have hr : (execOp ρ ⟨some t, .call ⟨.value (.func f), xs, tys⟩, ty, pos, aft, none⟩).run P w = .ok (.enter f (xs.map ρ)) w := by
    simp [execOp, resolve, h0, Deferred.ofValue, invoke, Sem.run_bind, hf]
  rw [hr]
  have e : xs.map ρ = vs.toArray := by
    rw [← ha, ← Array.toList_map, Array.toArray_toList]
  rw [e]
  exact h
section
variable {w0 wb w : World} {p q g cf cr : Nat} {row : Array Value} {M M' : FsM} {F : Nat → Prop} {Ln : Nat → Bool} {fn : FuncId} {args : Array Value} {r : Value}
theorem duoI_f (hi : DuoI w0 wb p q g row M M' F cf cr Ln w) (hL : Ln cf = false) (hne : (cf != cr) = true) (hb0 : wb.heap[g]? = some (.cells row 73 (0, 0))) (hM : M'.Ok)
    (hc : ∀ L, FsAt w L M → M.Ok → L.fb = p → Calls Try.prog fn args w (FsPost L w r M')) : Calls Try.prog fn args w (fun e w' => e = .returned r ∧ DuoI w0 wb p q g row M M' F cf cr (setL Ln cf) w') := by
  have hd := hi.d
  rw [hL] at hd
  refine (duo_f hd hM fun L h1 h2 h3 _ => hc L h1 h2 h3).mono ?_
  rintro e w' ⟨rfl, h⟩
  have hne' : cf ≠ cr := by simpa using hne
  refine ⟨rfl, ?_, ?_, hi.n⟩
  · have e1 : setL Ln cf cf = true := by simp [setL]
    have e2 : setL Ln cf cr = Ln cr := by simp [setL, Ne.symm hne']
    rw [e1, e2]
    exact h
  · obtain ⟨F', h1, h2, h3⟩ := h
    exact (h2.block g (blk_lt hb0) hi.n.1).trans hb0
theorem duoI_r (hi : DuoI w0 wb p q g row M M' F cf cr Ln w) (hL : Ln cr = false) (hne : (cf != cr) = true) (hb0 : wb.heap[g]? = some (.cells row 73 (0, 0))) (hM : M'.Ok) (hS : SinceOk M')
    (hc : ∀ R, RefAt w R M → M.Ok → SinceOk M → R.rb = q → Calls Try.prog fn args w (RPost R M.nf w r M')) : Calls Try.prog fn args w (fun e w' => e = .returned r ∧ DuoI w0 wb p q g row M M' F cf cr (setL Ln cr) w') := by
  have hd := hi.d
  rw [hL] at hd
  refine (duo_r hd hM hS fun R h1 h2 h3 h4 _ => hc R h1 h2 h3 h4).mono ?_
  rintro e w' ⟨rfl, h⟩
  have hne' : cf ≠ cr := by simpa using hne
  refine ⟨rfl, ?_, ?_, hi.n⟩
  · have e1 : setL Ln cr cr = true := by simp [setL]
    have e2 : setL Ln cr cf = Ln cf := by simp [setL, hne']
    rw [e1, e2]
    exact h
  · obtain ⟨F', h1, h2, h3⟩ := h
    exact (h2.block g (blk_lt hb0) hi.n.1).trans hb0
end
theorem cf_fCreate (args : Array Value) (w : World) : (callFunc 26 args).run Try.prog w = .ok (.enter 26 args) w := by kernel_rfl
theorem cf_rCreate (args : Array Value) (w : World) : (callFunc 57 args).run Try.prog w = .ok (.enter 57 args) w := by kernel_rfl
theorem cf_fSync (args : Array Value) (w : World) : (callFunc 30 args).run Try.prog w = .ok (.enter 30 args) w := by kernel_rfl
theorem cf_rSync (args : Array Value) (w : World) : (callFunc 59 args).run Try.prog w = .ok (.enter 59 args) w := by kernel_rfl
theorem cf_fRename (args : Array Value) (w : World) : (callFunc 32 args).run Try.prog w = .ok (.enter 32 args) w := by kernel_rfl
theorem cf_rRename (args : Array Value) (w : World) : (callFunc 60 args).run Try.prog w = .ok (.enter 60 args) w := by kernel_rfl
theorem cf_fRemove (args : Array Value) (w : World) : (callFunc 42 args).run Try.prog w = .ok (.enter 42 args) w := by kernel_rfl
theorem cf_rRemove (args : Array Value) (w : World) : (callFunc 61 args).run Try.prog w = .ok (.enter 61 args) w := by kernel_rfl
theorem cf_fDamage (args : Array Value) (w : World) : (callFunc 43 args).run Try.prog w = .ok (.enter 43 args) w := by kernel_rfl
theorem cf_rDamage (args : Array Value) (w : World) : (callFunc 66 args).run Try.prog w = .ok (.enter 66 args) w := by kernel_rfl
/-- a call of a script that may be: its rows are older, its texts have room -/
structure GoodF (w0 : World) (nm nt : ByteArray) (vb : Value) (nn : Int) (vp : Value) (lb : List UInt8) (lp : List Int) : Prop where
  b : SlB w0 vb lb
  p : SlI w0 vp lp
  nm : nm.size ≤ 140737488355328
  to_ : nt.size ≤ 140737488355328
  lb : lb.length ≤ 140737488355328
  n : -9223372036854775808 ≤ nn ∧ nn ≤ 9223372036854775807
theorem box_duo {w0 wb w : World} {p q g : Nat} {row : Array Value} {M N : FsM} {F : Nat → Prop} (h : DuoN w0 wb p q M N F w) (hb0 : wb.heap[g]? = some (.cells row 73 (0, 0))) (hn : ¬ F g) : w.heap[g]? = some (.cells row 73 (0, 0)) := by
  obtain ⟨F', h1, h2, h3⟩ := h
  exact (h2.block g (blk_lt hb0) hn).trans hb0
/-- a row of the call's own, whatever it holds -/
def RowAt (a : Option Addr) (g : Nat) : Prop := a = some ⟨g, 0, none⟩
def RowOk (base : Nat) (a : Option Addr) (n : Nat) (w : World) : Prop := n = 0 ∨ ∃ g cur, RowAt a g ∧ base ≤ g ∧ w.heap[g]? = some (.cells cur 5 (0, 0)) ∧ n ≤ cur.size
theorem rowOk_of {w : World} {base n c : Nat} {a : Option Addr} {xs : List Value} (h : w.ownsRow base 5 1 (.slice a n c) n xs) : RowOk base a n w := by
  rcases h.2 with ⟨h1, h2⟩ | ⟨g, cap, cur, h1, hb, hg, hnc, hcm, hcs, htk⟩
  · exact .inl h2
  · simp only [Value.slice.injEq] at h1
    exact .inr ⟨g, cur, h1.1, hb, hg, by rw [hcs, Nat.mul_one]; exact hnc⟩
theorem row_lt {w : World} {base n c g : Nat} {a : Option Addr} {xs : List Value} (h : w.ownsRow base 5 1 (.slice a n c) n xs) (ha : RowAt a g) (hn : 0 < n) : g < w.heap.size := by
  rcases h.2 with ⟨h1, h2⟩ | ⟨g', cap, cur, h1, hb, hg, hnc, hcm, hcs, htk⟩
  · omega
  · simp only [Value.slice.injEq] at h1
    have e := h1.1.symm.trans ha
    simp only [Option.some.injEq, Addr.mk.injEq] at e
    rw [← e.1]
    exact blk_lt hg
theorem row_cell {w : World} {g k : Nat} {cur : Array Value} (h : w.heap[g]? = some (.cells cur 5 (0, 0))) (hk : k < cur.size) : ∃ u, w.cell? ⟨g, k, none⟩ = some u := ⟨cur[k], by rw [cell_of_row _ _ _ _ _ _ h]; exact Array.getElem?_eq_getElem hk⟩
theorem row_set2 {F : Nat → Prop} {w1 wr : World} {g n : Nat} {cur : Array Value} {x : Value} (h : Ch (fun k => F k ∨ w1.heap.size ≤ k) w1 wr) (hlo : w1.heap.size ≤ g) (hg : wr.heap[g]? = some (.cells cur 5 (0, 0))) (hs : n ≤ cur.size) (k : Nat) : RowOk w1.heap.size (some ⟨g, 0, none⟩) n (wr.setCell ⟨g, k, none⟩ x) ∧ Ch (fun k => F k ∨ w1.heap.size ≤ k) w1 (wr.setCell ⟨g, k, none⟩ x) :=
  ⟨.inr ⟨g, _, rfl, hlo, heap_setCell_same wr g k _ _ x hg, by simpa using hs⟩, h.setC (.inr hlo)⟩
theorem row_set {w1 wr : World} {g n : Nat} {cur : Array Value} {x : Value} (h : Ext w1 wr) (hlo : w1.heap.size ≤ g) (hg : wr.heap[g]? = some (.cells cur 5 (0, 0))) (hs : n ≤ cur.size) (k : Nat) : Ext w1 (wr.setCell ⟨g, k, none⟩ x) ∧ RowOk w1.heap.size (some ⟨g, 0, none⟩) n (wr.setCell ⟨g, k, none⟩ x) :=
  ⟨((Ch.of_ext (F := fun k => w1.heap.size ≤ k) h).setC hlo).ext fun k hk hf => by omega, .inr ⟨g, _, rfl, hlo, heap_setCell_same wr g k _ _ x hg, by simpa using hs⟩⟩
theorem far5 {b sw s1 s4 : Nat} {P : Prop} (h1 : P → b < sw) (h2 : sw ≤ s1) (h : P ∨ s4 ≤ b) (h3 : s1 ≤ b) (h4 : b < s4) : False := by
  rcases h with h | h
  · have := h1 h
    omega
  · omega
def AskedP (w0 w : World) (p q : Nat) (M : FsM) (F : Nat → Prop) (e : Ending) (w' : World) : Prop := e = .returned (.bool true) ∧ ∃ M', M'.ops ≤ M.ops + 1 ∧ DuoN w0 w p q M' M' F w'
theorem asked_ext {w0 w w1 w' : World} {p q : Nat} {M M' : FsM} {F : Nat → Prop} (hlt : ∀ k, F k → k < w.heap.size) (he : Ext w w1) (ho : M'.ops ≤ M.ops + 1) (h : DuoN w0 w1 p q M' M' F w') : AskedP w0 w p q M F (.returned (.bool true)) w' :=
  ⟨rfl, M', ho, h.from he hlt⟩
set_option maxRecDepth 100000 in
set_option maxHeartbeats 8000000 in
theorem asked1_in (w0 w : World) (p q : Nat) (M : FsM) (F : Nat → Prop) (nm nt : ByteArray) (nn : Int) (ab ap : Option Addr) (zb zp : Nat) (lb : List UInt8) (lp : List Int) (hD : Duo w0 w p q M M F) (hG : GoodF w0 nm nt (.slice ab lb.length zb) nn (.slice ap lp.length zp) lb lp) (ok : M.Ok ∧ SinceOk M) (ho : M.ops < OpsMax) :
    Calls Try.prog 38 #[.pointer (some ⟨p, 0, none⟩), .pointer (some ⟨q, 0, none⟩), .agg #[.int .i64 1, .string nm, .string nt, .slice ab lb.length zb, .int .i64 nn, .slice ap lp.length zp]] w (AskedP w0 w p q M F) := by
  have HG := hid hG
  have HOK := hid ok
  have HOP := hid ho
  have HLT := hid hD.lt
  clear hG ok ho
  have HB := hid (heap_alloc_new w (.cells #[.int .i64 1, .string nm, .string nt, .slice ab lb.length zb, .int .i64 nn, .slice ap lp.length zp] 73))
  have E1 := hid ((Ext.rfl w).al (.cells #[.int .i64 1, .string nm, .string nt, .slice ab lb.length zb, .int .i64 nn, .slice ap lp.length zp] 73))
  have D1 := hid (hD.ext E1.out)
  obtain ⟨g, hg⟩ : ∃ g, g = w.heap.size := ⟨_, rfl⟩
  have HN := hid (show ¬ F g ∧ g < (w.alloc (.cells #[.int .i64 1, .string nm, .string nt, .slice ab lb.length zb, .int .i64 nn, .slice ap lp.length zp] 73)).heap.size from ⟨fun h => by have := hD.lt g h; omega, by rw [hg, alloc_sizeR]; omega⟩)
  rw [← hg] at HB
  clear hD
  have k0 := cell_of_row _ _ 0 _ _ _ HB.out
  have k1 := cell_of_row _ _ 1 _ _ _ HB.out
  have k3 := cell_of_row _ _ 3 _ _ _ HB.out
  have k4 := cell_of_row _ _ 4 _ _ _ HB.out
  have k5 := cell_of_row _ _ 5 _ _ _ HB.out
  simp only [List.getElem?_toArray, List.getElem?_cons_zero, List.getElem?_cons_succ] at k0 k1 k3 k4 k5
  go_enter Try.func38, Try.ntmps38
  go_wp2_with fail
  generalize w.alloc (.cells #[.int .i64 1, .string nm, .string nt, .slice ab lb.length zb, .int .i64 nn, .slice ap lp.length zp] 73) = w1 at *
  rw [← hg]
  have OKM := hid (show (M.create nm).2.Ok from create_ok HOK.out.1 nm)
  have SOM := hid (show SinceOk (M.create nm).2 from since_create HOK.out.2 nm)
  have HI0 : DuoI w0 w1 p q g #[.int .i64 1, .string nm, .string nt, .slice ab lb.length zb, .int .i64 nn, .slice ap lp.length zp] M (M.create nm).2 F 3 7 (fun _ => false) w1 := ⟨DuoN.same D1.out, HB.out, HN.out⟩
  refine wp_drawN (DuoI w0 w1 p q g #[.int .i64 1, .string nm, .string nt, .slice ab lb.length zb, .int .i64 nn, .slice ap lp.length zp] M (M.create nm).2 F 3 7) (by kernel_rfl) (by kernel_rfl) (fun _ _ _ h he => h.go he) HI0 ?_
  refine rgn_read 21 (fun _ _ _ h he => h.read he (by decide)) (fun _ _ hi => ob_move (by rfl) (by rfl)) rfl (by rfl) ?_
  refine rgn_read 22 (fun _ _ _ h he => h.read he (by decide)) (fun _ _ hi => ob_field (n := 0) 1 1 9 (by rfl) (by rfl) Try.underlying73 (by rfl) (by kernel_rfl) rfl) rfl (by rfl) ?_
  refine rgn_read 23 (fun _ _ _ h he => h.read he (by decide)) (fun _ _ hi => ob_load (v := .string nm) (by rfl) (by rfl) (by kernel_rfl) (fun _ he => (cell_of_row _ _ _ _ _ _ ((he.block _ (blk_lt hi.b)).trans hi.b)).trans rfl)) rfl (by rfl) ?_
  refine rgn_eff [.func 26, .tmp 21, .tmp 23] [.func (.func 26) #[] #[], .pointer (some ⟨p, 0, none⟩), .string nm] rfl rfl (by rfl) (fun ρ Ln w hx hi hL _ => uponN_call [.pointer (some ⟨p, 0, none⟩), .string nm] (List.cons.inj hx).1 (List.cons.inj hx).2 cf_fCreate (duoI_f hi hL (by rfl) HB.out OKM.out (fun L h1 h2 h3 => by subst h3; exact fsCreate_in L M nm w h1 h2 HOP.out HG.out.nm))) ⟨by rfl, ?_⟩
  refine rgn_read 25 (fun _ _ _ h he => h.read he (by decide)) (fun _ _ hi => ob_move (by rfl) (by rfl)) rfl (by rfl) ?_
  refine rgn_read 26 (fun _ _ _ h he => h.read he (by decide)) (fun _ _ hi => ob_field (n := 0) 1 1 9 (by rfl) (by rfl) Try.underlying73 (by rfl) (by kernel_rfl) rfl) rfl (by rfl) ?_
  refine rgn_read 27 (fun _ _ _ h he => h.read he (by decide)) (fun _ _ hi => ob_load (v := .string nm) (by rfl) (by rfl) (by kernel_rfl) (fun _ he => (cell_of_row _ _ _ _ _ _ ((he.block _ (blk_lt hi.b)).trans hi.b)).trans rfl)) rfl (by rfl) ?_
  refine rgn_eff [.func 57, .tmp 25, .tmp 27] [.func (.func 57) #[] #[], .pointer (some ⟨q, 0, none⟩), .string nm] rfl rfl (by rfl) (fun ρ Ln w hx hi hL _ => uponN_call [.pointer (some ⟨q, 0, none⟩), .string nm] (List.cons.inj hx).1 (List.cons.inj hx).2 cf_rCreate (duoI_r hi hL (by rfl) HB.out OKM.out SOM.out (fun R h1 h2 h3 h4 => by subst h4; exact rcreate_in R M nm w h1 h2 HOP.out))) ⟨by rfl, ?_⟩
  refine rgn_read 29 (fun _ _ _ h he => h.read he (by decide)) (fun _ _ hi => ob_icmp true (by rfl) (by rfl) (by rfl) (by unfold icmp; simp)) rfl (by rfl) ?_
  refine rgn_read 6 (fun _ _ _ h he => h.read he (by decide)) (fun _ _ hi => ob_assign (by rfl) (by rfl)) rfl (by rfl) ?_
  refine rgn_end ?_
  intro LL w6 hLL hi6
  simp only [asg, List.set_cons_zero, List.set_cons_succ, List.map_cons, List.map_nil, opens]
  have hd6 := hi6.d
  rw [hLL 3 (by decide), hLL 7 (by decide)] at hd6
  have D6 := hid hd6
  clear hi6 hd6 HI0
  go_wp2_with fail
  go_ret
  exact asked_ext HLT.out E1.out (Nat.le_of_eq (ops_create M nm)) D6.out
set_option maxRecDepth 100000 in
set_option maxHeartbeats 8000000 in
theorem asked3_in (w0 w : World) (p q : Nat) (M : FsM) (F : Nat → Prop) (nm nt : ByteArray) (nn : Int) (ab ap : Option Addr) (zb zp : Nat) (lb : List UInt8) (lp : List Int) (hD : Duo w0 w p q M M F) (hG : GoodF w0 nm nt (.slice ab lb.length zb) nn (.slice ap lp.length zp) lb lp) (ok : M.Ok ∧ SinceOk M) (ho : M.ops < OpsMax) :
    Calls Try.prog 38 #[.pointer (some ⟨p, 0, none⟩), .pointer (some ⟨q, 0, none⟩), .agg #[.int .i64 3, .string nm, .string nt, .slice ab lb.length zb, .int .i64 nn, .slice ap lp.length zp]] w (AskedP w0 w p q M F) := by
  have HG := hid hG
  have HOK := hid ok
  have HOP := hid ho
  have HLT := hid hD.lt
  clear hG ok ho
  have HB := hid (heap_alloc_new w (.cells #[.int .i64 3, .string nm, .string nt, .slice ab lb.length zb, .int .i64 nn, .slice ap lp.length zp] 73))
  have E1 := hid ((Ext.rfl w).al (.cells #[.int .i64 3, .string nm, .string nt, .slice ab lb.length zb, .int .i64 nn, .slice ap lp.length zp] 73))
  have D1 := hid (hD.ext E1.out)
  obtain ⟨g, hg⟩ : ∃ g, g = w.heap.size := ⟨_, rfl⟩
  have HN := hid (show ¬ F g ∧ g < (w.alloc (.cells #[.int .i64 3, .string nm, .string nt, .slice ab lb.length zb, .int .i64 nn, .slice ap lp.length zp] 73)).heap.size from ⟨fun h => by have := hD.lt g h; omega, by rw [hg, alloc_sizeR]; omega⟩)
  rw [← hg] at HB
  clear hD
  have k0 := cell_of_row _ _ 0 _ _ _ HB.out
  have k1 := cell_of_row _ _ 1 _ _ _ HB.out
  have k3 := cell_of_row _ _ 3 _ _ _ HB.out
  have k4 := cell_of_row _ _ 4 _ _ _ HB.out
  have k5 := cell_of_row _ _ 5 _ _ _ HB.out
  simp only [List.getElem?_toArray, List.getElem?_cons_zero, List.getElem?_cons_succ] at k0 k1 k3 k4 k5
  go_enter Try.func38, Try.ntmps38
  go_wp2_with fail
  generalize w.alloc (.cells #[.int .i64 3, .string nm, .string nt, .slice ab lb.length zb, .int .i64 nn, .slice ap lp.length zp] 73) = w1 at *
  rw [← hg]
  have OKM := hid (show (M.sync nm).2.Ok from sync_ok HOK.out.1 nm)
  have SOM := hid (show SinceOk (M.sync nm).2 from since_sync HOK.out.2 nm)
  have HI0 : DuoI w0 w1 p q g #[.int .i64 3, .string nm, .string nt, .slice ab lb.length zb, .int .i64 nn, .slice ap lp.length zp] M (M.sync nm).2 F 3 7 (fun _ => false) w1 := ⟨DuoN.same D1.out, HB.out, HN.out⟩
  refine wp_drawN (DuoI w0 w1 p q g #[.int .i64 3, .string nm, .string nt, .slice ab lb.length zb, .int .i64 nn, .slice ap lp.length zp] M (M.sync nm).2 F 3 7) (by kernel_rfl) (by kernel_rfl) (fun _ _ _ h he => h.go he) HI0 ?_
  refine rgn_read 60 (fun _ _ _ h he => h.read he (by decide)) (fun _ _ hi => ob_move (by rfl) (by rfl)) rfl (by rfl) ?_
  refine rgn_read 61 (fun _ _ _ h he => h.read he (by decide)) (fun _ _ hi => ob_field (n := 0) 1 1 9 (by rfl) (by rfl) Try.underlying73 (by rfl) (by kernel_rfl) rfl) rfl (by rfl) ?_
  refine rgn_read 62 (fun _ _ _ h he => h.read he (by decide)) (fun _ _ hi => ob_load (v := .string nm) (by rfl) (by rfl) (by kernel_rfl) (fun _ he => (cell_of_row _ _ _ _ _ _ ((he.block _ (blk_lt hi.b)).trans hi.b)).trans rfl)) rfl (by rfl) ?_
  refine rgn_eff [.func 30, .tmp 60, .tmp 62] [.func (.func 30) #[] #[], .pointer (some ⟨p, 0, none⟩), .string nm] rfl rfl (by rfl) (fun ρ Ln w hx hi hL _ => uponN_call [.pointer (some ⟨p, 0, none⟩), .string nm] (List.cons.inj hx).1 (List.cons.inj hx).2 cf_fSync (duoI_f hi hL (by rfl) HB.out OKM.out (fun L h1 h2 h3 => by subst h3; exact fsSync_in L M nm w h1 h2 HOP.out))) ⟨by rfl, ?_⟩
  refine rgn_read 64 (fun _ _ _ h he => h.read he (by decide)) (fun _ _ hi => ob_move (by rfl) (by rfl)) rfl (by rfl) ?_
  refine rgn_read 65 (fun _ _ _ h he => h.read he (by decide)) (fun _ _ hi => ob_field (n := 0) 1 1 9 (by rfl) (by rfl) Try.underlying73 (by rfl) (by kernel_rfl) rfl) rfl (by rfl) ?_
  refine rgn_read 66 (fun _ _ _ h he => h.read he (by decide)) (fun _ _ hi => ob_load (v := .string nm) (by rfl) (by rfl) (by kernel_rfl) (fun _ he => (cell_of_row _ _ _ _ _ _ ((he.block _ (blk_lt hi.b)).trans hi.b)).trans rfl)) rfl (by rfl) ?_
  refine rgn_eff [.func 59, .tmp 64, .tmp 66] [.func (.func 59) #[] #[], .pointer (some ⟨q, 0, none⟩), .string nm] rfl rfl (by rfl) (fun ρ Ln w hx hi hL _ => uponN_call [.pointer (some ⟨q, 0, none⟩), .string nm] (List.cons.inj hx).1 (List.cons.inj hx).2 cf_rSync (duoI_r hi hL (by rfl) HB.out OKM.out SOM.out (fun R h1 h2 h3 h4 => by subst h4; exact rsync_in R M nm w h1 h2 HOP.out))) ⟨by rfl, ?_⟩
  refine rgn_read 68 (fun _ _ _ h he => h.read he (by decide)) (fun _ _ hi => ob_icmp true (by rfl) (by rfl) (by rfl) (by unfold icmp; simp)) rfl (by rfl) ?_
  refine rgn_read 6 (fun _ _ _ h he => h.read he (by decide)) (fun _ _ hi => ob_assign (by rfl) (by rfl)) rfl (by rfl) ?_
  refine rgn_end ?_
  intro LL w6 hLL hi6
  simp only [asg, List.set_cons_zero, List.set_cons_succ, List.map_cons, List.map_nil, opens]
  have hd6 := hi6.d
  rw [hLL 3 (by decide), hLL 7 (by decide)] at hd6
  have D6 := hid hd6
  clear hi6 hd6 HI0
  go_wp2_with fail
  go_ret
  exact asked_ext HLT.out E1.out (Nat.le_of_eq (ops_sync M nm)) D6.out
set_option maxRecDepth 100000 in
set_option maxHeartbeats 8000000 in
theorem asked4_in (w0 w : World) (p q : Nat) (M : FsM) (F : Nat → Prop) (nm nt : ByteArray) (nn : Int) (ab ap : Option Addr) (zb zp : Nat) (lb : List UInt8) (lp : List Int) (hD : Duo w0 w p q M M F) (hG : GoodF w0 nm nt (.slice ab lb.length zb) nn (.slice ap lp.length zp) lb lp) (ok : M.Ok ∧ SinceOk M) (ho : M.ops < OpsMax) :
    Calls Try.prog 38 #[.pointer (some ⟨p, 0, none⟩), .pointer (some ⟨q, 0, none⟩), .agg #[.int .i64 4, .string nm, .string nt, .slice ab lb.length zb, .int .i64 nn, .slice ap lp.length zp]] w (AskedP w0 w p q M F) := by
  have HG := hid hG
  have HOK := hid ok
  have HOP := hid ho
  have HLT := hid hD.lt
  clear hG ok ho
  have HB := hid (heap_alloc_new w (.cells #[.int .i64 4, .string nm, .string nt, .slice ab lb.length zb, .int .i64 nn, .slice ap lp.length zp] 73))
  have E1 := hid ((Ext.rfl w).al (.cells #[.int .i64 4, .string nm, .string nt, .slice ab lb.length zb, .int .i64 nn, .slice ap lp.length zp] 73))
  have D1 := hid (hD.ext E1.out)
  obtain ⟨g, hg⟩ : ∃ g, g = w.heap.size := ⟨_, rfl⟩
  have HN := hid (show ¬ F g ∧ g < (w.alloc (.cells #[.int .i64 4, .string nm, .string nt, .slice ab lb.length zb, .int .i64 nn, .slice ap lp.length zp] 73)).heap.size from ⟨fun h => by have := hD.lt g h; omega, by rw [hg, alloc_sizeR]; omega⟩)
  rw [← hg] at HB
  clear hD
  have k0 := cell_of_row _ _ 0 _ _ _ HB.out
  have k1 := cell_of_row _ _ 1 _ _ _ HB.out
  have k3 := cell_of_row _ _ 3 _ _ _ HB.out
  have k4 := cell_of_row _ _ 4 _ _ _ HB.out
  have k5 := cell_of_row _ _ 5 _ _ _ HB.out
  simp only [List.getElem?_toArray, List.getElem?_cons_zero, List.getElem?_cons_succ] at k0 k1 k3 k4 k5
  go_enter Try.func38, Try.ntmps38
  go_wp2_with fail
  generalize w.alloc (.cells #[.int .i64 4, .string nm, .string nt, .slice ab lb.length zb, .int .i64 nn, .slice ap lp.length zp] 73) = w1 at *
  rw [← hg]
  have OKM := hid (show (M.rename nm nt).2.Ok from rename_ok HOK.out.1 nm nt)
  have SOM := hid (show SinceOk (M.rename nm nt).2 from since_rename HOK.out.1 HOK.out.2 nm nt)
  have HI0 : DuoI w0 w1 p q g #[.int .i64 4, .string nm, .string nt, .slice ab lb.length zb, .int .i64 nn, .slice ap lp.length zp] M (M.rename nm nt).2 F 5 11 (fun _ => false) w1 := ⟨DuoN.same D1.out, HB.out, HN.out⟩
  refine wp_drawN (DuoI w0 w1 p q g #[.int .i64 4, .string nm, .string nt, .slice ab lb.length zb, .int .i64 nn, .slice ap lp.length zp] M (M.rename nm nt).2 F 5 11) (by kernel_rfl) (by kernel_rfl) (fun _ _ _ h he => h.go he) HI0 ?_
  refine rgn_read 71 (fun _ _ _ h he => h.read he (by decide)) (fun _ _ hi => ob_move (by rfl) (by rfl)) rfl (by rfl) ?_
  refine rgn_read 72 (fun _ _ _ h he => h.read he (by decide)) (fun _ _ hi => ob_field (n := 0) 1 1 9 (by rfl) (by rfl) Try.underlying73 (by rfl) (by kernel_rfl) rfl) rfl (by rfl) ?_
  refine rgn_read 73 (fun _ _ _ h he => h.read he (by decide)) (fun _ _ hi => ob_load (v := .string nm) (by rfl) (by rfl) (by kernel_rfl) (fun _ he => (cell_of_row _ _ _ _ _ _ ((he.block _ (blk_lt hi.b)).trans hi.b)).trans rfl)) rfl (by rfl) ?_
  refine rgn_read 74 (fun _ _ _ h he => h.read he (by decide)) (fun _ _ hi => ob_field (n := 0) 2 2 9 (by rfl) (by rfl) Try.underlying73 (by rfl) (by kernel_rfl) rfl) rfl (by rfl) ?_
  refine rgn_read 75 (fun _ _ _ h he => h.read he (by decide)) (fun _ _ hi => ob_load (v := .string nt) (by rfl) (by rfl) (by kernel_rfl) (fun _ he => (cell_of_row _ _ _ _ _ _ ((he.block _ (blk_lt hi.b)).trans hi.b)).trans rfl)) rfl (by rfl) ?_
  refine rgn_eff [.func 32, .tmp 71, .tmp 73, .tmp 75] [.func (.func 32) #[] #[], .pointer (some ⟨p, 0, none⟩), .string nm, .string nt] rfl rfl (by rfl) (fun ρ Ln w hx hi hL _ => uponN_call [.pointer (some ⟨p, 0, none⟩), .string nm, .string nt] (List.cons.inj hx).1 (List.cons.inj hx).2 cf_fRename (duoI_f hi hL (by rfl) HB.out OKM.out (fun L h1 h2 h3 => by subst h3; exact fsRename_in L M nm nt w h1 h2 HOP.out HG.out.to_))) ⟨by rfl, ?_⟩
  refine rgn_read 77 (fun _ _ _ h he => h.read he (by decide)) (fun _ _ hi => ob_move (by rfl) (by rfl)) rfl (by rfl) ?_
  refine rgn_read 78 (fun _ _ _ h he => h.read he (by decide)) (fun _ _ hi => ob_field (n := 0) 1 1 9 (by rfl) (by rfl) Try.underlying73 (by rfl) (by kernel_rfl) rfl) rfl (by rfl) ?_
  refine rgn_read 79 (fun _ _ _ h he => h.read he (by decide)) (fun _ _ hi => ob_load (v := .string nm) (by rfl) (by rfl) (by kernel_rfl) (fun _ he => (cell_of_row _ _ _ _ _ _ ((he.block _ (blk_lt hi.b)).trans hi.b)).trans rfl)) rfl (by rfl) ?_
  refine rgn_read 80 (fun _ _ _ h he => h.read he (by decide)) (fun _ _ hi => ob_field (n := 0) 2 2 9 (by rfl) (by rfl) Try.underlying73 (by rfl) (by kernel_rfl) rfl) rfl (by rfl) ?_
  refine rgn_read 81 (fun _ _ _ h he => h.read he (by decide)) (fun _ _ hi => ob_load (v := .string nt) (by rfl) (by rfl) (by kernel_rfl) (fun _ he => (cell_of_row _ _ _ _ _ _ ((he.block _ (blk_lt hi.b)).trans hi.b)).trans rfl)) rfl (by rfl) ?_
  refine rgn_eff [.func 60, .tmp 77, .tmp 79, .tmp 81] [.func (.func 60) #[] #[], .pointer (some ⟨q, 0, none⟩), .string nm, .string nt] rfl rfl (by rfl) (fun ρ Ln w hx hi hL _ => uponN_call [.pointer (some ⟨q, 0, none⟩), .string nm, .string nt] (List.cons.inj hx).1 (List.cons.inj hx).2 cf_rRename (duoI_r hi hL (by rfl) HB.out OKM.out SOM.out (fun R h1 h2 h3 h4 => by subst h4; exact rrename_in R M nm nt w h1 h2 HOP.out))) ⟨by rfl, ?_⟩
  refine rgn_read 83 (fun _ _ _ h he => h.read he (by decide)) (fun _ _ hi => ob_icmp true (by rfl) (by rfl) (by rfl) (by unfold icmp; simp)) rfl (by rfl) ?_
  refine rgn_read 6 (fun _ _ _ h he => h.read he (by decide)) (fun _ _ hi => ob_assign (by rfl) (by rfl)) rfl (by rfl) ?_
  refine rgn_end ?_
  intro LL w6 hLL hi6
  simp only [asg, List.set_cons_zero, List.set_cons_succ, List.map_cons, List.map_nil, opens]
  have hd6 := hi6.d
  rw [hLL 5 (by decide), hLL 11 (by decide)] at hd6
  have D6 := hid hd6
  clear hi6 hd6 HI0
  go_wp2_with fail
  go_ret
  exact asked_ext HLT.out E1.out (Nat.le_of_eq (ops_rename M nm nt)) D6.out
set_option maxRecDepth 100000 in
set_option maxHeartbeats 8000000 in
theorem asked5_in (w0 w : World) (p q : Nat) (M : FsM) (F : Nat → Prop) (nm nt : ByteArray) (nn : Int) (ab ap : Option Addr) (zb zp : Nat) (lb : List UInt8) (lp : List Int) (hD : Duo w0 w p q M M F) (hG : GoodF w0 nm nt (.slice ab lb.length zb) nn (.slice ap lp.length zp) lb lp) (ok : M.Ok ∧ SinceOk M) (ho : M.ops < OpsMax) :
    Calls Try.prog 38 #[.pointer (some ⟨p, 0, none⟩), .pointer (some ⟨q, 0, none⟩), .agg #[.int .i64 5, .string nm, .string nt, .slice ab lb.length zb, .int .i64 nn, .slice ap lp.length zp]] w (AskedP w0 w p q M F) := by
  have HG := hid hG
  have HOK := hid ok
  have HOP := hid ho
  have HLT := hid hD.lt
  clear hG ok ho
  have HB := hid (heap_alloc_new w (.cells #[.int .i64 5, .string nm, .string nt, .slice ab lb.length zb, .int .i64 nn, .slice ap lp.length zp] 73))
  have E1 := hid ((Ext.rfl w).al (.cells #[.int .i64 5, .string nm, .string nt, .slice ab lb.length zb, .int .i64 nn, .slice ap lp.length zp] 73))
  have D1 := hid (hD.ext E1.out)
  obtain ⟨g, hg⟩ : ∃ g, g = w.heap.size := ⟨_, rfl⟩
  have HN := hid (show ¬ F g ∧ g < (w.alloc (.cells #[.int .i64 5, .string nm, .string nt, .slice ab lb.length zb, .int .i64 nn, .slice ap lp.length zp] 73)).heap.size from ⟨fun h => by have := hD.lt g h; omega, by rw [hg, alloc_sizeR]; omega⟩)
  rw [← hg] at HB
  clear hD
  have k0 := cell_of_row _ _ 0 _ _ _ HB.out
  have k1 := cell_of_row _ _ 1 _ _ _ HB.out
  have k3 := cell_of_row _ _ 3 _ _ _ HB.out
  have k4 := cell_of_row _ _ 4 _ _ _ HB.out
  have k5 := cell_of_row _ _ 5 _ _ _ HB.out
  simp only [List.getElem?_toArray, List.getElem?_cons_zero, List.getElem?_cons_succ] at k0 k1 k3 k4 k5
  go_enter Try.func38, Try.ntmps38
  go_wp2_with fail
  generalize w.alloc (.cells #[.int .i64 5, .string nm, .string nt, .slice ab lb.length zb, .int .i64 nn, .slice ap lp.length zp] 73) = w1 at *
  rw [← hg]
  have OKM := hid (show (M.remove nm).2.Ok from remove_ok HOK.out.1 nm)
  have SOM := hid (show SinceOk (M.remove nm).2 from since_remove HOK.out.1 HOK.out.2 nm)
  have HI0 : DuoI w0 w1 p q g #[.int .i64 5, .string nm, .string nt, .slice ab lb.length zb, .int .i64 nn, .slice ap lp.length zp] M (M.remove nm).2 F 3 7 (fun _ => false) w1 := ⟨DuoN.same D1.out, HB.out, HN.out⟩
  refine wp_drawN (DuoI w0 w1 p q g #[.int .i64 5, .string nm, .string nt, .slice ab lb.length zb, .int .i64 nn, .slice ap lp.length zp] M (M.remove nm).2 F 3 7) (by kernel_rfl) (by kernel_rfl) (fun _ _ _ h he => h.go he) HI0 ?_
  refine rgn_read 86 (fun _ _ _ h he => h.read he (by decide)) (fun _ _ hi => ob_move (by rfl) (by rfl)) rfl (by rfl) ?_
  refine rgn_read 87 (fun _ _ _ h he => h.read he (by decide)) (fun _ _ hi => ob_field (n := 0) 1 1 9 (by rfl) (by rfl) Try.underlying73 (by rfl) (by kernel_rfl) rfl) rfl (by rfl) ?_
  refine rgn_read 88 (fun _ _ _ h he => h.read he (by decide)) (fun _ _ hi => ob_load (v := .string nm) (by rfl) (by rfl) (by kernel_rfl) (fun _ he => (cell_of_row _ _ _ _ _ _ ((he.block _ (blk_lt hi.b)).trans hi.b)).trans rfl)) rfl (by rfl) ?_
  refine rgn_eff [.func 42, .tmp 86, .tmp 88] [.func (.func 42) #[] #[], .pointer (some ⟨p, 0, none⟩), .string nm] rfl rfl (by rfl) (fun ρ Ln w hx hi hL _ => uponN_call [.pointer (some ⟨p, 0, none⟩), .string nm] (List.cons.inj hx).1 (List.cons.inj hx).2 cf_fRemove (duoI_f hi hL (by rfl) HB.out OKM.out (fun L h1 h2 h3 => by subst h3; exact fsRemove_in L M nm w h1 h2 HOP.out))) ⟨by rfl, ?_⟩
  refine rgn_read 90 (fun _ _ _ h he => h.read he (by decide)) (fun _ _ hi => ob_move (by rfl) (by rfl)) rfl (by rfl) ?_
  refine rgn_read 91 (fun _ _ _ h he => h.read he (by decide)) (fun _ _ hi => ob_field (n := 0) 1 1 9 (by rfl) (by rfl) Try.underlying73 (by rfl) (by kernel_rfl) rfl) rfl (by rfl) ?_
  refine rgn_read 92 (fun _ _ _ h he => h.read he (by decide)) (fun _ _ hi => ob_load (v := .string nm) (by rfl) (by rfl) (by kernel_rfl) (fun _ he => (cell_of_row _ _ _ _ _ _ ((he.block _ (blk_lt hi.b)).trans hi.b)).trans rfl)) rfl (by rfl) ?_
  refine rgn_eff [.func 61, .tmp 90, .tmp 92] [.func (.func 61) #[] #[], .pointer (some ⟨q, 0, none⟩), .string nm] rfl rfl (by rfl) (fun ρ Ln w hx hi hL _ => uponN_call [.pointer (some ⟨q, 0, none⟩), .string nm] (List.cons.inj hx).1 (List.cons.inj hx).2 cf_rRemove (duoI_r hi hL (by rfl) HB.out OKM.out SOM.out (fun R h1 h2 h3 h4 => by subst h4; exact rremove_in R M nm w h1 h2 HOP.out))) ⟨by rfl, ?_⟩
  refine rgn_read 94 (fun _ _ _ h he => h.read he (by decide)) (fun _ _ hi => ob_icmp true (by rfl) (by rfl) (by rfl) (by unfold icmp; simp)) rfl (by rfl) ?_
  refine rgn_read 6 (fun _ _ _ h he => h.read he (by decide)) (fun _ _ hi => ob_assign (by rfl) (by rfl)) rfl (by rfl) ?_
  refine rgn_end ?_
  intro LL w6 hLL hi6
  simp only [asg, List.set_cons_zero, List.set_cons_succ, List.map_cons, List.map_nil, opens]
  have hd6 := hi6.d
  rw [hLL 3 (by decide), hLL 7 (by decide)] at hd6
  have D6 := hid hd6
  clear hi6 hd6 HI0
  go_wp2_with fail
  go_ret
  exact asked_ext HLT.out E1.out (Nat.le_of_eq (ops_remove M nm)) D6.out
set_option maxRecDepth 100000 in
set_option maxHeartbeats 8000000 in
theorem asked6_in (w0 w : World) (p q : Nat) (M : FsM) (F : Nat → Prop) (nm nt : ByteArray) (nn : Int) (ab ap : Option Addr) (zb zp : Nat) (lb : List UInt8) (lp : List Int) (hD : Duo w0 w p q M M F) (hG : GoodF w0 nm nt (.slice ab lb.length zb) nn (.slice ap lp.length zp) lb lp) (ok : M.Ok ∧ SinceOk M) (ho : M.ops < OpsMax) :
    Calls Try.prog 38 #[.pointer (some ⟨p, 0, none⟩), .pointer (some ⟨q, 0, none⟩), .agg #[.int .i64 6, .string nm, .string nt, .slice ab lb.length zb, .int .i64 nn, .slice ap lp.length zp]] w (AskedP w0 w p q M F) := by
  have HG := hid hG
  have HOK := hid ok
  have HOP := hid ho
  have HLT := hid hD.lt
  clear hG ok ho
  have HB := hid (heap_alloc_new w (.cells #[.int .i64 6, .string nm, .string nt, .slice ab lb.length zb, .int .i64 nn, .slice ap lp.length zp] 73))
  have E1 := hid ((Ext.rfl w).al (.cells #[.int .i64 6, .string nm, .string nt, .slice ab lb.length zb, .int .i64 nn, .slice ap lp.length zp] 73))
  have D1 := hid (hD.ext E1.out)
  obtain ⟨g, hg⟩ : ∃ g, g = w.heap.size := ⟨_, rfl⟩
  have HN := hid (show ¬ F g ∧ g < (w.alloc (.cells #[.int .i64 6, .string nm, .string nt, .slice ab lb.length zb, .int .i64 nn, .slice ap lp.length zp] 73)).heap.size from ⟨fun h => by have := hD.lt g h; omega, by rw [hg, alloc_sizeR]; omega⟩)
  rw [← hg] at HB
  clear hD
  have k0 := cell_of_row _ _ 0 _ _ _ HB.out
  have k1 := cell_of_row _ _ 1 _ _ _ HB.out
  have k3 := cell_of_row _ _ 3 _ _ _ HB.out
  have k4 := cell_of_row _ _ 4 _ _ _ HB.out
  have k5 := cell_of_row _ _ 5 _ _ _ HB.out
  simp only [List.getElem?_toArray, List.getElem?_cons_zero, List.getElem?_cons_succ] at k0 k1 k3 k4 k5
  go_enter Try.func38, Try.ntmps38
  go_wp2_with fail
  generalize w.alloc (.cells #[.int .i64 6, .string nm, .string nt, .slice ab lb.length zb, .int .i64 nn, .slice ap lp.length zp] 73) = w1 at *
  subst hg
  have OKM := hid (show M.syncDir.2.Ok from syncDir_ok HOK.out.1)
  have SOM := hid (show SinceOk M.syncDir.2 from since_syncDir HOK.out.2)
  refine (duo_f (DuoN.same D1.out) OKM.out (fun L h1 h2 h3 _ => by subst h3; exact fsSyncDir_in L M w1 h1 h2 HOP.out)).mono ?_
  rintro e w2 ⟨rfl, h2⟩
  have D2 := hid h2
  clear h2
  go_wp2_with fail
  refine (duo_r D2.out OKM.out SOM.out (fun R h1 h2 h3 h4 _ => by subst h4; exact rsyncDir_in R M w2 h1 h2 HOP.out)).mono ?_
  rintro e w3 ⟨rfl, h3⟩
  have D3 := hid h3
  clear h3
  go_wp2_with fail
  go_ret
  exact asked_ext HLT.out E1.out (Nat.le_of_eq (ops_syncDir M)) D3.out
set_option maxRecDepth 100000 in
set_option maxHeartbeats 8000000 in
theorem asked8_in (w0 w : World) (p q : Nat) (M : FsM) (F : Nat → Prop) (nm nt : ByteArray) (nn : Int) (ab ap : Option Addr) (zb zp : Nat) (lb : List UInt8) (lp : List Int) (hD : Duo w0 w p q M M F) (hG : GoodF w0 nm nt (.slice ab lb.length zb) nn (.slice ap lp.length zp) lb lp) (ok : M.Ok ∧ SinceOk M) (ho : M.ops < OpsMax) :
    Calls Try.prog 38 #[.pointer (some ⟨p, 0, none⟩), .pointer (some ⟨q, 0, none⟩), .agg #[.int .i64 8, .string nm, .string nt, .slice ab lb.length zb, .int .i64 nn, .slice ap lp.length zp]] w (AskedP w0 w p q M F) := by
  have HG := hid hG
  have HOK := hid ok
  have HOP := hid ho
  have HLT := hid hD.lt
  clear hG ok ho
  have HB := hid (heap_alloc_new w (.cells #[.int .i64 8, .string nm, .string nt, .slice ab lb.length zb, .int .i64 nn, .slice ap lp.length zp] 73))
  have E1 := hid ((Ext.rfl w).al (.cells #[.int .i64 8, .string nm, .string nt, .slice ab lb.length zb, .int .i64 nn, .slice ap lp.length zp] 73))
  have D1 := hid (hD.ext E1.out)
  obtain ⟨g, hg⟩ : ∃ g, g = w.heap.size := ⟨_, rfl⟩
  have HN := hid (show ¬ F g ∧ g < (w.alloc (.cells #[.int .i64 8, .string nm, .string nt, .slice ab lb.length zb, .int .i64 nn, .slice ap lp.length zp] 73)).heap.size from ⟨fun h => by have := hD.lt g h; omega, by rw [hg, alloc_sizeR]; omega⟩)
  rw [← hg] at HB
  clear hD
  have k0 := cell_of_row _ _ 0 _ _ _ HB.out
  have k1 := cell_of_row _ _ 1 _ _ _ HB.out
  have k3 := cell_of_row _ _ 3 _ _ _ HB.out
  have k4 := cell_of_row _ _ 4 _ _ _ HB.out
  have k5 := cell_of_row _ _ 5 _ _ _ HB.out
  simp only [List.getElem?_toArray, List.getElem?_cons_zero, List.getElem?_cons_succ] at k0 k1 k3 k4 k5
  go_enter Try.func38, Try.ntmps38
  go_wp2_with fail
  generalize w.alloc (.cells #[.int .i64 8, .string nm, .string nt, .slice ab lb.length zb, .int .i64 nn, .slice ap lp.length zp] 73) = w1 at *
  subst hg
  have OKM := hid (show (M.setFuse nn).Ok from setFuse_ok HOK.out.1 nn (by have := HG.out.n.2; omega))
  have SOM := hid (show SinceOk (M.setFuse nn) from fun c hc => HOK.out.2 c hc)
  refine (duo_f (DuoN.same D1.out) OKM.out (fun L h1 h2 h3 _ => by subst h3; exact fsFuse_in L M nn w1 h1)).mono ?_
  rintro e w2 ⟨rfl, h2⟩
  have D2 := hid h2
  have B2 := hid (box_duo h2 HB.out HN.out.1)
  have k4' := cell_of_row _ _ 4 _ _ _ B2.out
  simp only [List.getElem?_toArray, List.getElem?_cons_zero, List.getElem?_cons_succ] at k4'
  clear h2
  go_wp2_with fail
  refine (duo_r D2.out OKM.out SOM.out (fun R h1 h2 h3 h4 _ => by subst h4; exact rsetFuse_in R M nn w2 h1)).mono ?_
  rintro e w3 ⟨rfl, h3⟩
  have D3 := hid h3
  clear h3
  go_wp2_with fail
  go_ret
  exact asked_ext HLT.out E1.out (show (M.setFuse nn).ops ≤ M.ops + 1 from Nat.le_succ _) D3.out
set_option maxRecDepth 100000 in
set_option maxHeartbeats 8000000 in
theorem asked9_in (w0 w : World) (p q : Nat) (M : FsM) (F : Nat → Prop) (nm nt : ByteArray) (nn : Int) (ab ap : Option Addr) (zb zp : Nat) (lb : List UInt8) (lp : List Int) (hD : Duo w0 w p q M M F) (hG : GoodF w0 nm nt (.slice ab lb.length zb) nn (.slice ap lp.length zp) lb lp) (ok : M.Ok ∧ SinceOk M) (ho : M.ops < OpsMax) :
    Calls Try.prog 38 #[.pointer (some ⟨p, 0, none⟩), .pointer (some ⟨q, 0, none⟩), .agg #[.int .i64 9, .string nm, .string nt, .slice ab lb.length zb, .int .i64 nn, .slice ap lp.length zp]] w (AskedP w0 w p q M F) := by
  have HG := hid hG
  have HOK := hid ok
  have HOP := hid ho
  have HLT := hid hD.lt
  clear hG ok ho
  have HB := hid (heap_alloc_new w (.cells #[.int .i64 9, .string nm, .string nt, .slice ab lb.length zb, .int .i64 nn, .slice ap lp.length zp] 73))
  have E1 := hid ((Ext.rfl w).al (.cells #[.int .i64 9, .string nm, .string nt, .slice ab lb.length zb, .int .i64 nn, .slice ap lp.length zp] 73))
  have D1 := hid (hD.ext E1.out)
  obtain ⟨g, hg⟩ : ∃ g, g = w.heap.size := ⟨_, rfl⟩
  have HN := hid (show ¬ F g ∧ g < (w.alloc (.cells #[.int .i64 9, .string nm, .string nt, .slice ab lb.length zb, .int .i64 nn, .slice ap lp.length zp] 73)).heap.size from ⟨fun h => by have := hD.lt g h; omega, by rw [hg, alloc_sizeR]; omega⟩)
  rw [← hg] at HB
  clear hD
  have k0 := cell_of_row _ _ 0 _ _ _ HB.out
  have k1 := cell_of_row _ _ 1 _ _ _ HB.out
  have k3 := cell_of_row _ _ 3 _ _ _ HB.out
  have k4 := cell_of_row _ _ 4 _ _ _ HB.out
  have k5 := cell_of_row _ _ 5 _ _ _ HB.out
  simp only [List.getElem?_toArray, List.getElem?_cons_zero, List.getElem?_cons_succ] at k0 k1 k3 k4 k5
  go_enter Try.func38, Try.ntmps38
  go_wp2_with fail
  generalize w.alloc (.cells #[.int .i64 9, .string nm, .string nt, .slice ab lb.length zb, .int .i64 nn, .slice ap lp.length zp] 73) = w1 at *
  subst hg
  have OKM := hid (show (M.setFail nn).Ok from setFail_ok HOK.out.1 nn (by have := HG.out.n.2; omega))
  have SOM := hid (show SinceOk (M.setFail nn) from fun c hc => HOK.out.2 c hc)
  refine (duo_f (DuoN.same D1.out) OKM.out (fun L h1 h2 h3 _ => by subst h3; exact fsFail_in L M nn w1 h1)).mono ?_
  rintro e w2 ⟨rfl, h2⟩
  have D2 := hid h2
  have B2 := hid (box_duo h2 HB.out HN.out.1)
  have k4' := cell_of_row _ _ 4 _ _ _ B2.out
  simp only [List.getElem?_toArray, List.getElem?_cons_zero, List.getElem?_cons_succ] at k4'
  clear h2
  go_wp2_with fail
  refine (duo_r D2.out OKM.out SOM.out (fun R h1 h2 h3 h4 _ => by subst h4; exact rsetFail_in R M nn w2 h1)).mono ?_
  rintro e w3 ⟨rfl, h3⟩
  have D3 := hid h3
  clear h3
  go_wp2_with fail
  go_ret
  exact asked_ext HLT.out E1.out (show (M.setFail nn).ops ≤ M.ops + 1 from Nat.le_succ _) D3.out
set_option maxRecDepth 100000 in
set_option maxHeartbeats 8000000 in
theorem asked11_in (w0 w : World) (p q : Nat) (M : FsM) (F : Nat → Prop) (nm nt : ByteArray) (nn : Int) (ab ap : Option Addr) (zb zp : Nat) (lb : List UInt8) (lp : List Int) (hD : Duo w0 w p q M M F) (hG : GoodF w0 nm nt (.slice ab lb.length zb) nn (.slice ap lp.length zp) lb lp) (ok : M.Ok ∧ SinceOk M) (ho : M.ops < OpsMax) :
    Calls Try.prog 38 #[.pointer (some ⟨p, 0, none⟩), .pointer (some ⟨q, 0, none⟩), .agg #[.int .i64 11, .string nm, .string nt, .slice ab lb.length zb, .int .i64 nn, .slice ap lp.length zp]] w (AskedP w0 w p q M F) := by
  have HG := hid hG
  have HOK := hid ok
  have HOP := hid ho
  have HLT := hid hD.lt
  clear hG ok ho
  have HB := hid (heap_alloc_new w (.cells #[.int .i64 11, .string nm, .string nt, .slice ab lb.length zb, .int .i64 nn, .slice ap lp.length zp] 73))
  have E1 := hid ((Ext.rfl w).al (.cells #[.int .i64 11, .string nm, .string nt, .slice ab lb.length zb, .int .i64 nn, .slice ap lp.length zp] 73))
  have D1 := hid (hD.ext E1.out)
  obtain ⟨g, hg⟩ : ∃ g, g = w.heap.size := ⟨_, rfl⟩
  have HN := hid (show ¬ F g ∧ g < (w.alloc (.cells #[.int .i64 11, .string nm, .string nt, .slice ab lb.length zb, .int .i64 nn, .slice ap lp.length zp] 73)).heap.size from ⟨fun h => by have := hD.lt g h; omega, by rw [hg, alloc_sizeR]; omega⟩)
  rw [← hg] at HB
  clear hD
  have k0 := cell_of_row _ _ 0 _ _ _ HB.out
  have k1 := cell_of_row _ _ 1 _ _ _ HB.out
  have k3 := cell_of_row _ _ 3 _ _ _ HB.out
  have k4 := cell_of_row _ _ 4 _ _ _ HB.out
  have k5 := cell_of_row _ _ 5 _ _ _ HB.out
  simp only [List.getElem?_toArray, List.getElem?_cons_zero, List.getElem?_cons_succ] at k0 k1 k3 k4 k5
  go_enter Try.func38, Try.ntmps38
  go_wp2_with fail
  generalize w.alloc (.cells #[.int .i64 11, .string nm, .string nt, .slice ab lb.length zb, .int .i64 nn, .slice ap lp.length zp] 73) = w1 at *
  subst hg
  have OKM := hid (show (M.crash lp).Ok from crash_ok HOK.out.1 lp)
  have SOM := hid (show SinceOk (M.crash lp) from since_crash M lp)
  refine (duo_f (DuoN.same D1.out) OKM.out (fun L h1 h2 h3 h4 => by subst h3; exact fsCrash_in L M _ lp w1 h1 h2 (Nat.le_of_lt HOP.out) (HG.out.p.go D1.out.xt) (fun hn k hk hf => by have a := h4 k hf; have b := sl1_lt HG.out.p.1 hn k hk; omega))).mono ?_
  rintro e w2 ⟨rfl, h2⟩
  have D2 := hid h2
  have B2 := hid (box_duo h2 HB.out HN.out.1)
  have k5' := cell_of_row _ _ 5 _ _ _ B2.out
  simp only [List.getElem?_toArray, List.getElem?_cons_zero, List.getElem?_cons_succ] at k5'
  clear h2
  go_wp2_with fail
  refine (duo_r D2.out OKM.out SOM.out (fun R h1 h2 h3 h4 h5 => by subst h4; exact rcrash_in R M _ lp w2 h1 h2 h3 (Nat.le_of_lt HOP.out) (HG.out.p.go D2.out.xt) (fun w' hc => HG.out.p.go (((Ch.of_ext D2.out.xt).tr hc).ext fun k hk hf => by have a := h5 k hf; omega)))).mono ?_
  rintro e w3 ⟨rfl, h3⟩
  have D3 := hid h3
  clear h3
  go_wp2_with fail
  go_ret
  exact asked_ext HLT.out E1.out (show (M.crash lp).ops ≤ M.ops + 1 from Nat.le_succ _) D3.out
set_option maxRecDepth 100000 in
set_option maxHeartbeats 8000000 in
theorem askedX_in (kd : Int) (hk : ∀ j : Int, 1 ≤ j → j ≤ 11 → kd ≠ j) (w0 w : World) (p q : Nat) (M : FsM) (F : Nat → Prop) (nm nt : ByteArray) (nn : Int) (ab ap : Option Addr) (zb zp : Nat) (lb : List UInt8) (lp : List Int) (hD : Duo w0 w p q M M F) (hG : GoodF w0 nm nt (.slice ab lb.length zb) nn (.slice ap lp.length zp) lb lp) (ok : M.Ok ∧ SinceOk M) (ho : M.ops < OpsMax) :
    Calls Try.prog 38 #[.pointer (some ⟨p, 0, none⟩), .pointer (some ⟨q, 0, none⟩), .agg #[.int .i64 kd, .string nm, .string nt, .slice ab lb.length zb, .int .i64 nn, .slice ap lp.length zp]] w (AskedP w0 w p q M F) := by
  have HG := hid hG
  have HOK := hid ok
  have HOP := hid ho
  have HLT := hid hD.lt
  clear hG ok ho
  have HB := hid (heap_alloc_new w (.cells #[.int .i64 kd, .string nm, .string nt, .slice ab lb.length zb, .int .i64 nn, .slice ap lp.length zp] 73))
  have E1 := hid ((Ext.rfl w).al (.cells #[.int .i64 kd, .string nm, .string nt, .slice ab lb.length zb, .int .i64 nn, .slice ap lp.length zp] 73))
  have D1 := hid (hD.ext E1.out)
  obtain ⟨g, hg⟩ : ∃ g, g = w.heap.size := ⟨_, rfl⟩
  have HN := hid (show ¬ F g ∧ g < (w.alloc (.cells #[.int .i64 kd, .string nm, .string nt, .slice ab lb.length zb, .int .i64 nn, .slice ap lp.length zp] 73)).heap.size from ⟨fun h => by have := hD.lt g h; omega, by rw [hg, alloc_sizeR]; omega⟩)
  rw [← hg] at HB
  clear hD
  have k0 := cell_of_row _ _ 0 _ _ _ HB.out
  have k1 := cell_of_row _ _ 1 _ _ _ HB.out
  have k3 := cell_of_row _ _ 3 _ _ _ HB.out
  have k4 := cell_of_row _ _ 4 _ _ _ HB.out
  have k5 := cell_of_row _ _ 5 _ _ _ HB.out
  simp only [List.getElem?_toArray, List.getElem?_cons_zero, List.getElem?_cons_succ] at k0 k1 k3 k4 k5
  go_enter Try.func38, Try.ntmps38
  have x1 : (kd == 1) = false := by rw [beq_eq_false_iff_ne]; exact hk 1 (by decide) (by decide)
  have x2 : (kd == 2) = false := by rw [beq_eq_false_iff_ne]; exact hk 2 (by decide) (by decide)
  have x3 : (kd == 3) = false := by rw [beq_eq_false_iff_ne]; exact hk 3 (by decide) (by decide)
  have x4 : (kd == 4) = false := by rw [beq_eq_false_iff_ne]; exact hk 4 (by decide) (by decide)
  have x5 : (kd == 5) = false := by rw [beq_eq_false_iff_ne]; exact hk 5 (by decide) (by decide)
  have x6 : (kd == 6) = false := by rw [beq_eq_false_iff_ne]; exact hk 6 (by decide) (by decide)
  have x7 : (kd == 7) = false := by rw [beq_eq_false_iff_ne]; exact hk 7 (by decide) (by decide)
  have x8 : (kd == 8) = false := by rw [beq_eq_false_iff_ne]; exact hk 8 (by decide) (by decide)
  have x9 : (kd == 9) = false := by rw [beq_eq_false_iff_ne]; exact hk 9 (by decide) (by decide)
  have x10 : (kd == 10) = false := by rw [beq_eq_false_iff_ne]; exact hk 10 (by decide) (by decide)
  have x11 : (kd == 11) = false := by rw [beq_eq_false_iff_ne]; exact hk 11 (by decide) (by decide)
  go_wp2_with fail
  generalize w.alloc (.cells #[.int .i64 kd, .string nm, .string nt, .slice ab lb.length zb, .int .i64 nn, .slice ap lp.length zp] 73) = w1 at *
  subst hg
  go_ret
  exact asked_ext HLT.out E1.out (Nat.le_succ _) (DuoN.same D1.out)
set_option maxRecDepth 100000 in
set_option maxHeartbeats 8000000 in
theorem asked10_in (w0 w : World) (p q : Nat) (M : FsM) (F : Nat → Prop) (nm nt : ByteArray) (nn : Int) (ab ap : Option Addr) (zb zp : Nat) (lb : List UInt8) (lp : List Int) (hD : Duo w0 w p q M M F) (hG : GoodF w0 nm nt (.slice ab lb.length zb) nn (.slice ap lp.length zp) lb lp) (ok : M.Ok ∧ SinceOk M) (ho : M.ops < OpsMax) :
    Calls Try.prog 38 #[.pointer (some ⟨p, 0, none⟩), .pointer (some ⟨q, 0, none⟩), .agg #[.int .i64 10, .string nm, .string nt, .slice ab lb.length zb, .int .i64 nn, .slice ap lp.length zp]] w (AskedP w0 w p q M F) := by
  have HG := hid hG
  have HOK := hid ok
  have HOP := hid ho
  have HLT := hid hD.lt
  clear hG ok ho
  have HB := hid (heap_alloc_new w (.cells #[.int .i64 10, .string nm, .string nt, .slice ab lb.length zb, .int .i64 nn, .slice ap lp.length zp] 73))
  have E1 := hid ((Ext.rfl w).al (.cells #[.int .i64 10, .string nm, .string nt, .slice ab lb.length zb, .int .i64 nn, .slice ap lp.length zp] 73))
  have D1 := hid (hD.ext E1.out)
  obtain ⟨g, hg⟩ : ∃ g, g = w.heap.size := ⟨_, rfl⟩
  have HN := hid (show ¬ F g ∧ g < (w.alloc (.cells #[.int .i64 10, .string nm, .string nt, .slice ab lb.length zb, .int .i64 nn, .slice ap lp.length zp] 73)).heap.size from ⟨fun h => by have := hD.lt g h; omega, by rw [hg, alloc_sizeR]; omega⟩)
  rw [← hg] at HB
  clear hD
  have k0 := cell_of_row _ _ 0 _ _ _ HB.out
  have k1 := cell_of_row _ _ 1 _ _ _ HB.out
  have k3 := cell_of_row _ _ 3 _ _ _ HB.out
  have k4 := cell_of_row _ _ 4 _ _ _ HB.out
  have k5 := cell_of_row _ _ 5 _ _ _ HB.out
  simp only [List.getElem?_toArray, List.getElem?_cons_zero, List.getElem?_cons_succ] at k0 k1 k3 k4 k5
  go_enter Try.func38, Try.ntmps38
  go_upto_if 163 with fail
  generalize w.alloc (.cells #[.int .i64 10, .string nm, .string nt, .slice ab lb.length zb, .int .i64 nn, .slice ap lp.length zp] 73) = w1 at *
  have k3s := k3
  rw [hg] at k3s
  go_cut [16] from 160 to 167 (fun v wx => ∃ tu : UInt8, v = .int .u8 tu.toNat ∧ wx = w1)
  case first =>
    by_cases hl : 0 < lb.length
    · obtain ⟨a9, c9, e9, _, _, hc9⟩ := (HG.out.b.go D1.out.xt).ex
      simp only [Value.slice.injEq] at e9
      obtain ⟨rfl, _, rfl⟩ := e9
      obtain ⟨b, off, rfl, hc⟩ := hc9 hl
      have c0 := hc 0 hl
      rw [Nat.add_zero] at c0
      have d1 : decide ((0 : Int) < (lb.length : Int)) = true := decide_eq_true (by omega)
      clear hc hc9
      go_wp2_with fail
      go_meet
      case rel => exact ⟨nth lb 0, rfl, rfl⟩
    · have d1 : decide ((0 : Int) < (lb.length : Int)) = false := decide_eq_false (by omega)
      go_wp2_with fail
      go_meet
      case rel => exact ⟨0, rfl, rfl⟩
  case rest =>
    obtain ⟨tu, rfl, hw⟩ := hcut
    subst hw
    clear k3s
    go_wp2_with fail
    rw [← hg]
    have OKM := hid (show (M.damage nm nn tu).2.Ok from damage_ok HOK.out.1 nm nn tu)
    have SOM := hid (show SinceOk (M.damage nm nn tu).2 from since_damage HOK.out.2 nm nn tu)
    have HI0 : DuoI w0 wc p q g #[.int .i64 10, .string nm, .string nt, .slice ab lb.length zb, .int .i64 nn, .slice ap lp.length zp] M (M.damage nm nn tu).2 F 6 13 (fun _ => false) wc := ⟨DuoN.same D1.out, HB.out, HN.out⟩
    refine wp_drawN (DuoI w0 wc p q g #[.int .i64 10, .string nm, .string nt, .slice ab lb.length zb, .int .i64 nn, .slice ap lp.length zp] M (M.damage nm nn tu).2 F 6 13) (by kernel_rfl) (by kernel_rfl) (fun _ _ _ h he => h.go he) HI0 ?_
    refine rgn_read 168 (fun _ _ _ h he => h.read he (by decide)) (fun _ _ hi => ob_move (by rfl) (by rfl)) rfl (by rfl) ?_
    refine rgn_read 169 (fun _ _ _ h he => h.read he (by decide)) (fun _ _ hi => ob_field (n := 0) 1 1 9 (by rfl) (by rfl) Try.underlying73 (by rfl) (by kernel_rfl) rfl) rfl (by rfl) ?_
    refine rgn_read 170 (fun _ _ _ h he => h.read he (by decide)) (fun _ _ hi => ob_load (v := .string nm) (by rfl) (by rfl) (by kernel_rfl) (fun _ he => (cell_of_row _ _ _ _ _ _ ((he.block _ (blk_lt hi.b)).trans hi.b)).trans rfl)) rfl (by rfl) ?_
    refine rgn_read 171 (fun _ _ _ h he => h.read he (by decide)) (fun _ _ hi => ob_field (n := 0) 4 4 3 (by rfl) (by rfl) Try.underlying73 (by rfl) (by kernel_rfl) rfl) rfl (by rfl) ?_
    refine rgn_read 172 (fun _ _ _ h he => h.read he (by decide)) (fun _ _ hi => ob_load (v := .int .i64 nn) (by rfl) (by rfl) (by kernel_rfl) (fun _ he => (cell_of_row _ _ _ _ _ _ ((he.block _ (blk_lt hi.b)).trans hi.b)).trans rfl)) rfl (by rfl) ?_
    refine rgn_read 173 (fun _ _ _ h he => h.read he (by decide)) (fun _ _ hi => ob_move (by rfl) (by rfl)) rfl (by rfl) ?_
    refine rgn_eff [.func 43, .tmp 168, .tmp 170, .tmp 172, .tmp 173] [.func (.func 43) #[] #[], .pointer (some ⟨p, 0, none⟩), .string nm, .int .i64 nn, .int .u8 tu.toNat] rfl rfl (by rfl) (fun ρ Ln w hx hi hL _ => uponN_call [.pointer (some ⟨p, 0, none⟩), .string nm, .int .i64 nn, .int .u8 tu.toNat] (List.cons.inj hx).1 (List.cons.inj hx).2 cf_fDamage (duoI_f hi hL (by rfl) HB.out OKM.out (fun L h1 h2 h3 => by subst h3; exact fsDamage_in L M nm nn tu w h1 h2))) ⟨by rfl, ?_⟩
    refine rgn_read 175 (fun _ _ _ h he => h.read he (by decide)) (fun _ _ hi => ob_move (by rfl) (by rfl)) rfl (by rfl) ?_
    refine rgn_read 176 (fun _ _ _ h he => h.read he (by decide)) (fun _ _ hi => ob_field (n := 0) 1 1 9 (by rfl) (by rfl) Try.underlying73 (by rfl) (by kernel_rfl) rfl) rfl (by rfl) ?_
    refine rgn_read 177 (fun _ _ _ h he => h.read he (by decide)) (fun _ _ hi => ob_load (v := .string nm) (by rfl) (by rfl) (by kernel_rfl) (fun _ he => (cell_of_row _ _ _ _ _ _ ((he.block _ (blk_lt hi.b)).trans hi.b)).trans rfl)) rfl (by rfl) ?_
    refine rgn_read 178 (fun _ _ _ h he => h.read he (by decide)) (fun _ _ hi => ob_field (n := 0) 4 4 3 (by rfl) (by rfl) Try.underlying73 (by rfl) (by kernel_rfl) rfl) rfl (by rfl) ?_
    refine rgn_read 179 (fun _ _ _ h he => h.read he (by decide)) (fun _ _ hi => ob_load (v := .int .i64 nn) (by rfl) (by rfl) (by kernel_rfl) (fun _ he => (cell_of_row _ _ _ _ _ _ ((he.block _ (blk_lt hi.b)).trans hi.b)).trans rfl)) rfl (by rfl) ?_
    refine rgn_read 180 (fun _ _ _ h he => h.read he (by decide)) (fun _ _ hi => ob_move (by rfl) (by rfl)) rfl (by rfl) ?_
    refine rgn_eff [.func 66, .tmp 175, .tmp 177, .tmp 179, .tmp 180] [.func (.func 66) #[] #[], .pointer (some ⟨q, 0, none⟩), .string nm, .int .i64 nn, .int .u8 tu.toNat] rfl rfl (by rfl) (fun ρ Ln w hx hi hL _ => uponN_call [.pointer (some ⟨q, 0, none⟩), .string nm, .int .i64 nn, .int .u8 tu.toNat] (List.cons.inj hx).1 (List.cons.inj hx).2 cf_rDamage (duoI_r hi hL (by rfl) HB.out OKM.out SOM.out (fun R h1 h2 h3 h4 => by subst h4; exact rdamage_in R M nm nn tu w h1 h2))) ⟨by rfl, ?_⟩
    refine rgn_read 182 (fun _ _ _ h he => h.read he (by decide)) (fun _ _ hi => ob_icmp true (by rfl) (by rfl) (by rfl) (by unfold icmp; simp)) rfl (by rfl) ?_
    refine rgn_read 6 (fun _ _ _ h he => h.read he (by decide)) (fun _ _ hi => ob_assign (by rfl) (by rfl)) rfl (by rfl) ?_
    refine rgn_end ?_
    intro LL w6 hLL hi6
    simp only [asg, List.set_cons_zero, List.set_cons_succ, List.map_cons, List.map_nil, opens]
    have hd6 := hi6.d
    rw [hLL 6 (by decide), hLL 13 (by decide)] at hd6
    have D6 := hid hd6
    clear hi6 hd6 HI0
    go_wp2_with fail
    go_ret
    exact asked_ext HLT.out E1.out (Nat.le_trans (Nat.le_of_eq (ops_damage M nm nn tu)) (Nat.le_succ _)) D6.out
set_option maxRecDepth 100000 in
set_option maxHeartbeats 8000000 in
theorem asked7_in (w0 w : World) (p q : Nat) (M : FsM) (F : Nat → Prop) (nm nt : ByteArray) (nn : Int) (ab ap : Option Addr) (zb zp : Nat) (lb : List UInt8) (lp : List Int) (hD : Duo w0 w p q M M F) (hG : GoodF w0 nm nt (.slice ab lb.length zb) nn (.slice ap lp.length zp) lb lp) (ok : M.Ok ∧ SinceOk M) (ho : M.ops < OpsMax) :
    Calls Try.prog 38 #[.pointer (some ⟨p, 0, none⟩), .pointer (some ⟨q, 0, none⟩), .agg #[.int .i64 7, .string nm, .string nt, .slice ab lb.length zb, .int .i64 nn, .slice ap lp.length zp]] w (AskedP w0 w p q M F) := by
  have HG := hid hG
  have HOK := hid ok
  have HOP := hid ho
  have HLT := hid hD.lt
  clear hG ok ho
  have HB := hid (heap_alloc_new w (.cells #[.int .i64 7, .string nm, .string nt, .slice ab lb.length zb, .int .i64 nn, .slice ap lp.length zp] 73))
  have E1 := hid ((Ext.rfl w).al (.cells #[.int .i64 7, .string nm, .string nt, .slice ab lb.length zb, .int .i64 nn, .slice ap lp.length zp] 73))
  have D1 := hid (hD.ext E1.out)
  obtain ⟨g, hg⟩ : ∃ g, g = w.heap.size := ⟨_, rfl⟩
  have HN := hid (show ¬ F g ∧ g < (w.alloc (.cells #[.int .i64 7, .string nm, .string nt, .slice ab lb.length zb, .int .i64 nn, .slice ap lp.length zp] 73)).heap.size from ⟨fun h => by have := hD.lt g h; omega, by rw [hg, alloc_sizeR]; omega⟩)
  rw [← hg] at HB
  clear hD
  have k0 := cell_of_row _ _ 0 _ _ _ HB.out
  have k1 := cell_of_row _ _ 1 _ _ _ HB.out
  have k3 := cell_of_row _ _ 3 _ _ _ HB.out
  have k4 := cell_of_row _ _ 4 _ _ _ HB.out
  have k5 := cell_of_row _ _ 5 _ _ _ HB.out
  simp only [List.getElem?_toArray, List.getElem?_cons_zero, List.getElem?_cons_succ] at k0 k1 k3 k4 k5
  go_enter Try.func38, Try.ntmps38
  obtain ⟨L, R, rfl, rfl, h1, h2, -, -, -, -, -, -, -⟩ := id D1.out
  generalize hr : M.read nm = r
  obtain ⟨rb, re⟩ := r
  have HR := hid hr
  clear hr
  go_wp2_with fail
  generalize w.alloc (.cells #[.int .i64 7, .string nm, .string nt, .slice ab lb.length zb, .int .i64 nn, .slice ap lp.length zp] 73) = w1 at *
  subst hg
  have H2 := hid h2
  refine (fsRead_in L M nm w1 h1 HOK.out.1).mono ?_
  rintro e w2 ⟨v2, rfl, hv2⟩
  rw [HR.out] at hv2 ⊢
  have h5 : BytesNew w1 rb v2 w2 := hv2
  obtain ⟨a2, c2, rfl, hm2⟩ := slice_ofG h5.1
  have O2 := hid h5.1
  have X2 := hid h5.2
  have k1' := ext_cell h5.2 k1
  clear hv2 h5 h1 h2 k0 k1 k3 k4 k5
  go_wp2_with fail
  refine (rread_in R M nm w2 (H2.out.ext X2.out) HOK.out.1).mono ?_
  rintro e w3 ⟨v3, rfl, hv3, he3⟩
  rw [HR.out] at hv3 ⊢
  have h6 : SlB w3 v3 rb := hv3
  obtain ⟨a3, c3, rfl, _⟩ := h6.ex
  have k1 := conv_slB (owns_slB (owns_ext O2.out he3))
  have k2 := conv_slB h6
  have hro := hid (rowOk_of (owns_ext O2.out he3))
  have X3 := hid (X2.out.tr he3)
  have hre : (re == re) = true := by simp
  unfold maxLen at hm2
  clear hv3 h6 he3 k1' O2 X2
  go_wp2_with fail
  go_loopw [15] (fun u wr => ∃ k : Nat, k ≤ rb.length ∧ u = .int .i64 k ∧ Ext w1 wr ∧ RowOk w1.heap.size a2 rb.length wr) (fun u _ => rb.length - (intOf u).toNat)
  case atStart => exact ⟨0, Nat.zero_le _, rfl, X3.out, hro.out⟩
  case round =>
    clear k1 k2 hro X3
    obtain ⟨k, hk, rfl, he, hro⟩ := hrel
    have E := hid he
    have HRO := hid hro
    clear he hro
    by_cases hlt : k < rb.length
    · obtain ⟨g2, cur, rfl, hlo, hg2, hsz⟩ := HRO.out.resolve_left (by omega)
      obtain ⟨u0, hu0⟩ := row_cell hg2 (Nat.lt_of_lt_of_le hlt hsz)
      have hf0 : ∀ j, wr.frozen? ⟨g2, j, none⟩ = false := fun j => frozen_of_row _ _ _ _ _ hg2
      have HX := hid (row_set (x := .int .u8 99) E.out hlo hg2 hsz k)
      clear hg2 hsz hlo
      go_wp2_with fail
      go_roundw
      case rel => exact ⟨k + 1, hlt, by go_num, HX.out.1, HX.out.2⟩
      case measure => simp [intOf]; omega
    · have hke : k = rb.length := by omega
      subst hke
      go_wp2_with fail
      go_ret
      exact asked_ext HLT.out E1.out (Nat.le_succ _) ((DuoN.same D1.out).ext E.out)
set_option maxRecDepth 100000 in
set_option maxHeartbeats 8000000 in
theorem asked2_in (w0 w : World) (p q : Nat) (M : FsM) (F : Nat → Prop) (nm nt : ByteArray) (nn : Int) (ab ap : Option Addr) (zb zp : Nat) (lb : List UInt8) (lp : List Int) (hD : Duo w0 w p q M M F) (hG : GoodF w0 nm nt (.slice ab lb.length zb) nn (.slice ap lp.length zp) lb lp) (ok : M.Ok ∧ SinceOk M) (ho : M.ops < OpsMax) :
    Calls Try.prog 38 #[.pointer (some ⟨p, 0, none⟩), .pointer (some ⟨q, 0, none⟩), .agg #[.int .i64 2, .string nm, .string nt, .slice ab lb.length zb, .int .i64 nn, .slice ap lp.length zp]] w (AskedP w0 w p q M F) := by
  have HG := hid hG
  have HOK := hid ok
  have HOP := hid ho
  have HLT := hid hD.lt
  clear hG ok ho
  have HB := hid (heap_alloc_new w (.cells #[.int .i64 2, .string nm, .string nt, .slice ab lb.length zb, .int .i64 nn, .slice ap lp.length zp] 73))
  have E1 := hid ((Ext.rfl w).al (.cells #[.int .i64 2, .string nm, .string nt, .slice ab lb.length zb, .int .i64 nn, .slice ap lp.length zp] 73))
  have D1 := hid (hD.ext E1.out)
  obtain ⟨g, hg⟩ : ∃ g, g = w.heap.size := ⟨_, rfl⟩
  have HN := hid (show ¬ F g ∧ g < (w.alloc (.cells #[.int .i64 2, .string nm, .string nt, .slice ab lb.length zb, .int .i64 nn, .slice ap lp.length zp] 73)).heap.size from ⟨fun h => by have := hD.lt g h; omega, by rw [hg, alloc_sizeR]; omega⟩)
  rw [← hg] at HB
  clear hD
  have k0 := cell_of_row _ _ 0 _ _ _ HB.out
  have k1 := cell_of_row _ _ 1 _ _ _ HB.out
  have k3 := cell_of_row _ _ 3 _ _ _ HB.out
  have k4 := cell_of_row _ _ 4 _ _ _ HB.out
  have k5 := cell_of_row _ _ 5 _ _ _ HB.out
  simp only [List.getElem?_toArray, List.getElem?_cons_zero, List.getElem?_cons_succ] at k0 k1 k3 k4 k5
  go_enter Try.func38, Try.ntmps38
  have OKM := hid (show (M.append nm lb).2.Ok from append_ok HOK.out.1 nm lb)
  have SOM := hid (show SinceOk (M.append nm lb).2 from since_append HOK.out.2 nm lb)
  go_upto_region 5 with fail
  generalize w.alloc (.cells #[.int .i64 2, .string nm, .string nt, .slice ab lb.length zb, .int .i64 nn, .slice ap lp.length zp] 73) = w1 at *
  subst hg
  obtain ⟨v4, w4, hap, hp4⟩ := app_bytes (xs := []) (own_new0 w1 _ _) ((HG.out.b.go D1.out.xt).go ((Ext.rfl w1).al (.cells #[] 5))) (by simpa using HG.out.lb) 53
  obtain ⟨a4, c4, rfl, hm4⟩ := slice_ofG hp4.own
  have X4 := hid (app_ext ((Ext.rfl w1).al (.cells #[] 5)) hp4 (fun k hk => by cases hk; exact Nat.le_refl _))
  have HAP := hid hap
  have O4 := hid (show w4.ownsRow w1.heap.size 5 1 (.slice a4 lb.length c4) lb.length (Lib.byteCells lb) from owns_up hp4.own X4.out.2)
  have hgl := HN.out.2
  have hgn : w1.heap.size ≠ w.heap.size := by omega
  clear hap hp4
  unfold maxLen at hm4
  rw [List.nil_append] at hm4
  go_upto_region 6 with (at_builtin; refine wpList_app_eq rfl rfl HAP.out ?_)
  have k1' := ext_cell X4.out.1 k1
  clear k0 k1 k3 k4 k5 hgl hgn
  go_wp2_with fail
  refine (duo_f (DuoN.same (D1.out.ext X4.out.1)) OKM.out (fun L h1 h2 h3 _ => by subst h3; exact fsAppend_in L M nm _ lb w4 h1 h2 HOP.out (owns_slB O4.out) HG.out.lb)).mono ?_
  rintro e w5 ⟨rfl, F5, d5, ch5, f5⟩
  have D5 := hid d5
  have C5 := hid ch5
  have F5' := hid f5
  have hro := hid (rowOk_of (owns_ch O4.out fun k hk => ch5.block k (by obtain ⟨cs, hx⟩ := own_ltG O4.out hk; exact blk_lt hx) fun hf => by have := HLT.out k hf; have := owns_lo O4.out hk; have := E1.out.size; omega))
  have CW := hid (show Ch (fun k => F k ∨ w1.heap.size ≤ k) w1 w5 from (Ch.of_ext X4.out.1).tr (ch5.mono fun k _ hk => .inl hk))
  have HG4 := hid (fun (g2 : Nat) (h : RowAt a4 g2) (hn : 0 < lb.length) => show g2 < w4.heap.size from row_lt O4.out h hn)
  clear d5 ch5 f5 k1'
  go_wp2_with fail
  go_loopw [9] (fun u wr => ∃ k : Nat, k ≤ lb.length ∧ u = .int .i64 k ∧ Duo w0 wr p q (M.append nm lb).2 M F5 ∧ RowOk w1.heap.size a4 lb.length wr ∧ Ch (fun k => F k ∨ w1.heap.size ≤ k) w1 wr) (fun u _ => lb.length - (intOf u).toNat)
  case atStart => exact ⟨0, Nat.zero_le _, rfl, D5.out, hro.out, CW.out⟩
  case round =>
    clear hro D5 CW
    obtain ⟨k, hk, rfl, hd, hro, hc⟩ := hrel
    have D := hid hd
    have HRO := hid hro
    have C := hid hc
    clear hd hro hc
    by_cases hlt : k < lb.length
    · obtain ⟨g2, cur, hat, hlo, hg2, hsz⟩ := HRO.out.resolve_left (by omega)
      subst hat
      obtain ⟨u0, hu0⟩ := row_cell hg2 (Nat.lt_of_lt_of_le hlt hsz)
      have hf0 : ∀ j, wr.frozen? ⟨g2, j, none⟩ = false := fun j => frozen_of_row _ _ _ _ _ hg2
      have hx4 := HG4.out g2 rfl (by omega)
      have HX := hid (row_set2 (x := .int .u8 99) C.out hlo hg2 hsz k)
      have HD := hid (D.out.ch (G := fun b => b = g2) ((Ch.rfl _ wr).setC (b := g2) (o := k) (v := .int .u8 99) rfl) (fun b hb e => by subst e; exact far5 (HLT.out _) E1.out.size (F5'.out _ hb) hlo hx4) (fun b e => by subst e; have := D1.out.xt.size; omega))
      clear hg2 hsz hlo hx4
      go_wp2_with fail
      go_roundw
      case rel => exact ⟨k + 1, hlt, by go_num, HD.out, HX.out.1, HX.out.2⟩
      case measure => simp [intOf]; omega
    · have hke : k = lb.length := by omega
      subst hke
      have hbr : wr.heap[w.heap.size]? = _ := (C.out.block _ HN.out.2 fun h => h.elim HN.out.1 fun h => by have := HN.out.2; omega).trans HB.out
      have k1 := cell_of_row _ _ 1 _ _ _ hbr
      have k3 := cell_of_row _ _ 3 _ _ _ hbr
      simp only [List.getElem?_toArray, List.getElem?_cons_zero, List.getElem?_cons_succ] at k1 k3
      clear hbr
      go_wp2_with fail
      refine (duo_r (DuoN.same D.out) OKM.out SOM.out (fun R h1 h2 h3 h4 _ => by subst h4; exact rappend_in R M nm _ lb wr h1 h2 HOP.out (HG.out.b.go D.out.xt) HG.out.lb)).mono ?_
      rintro e w7 ⟨rfl, F7, d7, ch7, f7⟩
      have D7 := hid d7
      have C7 := hid ch7
      have F7' := hid f7
      clear d7 ch7 f7
      go_wp2_with fail
      go_ret
      refine ⟨rfl, _, Nat.le_of_eq (ops_append M nm lb), F7, D7.out, ?_, fun x hx => ?_⟩
      · refine ch_after (ch_after (Ch.of_ext E1.out) C.out fun x hx => hx.imp id fun h => Nat.le_trans E1.out.size h) C7.out fun x hx => (F5'.out x hx).imp id fun h => ?_
        exact Nat.le_trans E1.out.size (Nat.le_trans X4.out.1.size h)
      · rcases F7'.out x hx with h | h
        · exact (F5'.out x h).imp id fun h => Nat.le_trans E1.out.size (Nat.le_trans X4.out.1.size h)
        · exact .inr (Nat.le_trans E1.out.size (Nat.le_trans C.out.size h))
end Go.Proofs.Ytjekfifnhdoamaa
