/- The operations of a region, each told by what it yields. -/
import Derived.Test.YtjekfifnhdoamaaRg
set_option linter.unusedSimpArgs false
set_option linter.unusedVariables false
set_option linter.unnecessarySimpa false
namespace Go.Rg
open Go.RowKit

def lk (s : Nat → Option SV) : Operand → Option SV
  | .tmp t => s t
  | .const v => some (.ex v)
  | .global g => some (.ex (.pointer (some ⟨g, 0, none⟩)))
  | .func f => some (.ex (.func (.func f) #[] #[]))

def gw (ops : Array Oper) (s : Nat → Option SV) (o : Oper) : Option Bool :=
  match o.guard with
  | none => some true
  | some (j, want) =>
    match (ops[j]?).bind (·.dst) with
    | none => none
    | some t =>
      match s t with
      | some (.ex (.bool b)) => some (b == want)
      | some (.ex (.tuple _)) => some false
      | _ => none

section
variable {P : Program} {ops : Array Oper} {w0 : World} {s : Nat → Option SV} {o : Oper} {V : SV}

theorem lk_holds {a : Act} {w : World} {x : Operand} (hx : x ∈ o.op.operands.toList) (hv : lk s x = some V)
    (h : ∀ t ∈ o.looksAt ops, ∀ V', s t = some V' → t < a.tmps.size ∧ V'.holds (a.tmps.getD t undef) w) : V.holds (a.eval x) w := by
  cases x with
  | tmp t =>
    refine (h t ?_ V hv).2
    unfold Oper.looksAt
    exact List.mem_append.2 (.inl (List.mem_filterMap.2 ⟨_, hx, rfl⟩))
  | const v => cases hv; exact rfl
  | global g => cases hv; exact rfl
  | func f => cases hv; exact rfl

theorem gw_wanted {a : Act} {w : World} {b : Bool} (hg : gw ops s o = some b)
    (h : ∀ t ∈ o.looksAt ops, ∀ V', s t = some V' → t < a.tmps.size ∧ V'.holds (a.tmps.getD t undef) w) : Region.wanted o (yielded ops a.tmps) = b := by
  unfold gw at hg
  unfold Region.wanted
  cases hgd : o.guard with
  | none => rw [hgd] at hg; simpa using hg
  | some jw =>
    obtain ⟨j, want⟩ := jw
    rw [hgd] at hg
    simp only at hg ⊢
    cases hd : (ops[j]?).bind (·.dst) with
    | none => rw [hd] at hg; cases hg
    | some t =>
      rw [hd] at hg
      simp only at hg
      cases hst : s t with
      | none => rw [hst] at hg; cases hg
      | some V' =>
        have hm : t ∈ o.looksAt ops := by
          unfold Oper.looksAt
          refine List.mem_append.2 (.inr ?_)
          rw [hgd]
          simp only [hd]
          simp
        obtain ⟨hlt, hh⟩ := h t hm V' hst
        rw [hst] at hg
        have hy : ∀ u : Value, a.tmps.getD t undef = u → yielded ops a.tmps j = (match u with | .bool b => some b | _ => none) := by
          intro u hu
          unfold yielded
          rw [hd]
          have : a.tmps[t]? = some u := by simp [hlt] at hu ⊢; exact hu
          simp only [Option.bind_some, this]
          cases u <;> rfl
        cases V' with
        | rel V h => cases hg
        | ex u =>
          have hu : a.tmps.getD t undef = u := hh
          rw [hy u hu]
          cases u with
          | bool b' =>
            simp only [Option.some.injEq] at hg
            show (some b' == some want) = b
            rw [← hg]; rfl
          | tuple vs =>
            simp only [Option.some.injEq] at hg
            show ((none : Option Bool) == some want) = b
            rw [← hg]; rfl
          | _ => cases hg

theorem ob_core (hg : gw ops s o = some true)
    (h : ∀ ρ w, Ext w0 w → (∀ x ∈ o.op.operands.toList, ∀ V', lk s x = some V' → V'.holds (ρ x) w) → Upon P V w ((execOp ρ o).run P w)) : Ob P ops w0 o s V := by
  intro a w he hh
  rw [if_pos (gw_wanted hg hh)]
  exact h a.eval w he fun x hx V' hV => lk_holds hx hV hh

theorem ob_skip (hg : gw ops s o = some false) : Ob P ops w0 o s (.ex undef) := by
  intro a w he hh
  rw [if_neg (by rw [gw_wanted hg hh]; exact Bool.false_ne_true)]
  rfl

theorem upon_value {w : World} {v : Value} {r : Result Next} (hr : r = .ok (.value v) w) (hv : V.holds v w) : Upon P V w r := by
  rw [hr]; exact ⟨Ext.rfl w, hv⟩

/-- an operation whose operands are known, and that yields what is known, the world as it was -/
theorem ob_ex0 {v : Value} (hg : gw ops s o = some true) (hr : ∀ ρ w, Ext w0 w → (execOp ρ o).run P w = .ok (.value v) w) : Ob P ops w0 o s (.ex v) :=
  ob_core hg fun ρ w he _ => upon_value (hr ρ w he) rfl
theorem ob_ex1 {v vx : Value} {x : Operand} (hg : gw ops s o = some true) (ho : o.op.operands = #[x]) (hx : lk s x = some (.ex vx))
    (hr : ∀ ρ w, Ext w0 w → ρ x = vx → (execOp ρ o).run P w = .ok (.value v) w) : Ob P ops w0 o s (.ex v) :=
  ob_core hg fun ρ w he h => upon_value (hr ρ w he (h x (by rw [ho]; simp) _ hx)) rfl
theorem ob_ex2 {v vx vy : Value} {x y : Operand} (hg : gw ops s o = some true) (ho : o.op.operands = #[x, y]) (hx : lk s x = some (.ex vx)) (hy : lk s y = some (.ex vy))
    (hr : ∀ ρ w, Ext w0 w → ρ x = vx → ρ y = vy → (execOp ρ o).run P w = .ok (.value v) w) : Ob P ops w0 o s (.ex v) :=
  ob_core hg fun ρ w he h => upon_value (hr ρ w he (h x (by rw [ho]; simp) _ hx) (h y (by rw [ho]; simp) _ hy)) rfl

section
variable {d : Option Tmp} {ty : TypeId} {pos : String} {aft : Array Edge} {g : Option (Nat × Bool)}

theorem ob_move {x : Operand} (hg : gw ops s ⟨d, .move x, ty, pos, aft, g⟩ = some true) (hx : lk s x = some V) : Ob P ops w0 ⟨d, .move x, ty, pos, aft, g⟩ s V :=
  ob_core hg fun ρ w _ h => upon_value (v := ρ x) rfl (h x (by simp [Op.operands]) _ hx)
theorem ob_assign {x : Operand} (hg : gw ops s ⟨d, .assign x, ty, pos, aft, g⟩ = some true) (hx : lk s x = some V) : Ob P ops w0 ⟨d, .assign x, ty, pos, aft, g⟩ s V :=
  ob_core hg fun ρ w _ h => upon_value (v := ρ x) rfl (h x (by simp [Op.operands]) _ hx)
theorem ob_pick {c x y : Operand} (b : Bool) (hg : gw ops s ⟨d, .pick c x y, ty, pos, aft, g⟩ = some true) (hc : lk s c = some (.ex (.bool b))) (hx : lk s (if b then x else y) = some V) :
    Ob P ops w0 ⟨d, .pick c x y, ty, pos, aft, g⟩ s V :=
  ob_core hg fun ρ w _ h => by
    have h1 : ρ c = .bool b := h c (by simp [Op.operands]) _ hc
    have h2 := h (if b then x else y) (by cases b <;> simp [Op.operands]) _ hx
    refine upon_value (v := ρ (if b then x else y)) ?_ h2
    cases b <;> simp [execOp, h1, asBool, Sem.run_bind]

def icmp (op : BinOp) (m n : Int) : Option Bool :=
  match op with
  | .eql => some (m == n) | .neq => some (m != n) | .lss => some (decide (m < n)) | .leq => some (decide (m ≤ n)) | .gtr => some (decide (m > n)) | .geq => some (decide (m ≥ n))
  | _ => none

theorem ob_icmp {x y : Operand} {op : BinOp} {t t' : TypeId} {k : IntKind} {m n : Int} (b : Bool) (hg : gw ops s ⟨d, .binOp op t x y t', ty, pos, aft, g⟩ = some true)
    (hx : lk s x = some (.ex (.int k m))) (hy : lk s y = some (.ex (.int k n))) (hc : icmp op m n = some b) : Ob P ops w0 ⟨d, .binOp op t x y t', ty, pos, aft, g⟩ s (.ex (.bool b)) :=
  ob_ex2 hg (x := x) (y := y) rfl hx hy fun ρ w _ h1 h2 => by
    cases op <;> simp only [icmp, Option.some.injEq, reduceCtorEq] at hc
    all_goals subst hc; simp [execOp, h1, h2, Sem.run_bind, eqGuard, binOp, Op.intCmp, program]

def iarith (op : BinOp) (m n : Int) : Option Int :=
  match op with
  | .add => some (m + n) | .sub => some (m - n) | .mul => some (m * n)
  | _ => none

theorem ob_iarith {x y : Operand} {op : BinOp} {t t' : TypeId} {k : IntKind} {m n : Int} (z r : Int) (hg : gw ops s ⟨d, .binOp op t x y t', ty, pos, aft, g⟩ = some true)
    (hx : lk s x = some (.ex (.int k m))) (hy : lk s y = some (.ex (.int k n))) (hc : iarith op m n = some z) (hw : k.wrap z = r) : Ob P ops w0 ⟨d, .binOp op t x y t', ty, pos, aft, g⟩ s (.ex (.int k r)) :=
  ob_ex2 hg (x := x) (y := y) rfl hx hy fun ρ w _ h1 h2 => by
    cases op <;> simp only [iarith, Option.some.injEq, reduceCtorEq] at hc
    all_goals subst hc; subst hw; simp [execOp, h1, h2, Sem.run_bind, eqGuard, binOp, Op.intArith]

theorem ob_fcmp {x y : Operand} {op : BinOp} {t t' : TypeId} {k : FloatKind} {m n : Nat} (v : Value) (hg : gw ops s ⟨d, .binOp op t x y t', ty, pos, aft, g⟩ = some true)
    (hx : lk s x = some (.ex (.float k m))) (hy : lk s y = some (.ex (.float k n))) (hop : (op matches .eql | .neq | .lss | .leq | .gtr | .geq) = true)
    (hc : Op.floatCmp op k m n = pure v) : Ob P ops w0 ⟨d, .binOp op t x y t', ty, pos, aft, g⟩ s (.ex v) :=
  ob_ex2 hg (x := x) (y := y) rfl hx hy fun ρ w _ h1 h2 => by
    cases op <;> simp at hop
    all_goals simp [execOp, h1, h2, Sem.run_bind, eqGuard, binOp, hc]

theorem ob_not {x : Operand} {t : TypeId} (b : Bool) (hg : gw ops s ⟨d, .unOp .not t x, ty, pos, aft, g⟩ = some true) (hx : lk s x = some (.ex (.bool b))) :
    Ob P ops w0 ⟨d, .unOp .not t x, ty, pos, aft, g⟩ s (.ex (.bool !b)) :=
  ob_ex1 hg (x := x) rfl hx fun ρ w _ h1 => by simp [execOp, h1, Sem.run_bind, Op.unary]

theorem ob_neg {x : Operand} {t : TypeId} {k : IntKind} {n : Int} (r : Int) (hg : gw ops s ⟨d, .unOp .neg t x, ty, pos, aft, g⟩ = some true) (hx : lk s x = some (.ex (.int k n))) (hw : k.wrap (0 - n) = r) :
    Ob P ops w0 ⟨d, .unOp .neg t x, ty, pos, aft, g⟩ s (.ex (.int k r)) :=
  ob_ex1 hg (x := x) rfl hx fun ρ w _ h1 => by subst hw; simp [execOp, h1, Sem.run_bind, Op.unary, Op.intArith]

theorem rg_step {K : List SV → Prop} {ts : List SV} {r : List (Nat × SV)} {rest : List Oper} (t : Tmp) (h : Ob P ops w0 o (look ts r) V) (hd : o.dst = some t) (hlt : Nat.blt t ts.length = true) (k : rgA P ops w0 K ts rest ((t, V) :: r)) : rgA P ops w0 K ts (o :: rest) r :=
  ⟨V, h, by rw [hd]; exact ⟨by simpa [Nat.blt_eq] using hlt, k⟩⟩
theorem rg_end {K : List SV → Prop} {ts : List SV} {r : List (Nat × SV)} (k : K (asg ts r)) : rgA P ops w0 K ts [] r := k

/-! ### calls -/
def opensArgs (w : World) (s : Nat → Option SV) : List Operand → (List Value → Prop) → Prop
  | [], K => K []
  | x :: xs, K =>
    match lk s x with
    | some (.ex v) => opensArgs w s xs (fun l => K (v :: l))
    | some (.rel V _) => ∀ v, V v w → opensArgs w s xs (fun l => K (v :: l))
    | none => False

theorem opensArgs_holds {w : World} {ρ : Operand → Value} : ∀ (xs : List Operand) (K : List Value → Prop), (∀ x ∈ xs, ∀ V', lk s x = some V' → V'.holds (ρ x) w) → opensArgs w s xs K → K (xs.map ρ)
  | [], _, _, h => h
  | x :: xs, K, hh, h => by
    unfold opensArgs at h
    have hr : ∀ y ∈ xs, ∀ V', lk s y = some V' → V'.holds (ρ y) w := fun y hy => hh y (List.mem_cons_of_mem _ hy)
    cases hx : lk s x with
    | none => rw [hx] at h; exact h.elim
    | some V =>
      have hv := hh x (List.mem_cons_self ..) V hx
      rw [hx] at h
      cases V with
      | ex v =>
        have hv : ρ x = v := hv
        have := opensArgs_holds xs _ hr h
        simpa [hv] using this
      | rel V _ => exact opensArgs_holds xs (fun l => K (ρ x :: l)) hr (h (ρ x) hv)

/-- what a call hands back, as the region wants it -/
def Gives (P : Program) (f : FuncId) (V : SV) (w : World) (vs : List Value) : Prop :=
  Calls P f vs.toArray w (fun e w' => ∃ v, e = .returned v ∧ Ext w w' ∧ V.holds v w')

theorem ob_call {f : FuncId} {xs : Array Operand} {ts : Array TypeId} (V : SV) (hg : gw ops s ⟨d, .call ⟨.value (.func f), xs, ts⟩, ty, pos, aft, g⟩ = some true)
    (hf : ∀ (args : Array Value) (w : World), (callFunc f args).run P w = .ok (.enter f args) w)
    (h : ∀ w, Ext w0 w → opensArgs w s xs.toList (Gives P f V w)) : Ob P ops w0 ⟨d, .call ⟨.value (.func f), xs, ts⟩, ty, pos, aft, g⟩ s V :=
  ob_core hg fun ρ w he hh => by
    have h1 := opensArgs_holds (ρ := ρ) xs.toList _ (fun x hx => hh x (by simp only [Op.operands, Call.operands]; exact Array.mem_toList_iff.2 (Array.mem_append.2 (.inr (Array.mem_toList_iff.1 hx))))) (h w he)
    have hr : (execOp ρ ⟨d, .call ⟨.value (.func f), xs, ts⟩, ty, pos, aft, g⟩).run P w = .ok (.enter f (xs.map ρ)) w := by
      have hρ : ρ (.func f) = .func (.func f) #[] #[] := hh (.func f) (by simp [Op.operands, Call.operands]) (.ex (.func (.func f) #[] #[])) rfl
      simp [execOp, resolve, hρ, Deferred.ofValue, invoke, Sem.run_bind, hf]
    rw [hr]
    refine ⟨Ext.rfl w, ?_⟩
    have e : (xs.toList.map ρ).toArray = xs.map ρ := by rw [← Array.toList_map, Array.toArray_toList]
    unfold Gives at h1
    rw [e] at h1
    exact h1

theorem gives_ex {f : FuncId} {vs : List Value} {v : Value} {w : World} (h : Calls P f vs.toArray w (fun e w' => e = .returned v ∧ Ext w w')) : Gives P f (.ex v) w vs :=
  h.mono fun _ _ ⟨h1, h2⟩ => ⟨v, h1, h2, rfl⟩

/-! ### a new slice of known values -/
def lks (s : Nat → Option SV) : List (Nat × Operand) → Option (List (Nat × Value))
  | [] => some []
  | (i, x) :: xs =>
    match lk s x, lks s xs with
    | some (.ex v), some vs => some ((i, v) :: vs)
    | _, _ => none

theorem lks_holds {ρ : Operand → Value} {w : World} : ∀ (xs : List (Nat × Operand)) (vs : List (Nat × Value)), lks s xs = some vs → (∀ x ∈ xs.map (·.2), ∀ V', lk s x = some V' → V'.holds (ρ x) w) → xs.map (fun (i, x) => (i, ρ x)) = vs
  | [], vs, h, _ => by cases h; rfl
  | (i, x) :: xs, vs, h, hh => by
    unfold lks at h
    cases hx : lk s x with
    | none => rw [hx] at h; cases h
    | some V =>
      rw [hx] at h
      cases V with
      | rel V hV => cases h
      | ex v =>
        cases hr : lks s xs with
        | none => rw [hr] at h; cases h
        | some us =>
          rw [hr] at h
          cases h
          have hv : ρ x = v := hh x (by simp) _ hx
          have := lks_holds xs us hr (fun y hy => hh y (by simp at hy ⊢; exact .inr hy))
          simp [hv, this]

theorem ob_build {T : TypeId} {n : Nat} {xs : List (Nat × Operand)} (V : SV) (vs : List (Nat × Value)) (cs : Array Value) (E : TypeId)
    (hg : gw ops s ⟨d, .buildSlice T n xs.toArray, ty, pos, aft, g⟩ = some true) (hv : lks s xs = some vs)
    (hr : ∀ w, (Instr.buildSlice T n vs.toArray).run P w = .ok (.slice (some ⟨w.heap.size, 0, none⟩) n n) (w.alloc (.cells cs E)))
    (hV : ∀ w : World, V.holds (.slice (some ⟨w.heap.size, 0, none⟩) n n) (w.alloc (.cells cs E))) : Ob P ops w0 ⟨d, .buildSlice T n xs.toArray, ty, pos, aft, g⟩ s V :=
  ob_core hg fun ρ w _ h => by
    have hm := lks_holds (ρ := ρ) (w := w) xs vs hv (fun x hx => h x (by simpa [Op.operands] using hx))
    have hr' : (execOp ρ ⟨d, .buildSlice T n xs.toArray, ty, pos, aft, g⟩).run P w = .ok (.value (.slice (some ⟨w.heap.size, 0, none⟩) n n)) (w.alloc (.cells cs E)) := by
      simp only [execOp, List.map_toArray, hm, Sem.run_bind, hr, Result.andThen_ok, Sem.run_pure]
    rw [hr']
    exact ⟨(Ext.rfl w).al _, hV w⟩

/-! ### reading -/
theorem ob_len {x : Operand} {t E : TypeId} {a : Option Addr} {n c : Nat} (hg : gw ops s ⟨d, .call ⟨.builtin .len, #[x], #[t]⟩, ty, pos, aft, g⟩ = some true)
    (hx : lk s x = some (.ex (.slice a n c))) (hT : P.underlying t = some (.slice E)) : Ob P ops w0 ⟨d, .call ⟨.builtin .len, #[x], #[t]⟩, ty, pos, aft, g⟩ s (.ex (.int .i64 n)) :=
  ob_ex1 hg (x := x) (by simp [Op.operands, Call.operands]) hx fun ρ w _ h1 => by
    simp [execOp, resolve, invoke, builtin, Builtin.len_, h1, run_underlying hT, goInt]

theorem ob_lenr {x : Operand} {t E : TypeId} {V0 : Value → World → Prop} {hV0 : ∀ v w w', Ext w w' → V0 v w → V0 v w'} (n : Nat) (hg : gw ops s ⟨d, .call ⟨.builtin .len, #[x], #[t]⟩, ty, pos, aft, g⟩ = some true)
    (hx : lk s x = some (.rel V0 hV0)) (hT : P.underlying t = some (.slice E)) (hV : ∀ v w, V0 v w → ∃ a c, v = .slice a n c) : Ob P ops w0 ⟨d, .call ⟨.builtin .len, #[x], #[t]⟩, ty, pos, aft, g⟩ s (.ex (.int .i64 n)) :=
  ob_core hg fun ρ w _ h => by
    have h0 : V0 (ρ x) w := h x (by simp [Op.operands, Call.operands]) _ hx
    obtain ⟨a, c, h1⟩ := hV _ _ h0
    refine upon_value (v := .int .i64 n) ?_ rfl
    simp [execOp, resolve, invoke, builtin, Builtin.len_, h1, run_underlying hT, goInt]

theorem ob_strlen {x : Operand} {t : TypeId} {b : ByteArray} (hg : gw ops s ⟨d, .call ⟨.builtin .len, #[x], #[t]⟩, ty, pos, aft, g⟩ = some true)
    (hx : lk s x = some (.ex (.string b))) (hT : P.underlying t = some .string) : Ob P ops w0 ⟨d, .call ⟨.builtin .len, #[x], #[t]⟩, ty, pos, aft, g⟩ s (.ex (.int .i64 b.size)) :=
  ob_ex1 hg (x := x) (by simp [Op.operands, Call.operands]) hx fun ρ w _ h1 => by
    simp [execOp, resolve, invoke, builtin, Builtin.len_, h1, run_underlying hT, goInt]

theorem ob_index {x y : Operand} {t E : TypeId} {b o n c : Nat} {k : Int} (sz o' : Nat) (hg : gw ops s ⟨d, .indexAddr t x y, ty, pos, aft, g⟩ = some true)
    (hx : lk s x = some (.ex (.slice (some ⟨b, o, none⟩) n c))) (hy : lk s y = some (.ex (.int .i64 k))) (hT : P.underlying t = some (.slice E)) (hE : (P.info? E).map (·.size) = some sz)
    (h0 : 0 ≤ k) (hk : k < n) (ho : o + k.toNat * sz = o') : Ob P ops w0 ⟨d, .indexAddr t x y, ty, pos, aft, g⟩ s (.ex (.pointer (some ⟨b, o', none⟩))) :=
  ob_ex2 hg (x := x) (y := y) rfl hx hy fun ρ w _ h1 h2 => by
    cases hq : P.info? E with
    | none => rw [hq] at hE; cases hE
    | some i =>
      rw [hq] at hE
      simp only [Option.map_some, Option.some.injEq] at hE
      subst ho
      simp [execOp, Instr.indexAt, h1, h2, asIntOf, run_underlying hT, h0, hk, sizeOf, typeInfo, hq, hE, Addr.add_lit]

theorem ob_load {x : Operand} {t : TypeId} {p : Addr} {v : Value} (hg : gw ops s ⟨d, .load t x, ty, pos, aft, g⟩ = some true)
    (hx : lk s x = some (.ex (.pointer (some p)))) (hT : (P.underlying t).map (fun | .struct _ => true | .array _ _ => true | _ => false) = some false)
    (hc : ∀ w, Ext w0 w → w.cell? p = some v) : Ob P ops w0 ⟨d, .load t x, ty, pos, aft, g⟩ s (.ex v) :=
  ob_ex1 hg (x := x) rfl hx fun ρ w he h1 => by
    cases hq : P.underlying t with
    | none => rw [hq] at hT; cases hT
    | some D =>
      rw [hq] at hT
      have hagg : (isAgg t).run P w = .ok false w := by
        unfold isAgg
        rw [Sem.run_bind, run_underlying hq w]
        cases D <;> simp_all
      simp [execOp, Instr.loadAt, Instr.sureAddr, h1, loadVar, hagg, load, Sem.run, hc w he]
end
end
end Go.Rg
