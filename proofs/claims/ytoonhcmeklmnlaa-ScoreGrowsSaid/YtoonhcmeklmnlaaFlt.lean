/- Floats: their order, a quotient, the NaNs that are drawn. -/
import Derived.Test.YtoonhcmeklmnlaaLib
set_option linter.unusedSimpArgs false
set_option linter.unusedVariables false
set_option linter.unnecessarySimpa false
namespace Go.St
open Go.RowKit Go.Rg

def ford (a b : Nat) : Option Ordering := FloatKind.f64.format.order a b
def fnan (a : Nat) : Bool := (ford a a != some .eq)
/-- cmp.Compare of floats -/
def fOrd (a b : Nat) : Int :=
  if fnan a = true then (if fnan b = true then 0 else -1)
  else if fnan b = true then 1
  else if (ford a b == some .lt) = true then -1
  else if (ford a b == some .gt) = true then 1 else 0
/-- 1.0 -/
def fone : Nat := 4607182418800017408

def isNaNd (d : Ieee.Datum) : Bool := d.isNaN
theorem order_self (d : Ieee.Datum) : d.order d = if d.isNaN then none else some .eq := by
  cases d with
  | number s m i => simp [Ieee.Datum.order, Ieee.Datum.isNaN]
  | infinity s => cases s <;> simp [Ieee.Datum.order, Ieee.Datum.isNaN]
  | nan s f => simp [Ieee.Datum.order, Ieee.Datum.isNaN]
theorem fnan_iff (a : Nat) : fnan a = (Ieee.double.read a).isNaN := by
  unfold fnan ford
  show (((Ieee.double.read a).order (Ieee.double.read a)) != some .eq) = _
  rw [order_self]
  cases (Ieee.double.read a).isNaN <;> rfl
theorem read_nan (t : Nat) (n : Nat) (hn : n < 2 ^ 52 - 1) : fnan ((t % 2) * 2 ^ 63 + 0x7ff0000000000000 + 1 + n) = true := by
  rw [fnan_iff]
  unfold Ieee.Format.read
  have e1 : Ieee.double.signWeight = 2 ^ 63 := rfl
  have e2 : Ieee.double.binade = 2 ^ 52 := rfl
  have e3 : Ieee.double.infRung = 0x7ff0000000000000 := by decide
  simp only [e1, e2, e3]
  have h1 : (t % 2 * 2 ^ 63 + 0x7ff0000000000000 + 1 + n) % 2 ^ 63 = 0x7ff0000000000000 + 1 + n := by omega
  rw [h1]
  rw [if_neg (by omega), if_neg (by omega), if_neg (by omega)]
  rfl
theorem nan_drawn (x y t : Nat) : fnan ((Question.nanBits .f64 x y).cut t) = true := by
  show fnan ((t % 2) * 2 ^ 63 + 0x7ff0000000000000 + 1 + (t / 2) % (2 ^ 52 - 1)) = true
  exact read_nan t _ (Nat.mod_lt _ (by decide))

/-- what a quotient may be -/
def FQ (a b r : Nat) : Prop :=
  match Ieee.double.div a b with
  | some q => r = q
  | none => fnan r = true

theorem run_fquo {P : Program} (a b : Nat) (w : World) : ∃ r w', (Op.floatArith .quo .f64 a b).run P w = .ok (.float .f64 r) w' ∧ FQ a b r ∧ Ext w w' := by
  unfold FQ
  cases h : Ieee.double.div a b with
  | some q =>
    refine ⟨q, w, ?_, rfl, Ext.rfl w⟩
    have h' : FloatKind.f64.format.div a b = some q := h
    simp [Op.floatArith, h']
  | none =>
    have h' : FloatKind.f64.format.div a b = none := h
    refine ⟨(Question.nanBits .f64 a b).cut (w.tape w.drawn (.nanBits .f64 a b)), { w with drawn := w.drawn + 1 }, ?_, nan_drawn _ _ _, (Ext.rfl w).dr⟩
    simp [Op.floatArith, h', choose, Sem.run, Question.forced]

section
variable {P : Program} {ops : Array Oper} {Q : Exit → Act → World → Prop} {rest : List Oper} {a : Act} {w : World} {d : Option Tmp} {ty : TypeId} {pos : String} {aft : Array Edge} {t t' : TypeId}
theorem wpList_fquo {x y : Operand} {m n : Nat} (hx : a.eval x = .float .f64 m) (hy : a.eval y = .float .f64 n)
    (h : ∀ r w', FQ m n r → Ext w w' → wpList P ops Q rest (a.put d (.float .f64 r)) w') : wpList P ops Q (⟨d, .binOp .quo t x y t', ty, pos, aft, none⟩ :: rest) a w :=
  wpList_plain rfl fun K hK => by
    obtain ⟨r, w', hr, hq, he⟩ := run_fquo (P := P) m n w
    unfold Oper.wp execOp
    simp only [hx, hy, eqGuard, Sem.run_bind, Sem.run_pure, Result.andThen_ok, binOp]
    simp only [ne_eq, not_true, if_false, hr, Result.andThen_ok, Oper.upon, Bool.not_false, if_true, Sem.run_pure]
    exact hK _ _ (h r w' hq he)
end

theorem ob_fquo {P : Program} {ops : Array Oper} {w0 : World} {s : Nat → Option SV} {d : Option Tmp} {ty : TypeId} {pos : String} {aft : Array Edge} {g : Option (Nat × Bool)} {t t' : TypeId} {x y : Operand} {m n : Nat}
    (hg : gw ops s ⟨d, .binOp .quo t x y t', ty, pos, aft, g⟩ = some true) (hx : lk s x = some (.ex (.float .f64 m))) (hy : lk s y = some (.ex (.float .f64 n))) :
    Ob P ops w0 ⟨d, .binOp .quo t x y t', ty, pos, aft, g⟩ s (.rel (fun v _ => ∃ r, v = .float .f64 r ∧ FQ m n r) (fun _ _ _ _ h => h)) :=
  ob_core hg fun ρ w _ h => by
    have h1 : ρ x = .float .f64 m := h x (by simp [Op.operands]) _ hx
    have h2 : ρ y = .float .f64 n := h y (by simp [Op.operands]) _ hy
    obtain ⟨r, w', hr, hq, he⟩ := run_fquo (P := P) m n w
    have hrun : (execOp ρ ⟨d, .binOp .quo t x y t', ty, pos, aft, g⟩).run P w = .ok (.value (.float .f64 r)) w' := by
      unfold execOp
      simp only [h1, h2, eqGuard, Sem.run_bind, Sem.run_pure, Result.andThen_ok, binOp]
      simp [hr]
    rw [hrun]
    exact ⟨he, r, rfl, hq⟩
theorem fq_zero {r : Nat} (h : FQ 0 0 r) : fnan r = true := by
  unfold FQ at h
  have : Ieee.double.div 0 0 = none := by decide +kernel
  rw [this] at h
  exact h
theorem fOrd_nan {r b : Nat} (h : fnan r = true) (hb : fnan b = false) : fOrd r b = -1 := by simp [fOrd, h, hb]
theorem floatCmp_neq (m : Nat) : Op.floatCmp .neq .f64 m m = pure (.bool (fnan m)) := rfl
end Go.St
