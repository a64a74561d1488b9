/- More operations of drawn regions: a nil check, a struct's load, a place in an array. -/
import Derived.Test.YtjekfifnhdoamaaRg1
import Derived.Deep.MidRow
set_option linter.unusedSimpArgs false
set_option linter.unusedVariables false
set_option linter.unnecessarySimpa false
namespace Go.Rg
open Go.RowKit
section
variable {P : Program} {ops : Array Oper} {w0 : World} {s : Nat → Option SV} {d : Option Tmp} {ty : TypeId} {pos : String} {aft : Array Edge} {g : Option (Nat × Bool)}
theorem ob_nilck {x : Operand} {p : Addr} (hg : gw ops s ⟨d, .nilCheck x, ty, pos, aft, g⟩ = some true) (hx : lk s x = some (.ex (.pointer (some p)))) : Ob P ops w0 ⟨d, .nilCheck x, ty, pos, aft, g⟩ s (.ex (.pointer (some p))) :=
  ob_ex1 hg (x := x) rfl hx fun ρ w _ h1 => by simp [execOp, h1, Instr.sureAddr]
theorem ob_loadrow {x : Operand} {t t0 : TypeId} {b : Nat} {cs : Array Value} {fr : Nat × Nat} (hg : gw ops s ⟨d, .load t x, ty, pos, aft, g⟩ = some true) (hx : lk s x = some (.ex (.pointer (some ⟨b, 0, none⟩))))
    (hc : ∀ w, Ext w0 w → w.heap[b]? = some (.cells cs t0 fr)) {D : TypeDesc} (hu : P.underlying t = some D) (hd : (match D with | .struct _ | .array _ _ => true | _ => false) = true) (hi : (P.info? t).map (·.size) = some cs.size) : Ob P ops w0 ⟨d, .load t x, ty, pos, aft, g⟩ s (.ex (.agg cs)) :=
  ob_ex1 hg (x := x) rfl hx fun ρ w he h1 => by
    simp only [execOp, h1, Instr.loadAt, Instr.sureAddr, Sem.run_bind, Sem.run_pure, Result.andThen_ok, run_loadVar_row w b t0 t cs fr D (hc w he) hu hd hi]
theorem ob_loadmid {x : Operand} {t : TypeId} {b o : Nat} {cs : List Value} (hg : gw ops s ⟨d, .load t x, ty, pos, aft, g⟩ = some true) (hx : lk s x = some (.ex (.pointer (some ⟨b, o, none⟩))))
    (hc : ∀ w, Ext w0 w → w.rangeAt b o cs) {D : TypeDesc} (hu : P.underlying t = some D) (hd : D.isRow = true) (hi : (P.info? t).map (·.size) = some cs.length) : Ob P ops w0 ⟨d, .load t x, ty, pos, aft, g⟩ s (.ex (.agg cs.toArray)) :=
  ob_ex1 hg (x := x) rfl hx fun ρ w he h1 => by
    simp only [execOp, h1, Instr.loadAt, Instr.sureAddr, Sem.run_bind, Sem.run_pure, Result.andThen_ok, run_loadVar_mid w b o t cs D (hc w he) hu hd hi]
theorem ob_arr {x y : Operand} {t E : TypeId} {b o n : Nat} {k : Int} (sz o' : Nat) (hg : gw ops s ⟨d, .indexAddr t x y, ty, pos, aft, g⟩ = some true)
    (hx : lk s x = some (.ex (.pointer (some ⟨b, o, none⟩)))) (hy : lk s y = some (.ex (.int .i64 k))) (hT : P.underlying t = some (.array n E)) (hE : (P.info? E).map (·.size) = some sz)
    (h0 : 0 ≤ k) (hk : k < n) (ho : o + k.toNat * sz = o') : Ob P ops w0 ⟨d, .indexAddr t x y, ty, pos, aft, g⟩ s (.ex (.pointer (some ⟨b, o', none⟩))) :=
  ob_ex2 hg (x := x) (y := y) rfl hx hy fun ρ w _ h1 h2 => by
    cases hq : P.info? E with
    | none => rw [hq] at hE; cases hE
    | some i =>
      rw [hq] at hE
      simp only [Option.map_some, Option.some.injEq] at hE
      subst ho
      simp [execOp, Instr.indexAt, h1, h2, asIntOf, run_underlying hT, h0, hk, sizeOf, typeInfo, hq, hE, Addr.add_lit, Instr.sureAddr, Result.andThen]
end
end Go.Rg
