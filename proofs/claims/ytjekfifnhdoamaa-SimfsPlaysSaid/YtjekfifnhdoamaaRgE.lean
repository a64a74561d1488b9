/- What single operations of a chain yield. -/
import Derived.Test.YtjekfifnhdoamaaRgC
import Derived.Test.YtjekfifnhdoamaaRg2
set_option linter.unusedSimpArgs false
set_option linter.unusedVariables false
set_option linter.unnecessarySimpa false
namespace Go.Rg
open Go.RowKit
section
variable {P : Program} {w w' : World} {J : Value → World → Prop} {ρ : Operand → Value} {d : Option Tmp} {ty : TypeId} {pos : String} {aft : Array Edge} {g : Option (Nat × Bool)}
theorem uc_row0 {T : TypeId} {v : Value} (hr : (Instr.buildSlice T 0 #[]).run P w = .ok v w') (h : J v w') : UponV P anyV J ((execOp ρ ⟨d, .buildSlice T 0 #[], ty, pos, aft, g⟩).run P w) := by
  simp [execOp, hr, Result.andThen, UponV, anyV, SV.holds, h]
theorem uc_row1 {T : TypeId} {x : Operand} {u v : Value} (hx : ρ x = u) (hr : (Instr.buildSlice T 1 #[(0, u)]).run P w = .ok v w') (h : J v w') : UponV P anyV J ((execOp ρ ⟨d, .buildSlice T 1 #[(0, x)], ty, pos, aft, g⟩).run P w) := by
  simp [execOp, hx, hr, Result.andThen, UponV, anyV, SV.holds, h]
theorem uc_build2 {T : TypeId} {x y : Operand} {u1 u2 v : Value} (hx : ρ x = u1) (hy : ρ y = u2) (hr : (Instr.build T #[(0, u1), (1, u2)]).run P w = .ok v w') (h : J v w') : UponV P anyV J ((execOp ρ ⟨d, .build T #[(0, x), (1, y)], ty, pos, aft, g⟩).run P w) := by
  simp [execOp, hx, hy, hr, Result.andThen, UponV, anyV, SV.holds, h]
theorem uc_app {T : TypeId} {s x : Operand} {v u v' : Value} (hs : ρ s = v) (hx : ρ x = u) (hr : (Builtin.append_ #[T, T] ty #[v, u]).run P w = .ok v' w') (h : J v' w') : UponV P anyV J ((execOp ρ ⟨d, .call ⟨.builtin .append, #[s, x], #[T, T]⟩, ty, pos, aft, g⟩).run P w) := by
  simp [execOp, resolve, invoke, builtin, hs, hx, Result.andThen, hr, UponV, anyV, SV.holds, h]
theorem uc_store {T : TypeId} {p x : Operand} {v u : Value} (hp : ρ p = v) (hx : ρ x = u) (hr : (Instr.storeAt T v u).run P w = .ok () w') (h : J undef w') : UponV P anyV J ((execOp ρ ⟨d, .store T p x, ty, pos, aft, g⟩).run P w) := by
  simp [execOp, hp, hx, hr, Result.andThen, UponV, anyV, SV.holds, h]
theorem uc_assign {x : Operand} {v : Value} (hx : ρ x = v) (h : J v w) : UponV P anyV J ((execOp ρ ⟨d, .assign x, ty, pos, aft, g⟩).run P w) := by
  simp [execOp, hx, UponV, anyV, SV.holds, h]
theorem uc_move {x : Operand} {v : Value} (hx : ρ x = v) (h : J v w) : UponV P anyV J ((execOp ρ ⟨d, .move x, ty, pos, aft, g⟩).run P w) := by
  simp [execOp, hx, UponV, anyV, SV.holds, h]
end
end Go.Rg
