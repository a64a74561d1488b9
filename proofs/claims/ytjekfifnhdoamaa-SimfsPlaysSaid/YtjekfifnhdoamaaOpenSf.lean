/- The arguments of the laws of simfs, opened: bytes, whole numbers. -/
import Derived.Test.YtjekfifnhdoamaaLiftU
import Derived.Test.YtjekfifnhdoamaaSfA
set_option linter.unusedSimpArgs false
set_option linter.unusedVariables false
set_option linter.unnecessarySimpa false
namespace Go.Proofs.Ytjekfifnhdoamaa
open Go.ChangeShapes Go.WideShapes Go.ChangeAt Go.RowKit Go.Rg Go.St

variable {H : Type} {enc : TypeId × Value → H} {P : Program} {W : World}

theorem open_picks {t e : TypeId} {v : Value} {d : DataW H} {ps : List MemPlace} {r : Reach} {b0 : Nat}
    (ht : P.underlying t = some (.slice e)) (hc : P.cellsOf e = 1) (he : P.underlying e = some (.int .i64))
    (hval : Value.okWide P W r b0 t v) (hd : DataW.Trod enc P W 0 (fun _ => true) true t v d ps) : ∃ l : List Int, SlI W v l := by
  obtain ⟨xs, h, h2, _⟩ := open_slS (α := Int) ht hc (by omega) (tells_int he) (fun _ => rfl) hval hd
  exact ⟨xs, h.sl1, fun p hp => by have := bounds_i64 (h2 p hp); omega⟩
theorem open_bytes {t e : TypeId} {v : Value} {d : DataW H} {ps : List MemPlace} {r : Reach} {b0 : Nat}
    (ht : P.underlying t = some (.slice e)) (hc : P.cellsOf e = 1) (he : P.underlying e = some (.int .u8))
    (hval : Value.okWide P W r b0 t v) (hd : DataW.Trod enc P W 0 (fun _ => true) true t v d ps) : ∃ l : List UInt8, SlB W v l := by
  obtain ⟨xs, h, h2, _⟩ := open_slS (α := Int) ht hc (by omega) (tells_int he) (fun _ => rfl) hval hd
  refine ⟨xs.map fun x => UInt8.ofNat x.toNat, ?_⟩
  have h1 := h.sl1
  unfold SlB
  rw [List.length_map]
  refine Sl1.cong h1 fun i hi => ?_
  have hx := h2 (nth xs i) (nth_mem xs i hi)
  have hb : 0 ≤ nth xs i ∧ nth xs i < 256 := by
    have hz := bounds_u8 hx
    omega
  have e : nth (xs.map fun x => UInt8.ofNat x.toNat) i = UInt8.ofNat (nth xs i).toNat := by
    unfold nth
    simp [hi]
  rw [e]
  have e2 : ((UInt8.ofNat (nth xs i).toNat).toNat : Int) = nth xs i := by
    rw [UInt8.toNat_ofNat']
    omega
  rw [e2]
theorem open_i64 {t : TypeId} (h : P.underlying t = some (.int .i64)) {v : Value} {d : DataW H} {ps : List MemPlace} {r : Reach} {b0 : Nat} (hval : Value.okWide P W r b0 t v) (hd : DataW.Trod enc P W 0 (fun _ => true) true t v d ps) : ∃ n : Int, v = .int .i64 n ∧ -9223372036854775808 ≤ n ∧ n ≤ 9223372036854775807 := by
  obtain ⟨n, rfl⟩ := okWide_int h hval
  obtain ⟨fuel, hf⟩ := hd
  obtain ⟨m, e, hw⟩ := tells_int h fuel _ _ hf
  have := bounds_i64 hw
  simp [Value.cells] at e
  subst e
  exact ⟨n, rfl, this.1, this.2⟩
end Go.Proofs.Ytjekfifnhdoamaa
