/- The walk of PutFixed: a number's eight bytes. -/
import Derived.Test.YtoonhcmeklmnlaaMt2
set_option linter.unusedSimpArgs false
set_option linter.unusedVariables false
set_option linter.unnecessarySimpa false
namespace Go.Proofs.Ytoonhcmeklmnlaa
open Go.RowKit Go.Rg Go.St

set_option maxRecDepth 100000 in
set_option maxHeartbeats 400000 in
theorem clone_nil (w : World) : Calls Try.prog 110 #[.slice none 0 0] w (fun e w' => e = .returned (.slice none 0 0) ∧ Ext w w') := by
  have t2 := Try.underlying125
  have a2 := Try.isAgg125
  have hq := fun (w : World) => run_eql_nil_slice (P := Try.prog) w 125 5 none 0 0 0 0 Try.underlying125
  go_enter Try.func110, Try.ntmps110
  go_wp2
  go_ret
  exact ⟨rfl, Ext.rfl _⟩

/-- a number's bytes, the least first -/
def fb (n i : Nat) : UInt8 := UInt8.ofNat (n / 2 ^ (8 * i))
theorem fb_nat (n i : Nat) : ((fb n i).toNat : Int) = (n : Int) / 2 ^ (8 * i) % 256 := by
  have h : (fb n i).toNat = n / 2 ^ (8 * i) % 256 := by simp [fb]
  rw [h]
  simp [Int.natCast_emod, Int.natCast_ediv, Int.natCast_pow]
def fixedTo (n k : Nat) : List UInt8 := (List.range k).map (fb n)
theorem fixedTo_succ (n k : Nat) : fixedTo n (k + 1) = fixedTo n k ++ [fb n k] := by simp [fixedTo, List.range_succ]

def Bytes (w : World) (base : Nat) (v : Value) (l : List UInt8) : Prop := w.ownsRow base 5 1 v l.length (Lib.byteCells l)

set_option maxRecDepth 100000 in
set_option maxHeartbeats 1000000 in
theorem fixed_in (n : Nat) (hn : n < 2 ^ 64) (w : World) : Calls Try.prog 91 #[.slice none 0 0, .int .u64 n, .int .i64 8] w (fun e w' => ∃ v, e = .returned v ∧ Bytes w' w.heap.size v (fixedTo n 8) ∧ Ext w w') := by
  have t2 := Try.underlying125
  have a2 := Try.isAgg125
  have HN := hid hn
  clear hn
  go_enter Try.func91, Try.ntmps91
  go_wp2_with fail
  refine (clone_nil _).mono ?_
  rintro e w1 ⟨rfl, he1⟩
  have E1 := hid he1
  clear he1
  go_wp2
  go_loopw [7, 8] (fun o t wr => ∃ k : Nat, k ≤ 8 ∧ t = .int .i64 k ∧ Ext w wr ∧ Bytes wr w.heap.size o (fixedTo n k)) (fun _ t _ => 8 - (intOf t).toNat)
  case atStart => exact ⟨0, by omega, rfl, E1.out, World.ownsRow_nil _ _ _ _⟩
  case round =>
    clear E1
    obtain ⟨k, hk, rfl, he, hown⟩ := hrel
    have HE := hid he
    have HO := hid hown
    clear he hown
    by_cases hlt : k < 8
    · have hdd : decide ((k : Int) < 8) = true := by simp; omega
      have hl : (fixedTo n k).length = k := by simp [fixedTo]
      have hs := fixedTo_succ n k
      have hc : Lib.byteCells (fixedTo n (k + 1)) = Lib.byteCells (fixedTo n k) ++ [.int .u8 ((n : Int) / 2 ^ (8 * k) % 256)] := by
        rw [hs, Lib.byteCells_append, ← fb_nat]; rfl
      have hl2 : (fixedTo n (k + 1)).length = (fixedTo n k).length + 1 := by rw [hs]; simp
      have HC := hid hc
      have HL := hid hl2
      have HL0 := hid hl
      clear hs hc hl hl2
      go_wp2_with (at_builtin; refine wpList_app byteE rfl (owns_ext HO.out ((Ext.rfl wr).al _)) rfl rfl (news_one _ _ _) (by simp [Value.oneCell']) (by have := HL0.out; omega) (HE.out.al _).size ?_; intro v' w4 hown4 hg4 hb4; have O4 := hid hown4; have E4 := hid (Below.trans (HE.out.al _) hb4); clear hown4 hg4 hb4)
      go_roundw
      case rel => exact ⟨k + 1, by omega, by go_num, E4.out, by unfold Bytes; rw [HC.out, HL.out]; exact O4.out⟩
      case measure => simp [intOf]; omega
    · have : k = 8 := by omega
      subst this
      go_wp2
      go_ret
      exact ⟨_, rfl, HO.out, HE.out⟩
end Go.Proofs.Ytoonhcmeklmnlaa
