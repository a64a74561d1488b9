/- The walk of ordered: a text that stands among others as a key does. -/
import Derived.Test.YtoonhcmeklmnlaaMt3
set_option linter.unusedSimpArgs false
set_option linter.unusedVariables false
set_option linter.unnecessarySimpa false
namespace Go.Proofs.Ytoonhcmeklmnlaa
open Go.RowKit Go.Rg Go.St

def escC (c : UInt8) : List UInt8 := if c = 0 then [0, 255] else [c]
def esc (l : List UInt8) : List UInt8 := l.flatMap escC
theorem esc_snoc (l : List UInt8) (c : UInt8) : esc (l ++ [c]) = esc l ++ escC c := by simp [esc]
theorem esc_len (l : List UInt8) : (esc l).length ≤ 2 * l.length := by
  induction l with
  | nil => simp [esc]
  | cons c l ih =>
    have e : esc (c :: l) = escC c ++ esc l := by simp [esc]
    rw [e, List.length_append, List.length_cons]
    have : (escC c).length ≤ 2 := by unfold escC; split <;> simp
    omega
/-- a key's number and kind, the least first -/
def turned (s k : Nat) : Nat := 18446744073709551615 - (s * 256 + k)
def ordL (u : List UInt8) (s k : Nat) : List UInt8 := esc u ++ [0, 0] ++ (fixedTo (turned s k) 8).reverse
theorem ordL_len (u : List UInt8) (s k : Nat) : (ordL u s k).length ≤ 2 * u.length + 10 := by
  have := esc_len u
  unfold ordL
  rw [List.length_append, List.length_append, List.length_reverse]
  have h : (fixedTo (turned s k) 8).length = 8 := by simp [fixedTo]
  rw [h]
  simp
  omega

theorem wraps_u64 (n : Int) (h0 : 0 ≤ n) (h1 : n < 2 ^ 64) : IntKind.u64.wrap n = n := by
  have e : IntKind.u64.wrap n = n % 18446744073709551616 := by simp [IntKind.wrap, IntKind.bits, IntKind.signed]
  rw [e]; omega
theorem xor_max (x : Nat) (hx : x < 18446744073709551616) : bits .xor .u64 IntKind.u64.max (x : Int) = ((18446744073709551615 - x : Nat) : Int) := by
  have e : (BitVec.ofInt 64 18446744073709551615 ^^^ BitVec.ofInt 64 (x : Int)).toNat = 18446744073709551615 - x := by
    have h1 : BitVec.ofInt 64 18446744073709551615 = BitVec.allOnes 64 := by decide
    rw [h1, BitVec.allOnes_xor, BitVec.toNat_not, BitVec.ofInt_natCast, BitVec.toNat_ofNat, Nat.mod_eq_of_lt hx]
  show IntKind.u64.wrap ((BitVec.ofInt 64 18446744073709551615 ^^^ BitVec.ofInt 64 (x : Int)).toNat : Int) = _
  rw [e]
  exact wraps_u64 _ (Int.natCast_nonneg _) (by omega)
theorem turn_bits (s k : Nat) (hs : s < 72057594037927936) (hk : k < 256) : bits .xor .u64 IntKind.u64.max (bits .or .u64 ((s : Int) * 256) (k : Int)) = ((18446744073709551615 - (s * 256 + k) : Nat) : Int) := by
  have h1 : bits .or .u64 ((s : Int) * 256) (k : Int) = ((s * 256 + k : Nat) : Int) := by
    rw [bits_join .u64 64 (by decide) wraps_u64 8 _ _ (by omega) (by omega) (by omega) (by omega) (by omega) (by omega)]
    simp
  rw [h1]
  exact xor_max _ (by omega)
theorem take_byte (s : ByteArray) (k : Nat) (h : k < s.size) : s.data.toList.take (k + 1) = s.data.toList.take k ++ [s[k]] := by
  rw [List.take_succ_eq_append_getElem (by simpa using h)]; rfl
theorem rev_take (n j : Nat) (hj : j < 8) : (fixedTo n 8).reverse.take (j + 1) = (fixedTo n 8).reverse.take j ++ [fb n (7 - j)] := by
  rw [List.take_succ_eq_append_getElem (by simp [fixedTo]; exact hj)]
  congr 2
  simp [fixedTo, List.getElem_reverse]
theorem Bytes.cells {w : World} {base : Nat} {v : Value} {l : List UInt8} (h : Bytes w base v l) : SlByte w v l :=
  Sl1.cong (owns_sl1 h) fun i hi => by
    rw [nth_eq l i hi]
    simp [Lib.byteCells, hi]
theorem fixed_nth (n i : Nat) (hi : i < 8) : nth (fixedTo n 8) i = fb n i := by
  rw [nth_eq _ _ (by simpa [fixedTo] using hi)]; simp [fixedTo]
/-- the builder between two writes -/
structure Wr (w wr : World) (l : List UInt8) (G : Nat → Prop) : Prop where
  b : BW wr w.heap.size w.heap.size l G
  e : Ext w wr
theorem Wr.put {w wr : World} {l : List UInt8} {G : Nat → Prop} (h : Wr w wr l G) (c : UInt8) (hl : l.length < 140737488355328) :
    Calls Try.prog 90 #[.pointer (some ⟨w.heap.size, 0, none⟩), .int .u8 c.toNat] wr (fun e w' => e = .returned .nilIface ∧ Wr w w' (l ++ [c]) G ∧ ∀ g, G g → w'.heap[g]? = wr.heap[g]?) := by
  refine (h.b.put c hl).mono ?_
  rintro e w' ⟨rfl, h1, h2, h3⟩
  exact ⟨rfl, ⟨h1, Below.trans h.e h2⟩, h3⟩
/-- something new is kept apart -/
theorem Wr.apart {w wr w' : World} {l : List UInt8} {v : Value} {ls : List UInt8} (h : Wr w wr l (fun _ => False)) (he : Ext wr w') (hv : Bytes w' wr.heap.size v ls) : Wr w w' l (fun g => v.ownBlock = some g) := by
  obtain ⟨p, u, hp, hb, hown, _⟩ := h.b.ex
  refine ⟨⟨⟨p, u, hp, (he.block _ (blk_lt hb)).trans hb, owns_ext hown he, fun g hg => ?_⟩, h.b.hB, Nat.le_trans h.b.hs he.size⟩, h.e.tr he⟩
  have h1 := World.ownsRow.lt hv g hg
  have h2 := blk_lt hb
  refine ⟨h1.2, by omega, fun e => ?_⟩
  have h3 := World.ownsRow.lt hown g e
  omega

set_option maxRecDepth 100000 in
set_option maxHeartbeats 2000000 in
theorem ordered_in (u : ByteArray) (s k : Nat) (hs : s < 72057594037927936) (hk : k < 256) (hu : u.size ≤ 1099511627776) (w : World) :
    Calls Try.prog 66 #[.string u, .int .u64 s, .int .i64 k] w (fun e w' => e = .returned (.string ⟨(ordL u.data.toList s k).toArray⟩) ∧ Ext w w') := by
  go_enter Try.func66, Try.ntmps66
  go_wp2
  go_loopw [14] (fun t wr => ∃ j : Nat, j ≤ u.size ∧ t = .int .i64 j ∧ Wr w wr (esc (u.data.toList.take j)) (fun _ => False)) (fun t _ => u.size - (intOf t).toNat)
  case atStart => exact ⟨0, Nat.zero_le _, rfl, ⟨⟨_, _, .inl rfl, heap_alloc_new w _, World.ownsRow_nil _ _ _ _, fun g h => h.elim⟩, Nat.le_refl _, ((Ext.rfl w).al _).size⟩, (Ext.rfl w).al _⟩
  case round =>
    obtain ⟨j, hj, rfl, hw⟩ := hrel
    have HW := hid hw
    have hle := esc_len (u.data.toList.take j)
    have hl2 : (u.data.toList.take j).length ≤ j := List.length_take_le _ _
    clear hw
    by_cases hlt : j < u.size
    · have htb := hid (take_byte u j hlt)
      go_wp2_with fail
      refine (HW.out.put u[j] (by omega)).mono ?_
      rintro e w1 ⟨rfl, h1, _⟩
      have H1 := hid h1
      clear h1
      by_cases hz : u[j] = 0
      · have hzb : ((u[j].toNat : Int) == 0) = true := by rw [hz]; rfl
        have HZ := hid hz
        clear hz
        go_wp2_with fail
        refine (H1.out.put 255 (by simp; omega)).mono ?_
        rintro e w2 ⟨rfl, h2, _⟩
        have H2 := hid h2
        clear h2
        go_wp2
        go_roundw
        case rel => exact ⟨j + 1, by omega, by go_num, by rw [htb.out, esc_snoc, HZ.out]; simpa [escC, HZ.out] using H2.out⟩
        case measure => simp [intOf]; omega
      · have hzb : ((u[j].toNat : Int) == 0) = false := by
          rw [beq_eq_false_iff_ne]
          intro e
          exact hz (UInt8.toNat_inj.1 (by have : (u[j].toNat : Int) = 0 := e; simpa using this))
        have HZ := hid hz
        clear hz
        go_wp2
        go_roundw
        case rel => exact ⟨j + 1, by omega, by go_num, by rw [htb.out, esc_snoc]; simpa [escC, HZ.out] using H1.out⟩
        case measure => simp [intOf]; omega
    · have : j = u.size := by omega
      subst this
      rw [List.take_of_length_le (by simp)] at HW
      have hle := esc_len u.data.toList
      have hsz : u.data.toList.length = u.size := by simp
      go_wp2_with fail
      refine (HW.out.put 0 (by omega)).mono ?_
      rintro e w1 ⟨rfl, h1, _⟩
      have H1 := hid h1
      clear h1
      go_wp2_with fail
      refine (H1.out.put 0 (by simp; omega)).mono ?_
      rintro e w2 ⟨rfl, h2, _⟩
      have H2 := hid h2
      clear h2
      go_wp2_with fail
      rw [turn_bits s k hs hk]
      have hT : turned s k < 2 ^ 64 := by unfold turned; omega
      refine (fixed_in (turned s k) hT w2).mono ?_
      rintro e w3 ⟨v, rfl, hv3, he3⟩
      have H3 := hid (H2.out.apart he3 hv3)
      obtain ⟨av, cv, rfl, hmx⟩ := slice_of hv3
      have HV := hid hv3
      have hl8 : (fixedTo (turned s k) 8).length = 8 := by simp [fixedTo]
      rw [hl8]
      have HL8 := hid hl8
      have HSZ := hid hsz
      have HLE := hid hle
      clear hT he3 hv3 H2 H1 HW hmx hl8 hsz hle
      go_wp2
      go_loopw [11] (fun t wr => ∃ j : Nat, j ≤ 8 ∧ t = .int .i64 (7 - (j : Int)) ∧ Wr w wr (esc u.data.toList ++ [0] ++ [0] ++ (fixedTo (turned s k) 8).reverse.take j) (fun g => (Value.slice av (fixedTo (turned s k) 8).length cv).ownBlock = some g) ∧ Bytes wr w2.heap.size (.slice av (fixedTo (turned s k) 8).length cv) (fixedTo (turned s k) 8)) (fun t _ => (intOf t + 1).toNat)
      case atStart => exact ⟨0, by omega, by simp, by simpa using H3.out, HV.out⟩
      case round =>
        clear H3 HV
        obtain ⟨j, hj, rfl, hw, hv⟩ := hrel
        have HW := hid hw
        have HV := hid hv
        clear hw hv
        by_cases hlt2 : j < 8
        · have hcv := HV.out.cells.ex
          obtain ⟨a', c', he, _, _, hc⟩ := hcv
          rw [HL8.out] at he hc
          simp only [Value.slice.injEq] at he
          obtain ⟨rfl, _, rfl⟩ := he
          obtain ⟨b1, off, rfl, hcell⟩ := hc (by omega)
          clear hc
          obtain ⟨i, hi⟩ : ∃ i, i + j = 7 := ⟨7 - j, by omega⟩
          have c0 := hcell i (by omega)
          rw [fixed_nth _ _ (by omega)] at c0
          rw [show (7 : Int) - (j : Int) = (i : Int) by omega]
          have hrt := rev_take (turned s k) j hlt2
          rw [show 7 - j = i by omega] at hrt
          have HRT := hid hrt
          have HI := hid hi
          have hi8 : i < 8 := by omega
          have hlen : (esc u.data.toList ++ [0] ++ [0] ++ (fixedTo (turned s k) 8).reverse.take j).length < 140737488355328 := by
            have h1 := HLE.out
            have h2 := HSZ.out
            have h3 := List.length_take_le j (fixedTo (turned s k) 8).reverse
            simp only [List.length_append, List.length_cons, List.length_nil]
            omega
          have HLN := hid hlen
          clear hcell hrt hi hlen
          go_wp2_with fail
          refine (HW.out.put (fb (turned s k) i) HLN.out).mono ?_
          rintro e w4 ⟨rfl, h4, h5⟩
          have H4 := hid h4
          have HV4 := hid (owns_ch (w' := w4) HV.out h5)
          clear h4 h5
          go_wp2
          go_roundw
          case rel => exact ⟨j + 1, by omega, int_val (by have := HI.out; omega), by rw [HRT.out, ← List.append_assoc]; exact H4.out, HV4.out⟩
          case measure => simp [intOf]
        · have : j = 8 := by omega
          subst this
          have hx : (7 : Int) - ((8 : Nat) : Int) = -1 := by decide
          rw [hx]
          have hall : (fixedTo (turned s k) 8).reverse.take 8 = (fixedTo (turned s k) 8).reverse := List.take_of_length_le (by rw [List.length_reverse, HL8.out]; omega)
          rw [hall] at HW
          clear hall hx
          go_wp2_with fail
          refine (Try.Builder_String_any w.heap.size w.heap.size _ _ HW.out.b.is HW.out.b.hs).mono ?_
          rintro e w5 ⟨rfl, he5⟩
          have E5 := hid (Below.trans HW.out.e he5)
          clear he5
          go_wp2
          go_ret
          exact ⟨by simp [ordL], E5.out⟩
end Go.Proofs.Ytoonhcmeklmnlaa
