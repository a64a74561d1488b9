/- The walk of the law SimfsFuses. -/
import Derived.Test.YtjekfifnhdoamaaLawSf
import Derived.Test.YtjekfifnhdoamaaSfF
import Derived.Laws.MakeOwn
import Derived.Deep.CutBlock
import Derived.Deep.CutRange
set_option linter.unusedSimpArgs false
set_option linter.unusedVariables false
set_option linter.unnecessarySimpa false
namespace Go.Proofs.Ytjekfifnhdoamaa
open Go.RowKit Go.Rg Go.St

theorem wr_sum {a b c q : Nat} (h : c = a + b) (h2 : c ≤ q) (h3 : q ≤ 2999) : wrap64 ((a : Int) + (b : Int)) = (c : Int) := by
  unfold wrap64
  omega
theorem byte_info : ∃ i : TypeInfo, Try.prog.info? 5 = some i ∧ i.zero = some (.int .u8 0) ∧ i.size = 1 ∧ i.bytes = 1 := by
  have h1 : ((Try.prog.info? 5).bind (·.zero)) = some (.int .u8 0) := by kernel_rfl
  have h2 : ((Try.prog.info? 5).map (·.size)) = some 1 := by kernel_rfl
  have h3 : ((Try.prog.info? 5).map (·.bytes)) = some 1 := by kernel_rfl
  cases hi : Try.prog.info? 5 with
  | none => rw [hi] at h2; cases h2
  | some i =>
    rw [hi] at h1 h2 h3
    exact ⟨i, rfl, h1, by simpa using h2, by simpa using h3⟩
/-- make([]byte, n) -/
theorem mk_bytes (w : World) (n : Nat) (hn : n ≤ 1000) : ∃ w', (Instr.makeSlice 53 (.int .i64 (n : Int)) (.int .i64 (n : Int))).run Try.prog w = .ok (.slice (some ⟨w.heap.size, 0, none⟩) n n) w' ∧ SlB w' (.slice (some ⟨w.heap.size, 0, none⟩) n n) (List.replicate n 0) ∧ Ext w w' := by
  obtain ⟨i, hi, hz, h1, h2⟩ := byte_info
  have hr := run_makeSlice (P := Try.prog) (w := w) 53 5 i _ Try.underlying53 hi hz .i64 .i64 (n : Int) (n : Int) (by omega) (Int.le_refl _) (by rw [h1]; omega) (by rw [h2]; omega) (by omega)
  simp only [Int.toNat_natCast, h1, Nat.mul_one] at hr
  refine ⟨_, hr, ?_, (Ext.rfl w).al _⟩
  have hl := slB_lit w (List.replicate n 0) (madeCells (Value.int .u8 0).cells n) (0, 0) ?_ (by rw [List.length_replicate]; exact hn)
  · rw [List.length_replicate] at hl
    exact hl
  · apply Array.ext
    · simp [size_madeCells, Lib.byteCells]
    · intro i h1 h2
      simp [madeCells, Value.cells, Lib.byteCells, Nat.mod_one]
set_option maxRecDepth 100000 in
set_option maxHeartbeats 8000000 in
theorem simfsFuses_walk (q0 f0 : Int) (v1 : Value) (sizes : List Int) (w : World) (h1 : SlI w v1 sizes) (hq : -9223372036854775808 ≤ q0 ∧ q0 ≤ 9223372036854775807) (hf : -9223372036854775808 ≤ f0 ∧ f0 ≤ 9223372036854775807) :
    Calls Try.prog 8 #[.int .i64 q0, v1, .int .i64 f0] w (TrueExt w) := by
  have S1 := hid h1
  obtain ⟨a1, c1, rfl, hc1, hm1, hcell1⟩ := h1.1.ex
  have HC1 := hid hcell1
  have HQ := hid hq
  have HF := hid hf
  clear h1 hc1 hm1 hcell1 hq hf
  go_enter Try.func8, Try.ntmps8
  go_wp2_with fail
  refine (awake04 w).mono ?_
  rintro e w1 ⟨rfl, he1⟩
  have E1 := hid he1
  clear he1
  go_upto_if 23 with fail
  go_cut [0] from 22 to 26 (fun v wx => ∃ a : Nat, a < 9223372036854775808 ∧ v = .int .i64 a ∧ wx = w1)
  case first =>
    have hb := HQ.out
    go_wp2_with fail
    all_goals
      go_meet
      case rel =>
        first
          | exact ⟨q0.toNat, by omega, by rw [Int.toNat_of_nonneg (by omega)], rfl⟩
          | exact ⟨(-(q0 + 1)).toNat, by omega, by rw [Int.toNat_of_nonneg (by omega)], rfl⟩
  case rest =>
    obtain ⟨qa, hqa, rfl, hw⟩ := hcut
    have E2 := hid (show Ext w wc from by rw [hw]; exact E1.out)
    have HQA := hid hqa
    clear hqa hw E1
    go_upto_if 28 with fail
    go_cut [2] from 27 to 31 (fun v wx => ∃ a : Nat, a < 9223372036854775808 ∧ v = .int .i64 a ∧ wx = wc)
    case first =>
      have hb := HF.out
      go_wp2_with fail
      all_goals
        go_meet
        case rel =>
          first
            | exact ⟨f0.toNat, by omega, by rw [Int.toNat_of_nonneg (by omega)], rfl⟩
            | exact ⟨(-(f0 + 1)).toNat, by omega, by rw [Int.toNat_of_nonneg (by omega)], rfl⟩
    case rest =>
      obtain ⟨fa, hfa, rfl, hw⟩ := hcut
      have E3 := hid (show Ext w wc from by rw [hw]; exact E2.out)
      clear hw E2
      have eq1 : ((qa : Int) % 3000) = ((qa % 3000 : Nat) : Int) := by omega
      have HQ3 := hid (show qa % 3000 ≤ 2999 by omega)
      have HF3 := hid (show fa % 60 ≤ 59 by omega)
      have ef1 : ((fa : Int) % 60) = ((fa % 60 : Nat) : Int) := by omega
      have EF := hid ef1
      clear hfa ef1
      go_upto_region 7 with fail
      rw [eq1]
      generalize qa % 3000 = q at *
      clear eq1
      go_wp2_with fail
      refine (own_new E3.out q (by have := HQ3.out; omega)).mono ?_
      rintro e w2 ⟨p, rfl, g2⟩
      have O2 := hid g2
      clear g2 E3
      go_wp2_with fail
      refine (own_create O2.out (Ext.rfl w2) faN (by show 0 < OpsMax; decide) (by decide)).mono ?_
      rintro e w3 ⟨he, g, _⟩
      rw [fz_a] at he g
      subst he
      have O3 := hid g
      clear g O2
      go_wp2_with fail
      refine (own_create O3.out (Ext.rfl w3) fbN (by show 1 < OpsMax; decide) (by decide)).mono ?_
      rintro e w4 ⟨he, g, _⟩
      rw [fz_b] at he g
      subst he
      have O4 := hid g
      clear g O3
      go_wp2_with fail
      rw [EF.out]
      generalize fa % 60 = left at *
      refine (own_fuse O4.out (Ext.rfl w4) left (by have := HF3.out; omega)).mono ?_
      rintro e w5 ⟨rfl, g, _⟩
      rw [fz_fuse] at g
      have O5 := hid g
      clear g O4
      go_wp2_with fail
      go_loopw [10, 11, 12] (fun s t u wr => ∃ (F : Nat → Fl) (i k l : Nat), i ≤ sizes.length ∧ i ≤ 50 ∧ k ≤ 2 + i ∧ l ≤ 59 ∧ s = .int .i64 l ∧ t = .int .i64 (fzS F) ∧ u = .int .i64 i ∧ fzS F ≤ q ∧ Own w wr p (fz F q k l)) (fun _ _ u _ => sizes.length - (intOf u).toNat)
      case atStart => exact ⟨_, 0, 2, left, Nat.zero_le _, by omega, by omega, HF3.out, by rw [EF.out], rfl, rfl, Nat.zero_le _, O5.out⟩
      case round =>
        clear O5
        obtain ⟨F, i, k, l, hi, hi5, hk, hl59, rfl, rfl, rfl, hs, hO⟩ := hrel
        have HL := hid hl59
        clear hl59
        have O := hid hO
        have HS := hid hs
        have HK := hid (And.intro hk hi5)
        clear hO hs hk
        by_cases hlt : i < sizes.length ∧ i < 50
        · have d1 : decide ((i : Int) < (sizes.length : Int)) = true := decide_eq_true (by omega)
          have d2 : decide ((i : Int) < 50) = true := decide_eq_true (by omega)
          obtain ⟨b, off, rfl, hcell⟩ := HC1.out (by omega)
          have ck : wr.cell? ⟨b, off + i, none⟩ = some (.int .i64 (nth sizes i)) := ext_cell O.out.ext (hcell i hlt.1)
          have hbx := S1.out.2 _ (nth_mem sizes i hlt.1)
          have HLT := hid hlt
          generalize nth sizes i = x at *
          have HX := hid hbx
          clear hcell hbx hlt hi hi5
          go_upto_region 18 with fail
          any_goals (exfalso; have h9 := HLT.out.1; contradiction)
          go_upto_if 74 with fail
          go_cut [13] from 73 to 77 (fun v wx => ∃ a : Nat, a < 9223372036854775808 ∧ v = .int .i64 a ∧ wx = wr)
          case first =>
            have hb := HX.out
            go_wp2_with fail
            all_goals
              go_meet
              case rel =>
                first
                  | exact ⟨x.toNat, by omega, by rw [Int.toNat_of_nonneg (by omega)], rfl⟩
                  | exact ⟨(-(x + 1)).toNat, by omega, by rw [Int.toNat_of_nonneg (by omega)], rfl⟩
          case rest =>
            obtain ⟨a, ha, rfl, rfl⟩ := hcut
            clear ha HX ck d1 d2
            generalize wc = wP at *
            have ea : ((a : Int) % 400) = ((a % 400 : Nat) : Int) := by omega
            have HN := hid (show a % 400 ≤ 399 by omega)
            go_upto_region 22 with fail
            rw [ea]
            generalize a % 400 = n at *
            clear ea
            go_upto_if 82 with fail
            go_cut [14] from 80 to 82 (fun v wx => ∃ j : Nat, j < 2 ∧ v = .string (fzN j) ∧ wx = wP)
            case first =>
              go_wp2_with fail
              all_goals
                go_meet
                case rel =>
                  first
                    | exact ⟨1, by decide, rfl, rfl⟩
                    | exact ⟨0, by decide, rfl, rfl⟩
            case rest =>
              obtain ⟨j, hj, rfl, rfl⟩ := hcut
              generalize wc = wQ at *
              have HJ := hid hj
              clear hj
              obtain ⟨w6, hmk, hS6, hE6⟩ := mk_bytes wQ n (by have := HN.out; omega)
              have S6 := hid hS6
              have E6 := hid hE6
              have OPS := hid (show (fz F q k l).ops < OpsMax by show k < OpsMax; have := HK.out; unfold OpsMax; omega)
              have NB := hid (show (List.replicate n (0 : UInt8)).length ≤ 140737488355328 by rw [List.length_replicate]; have := HN.out; omega)
              have hq2 : q ≤ 2999 := HQ3.out
              have hn3 : n ≤ 399 := HN.out
              have hs3 : fzS F ≤ q := HS.out
              have hl3 : l ≤ 59 := HL.out
              have hi50 : i < 50 := HLT.out.2
              clear hS6 hE6
              go_wp2_with fail
              refine (own_append O.out E6.out (fzN j) S6.out NB.out OPS.out).mono ?_
              rintro e w7 ⟨he, g, _⟩
              subst he
              by_cases hl : l = 0
              · have dl : ((l : Int) == 0) = true := by rw [hl]; rfl
                have dl2 : ¬ 0 < l := by omega
                have dl3 : decide ((0 : Int) < (l : Int)) = false := decide_eq_false (by omega)
                have e1 : (fz F q k l).append (fzN j) (List.replicate n 0) = (44, fz F q (k + 1) l) := by rw [hl]; exact fz_down F q k j _
                rw [e1] at g ⊢
                have G := hid g
                clear g hl e1 hmk
                go_wp2_with fail
                go_roundw
                case rel => exact ⟨F, i + 1, k + 1, l, by have := HLT.out; omega, by have := HLT.out; omega, by have := HK.out; omega, HL.out, rfl, rfl, by go_num, HS.out, G.out⟩
                case measure => have := HLT.out; simp [intOf]; omega
              · have dl : ((l : Int) == 0) = false := by rw [beq_eq_false_iff_ne]; omega
                have dl2 : 0 < l := by omega
                have dl3 : decide ((0 : Int) < (l : Int)) = true := decide_eq_true (by omega)
                obtain ⟨m, rfl⟩ : ∃ m, l = m + 1 := ⟨l - 1, by omega⟩
                have wl : IntKind.i64.wrap (((m + 1 : Nat) : Int) - 1) = (m : Int) := by simp [IntKind.wrap_i64]; omega
                by_cases hqs : q < fzS F + n
                · have e1 := fz_full F q k m j (List.replicate n 0) HJ.out (by rw [List.length_replicate]; exact hqs)
                  rw [e1] at g ⊢
                  have dq : decide ((q : Int) < (fzS F : Int) + (n : Int)) = true := decide_eq_true (by omega)
                  have G := hid g
                  clear g hl e1 hmk
                  go_wp2_with fail
                  go_roundw
                  case rel => exact ⟨F, i + 1, k + 1, m, by have := HLT.out; omega, by have := HLT.out; omega, by have := HK.out; omega, by have := HL.out; omega, by go_num, rfl, by go_num, HS.out, G.out⟩
                  case measure => have := HLT.out; simp [intOf]; omega
                · obtain ⟨e1, e2⟩ := fz_fits F q k m j (List.replicate n 0) HJ.out (by rw [List.length_replicate]; omega)
                  rw [e1] at g ⊢
                  rw [List.length_replicate] at e2
                  have dq : decide ((q : Int) < (fzS F : Int) + (n : Int)) = false := decide_eq_false (by omega)
                  have G := hid g
                  have E2 := hid e2
                  have HQS := hid hqs
                  clear g hl e1 hmk e2 hqs
                  go_wp2_with fail
                  go_roundw
                  case rel => exact ⟨_, i + 1, k + 1, m, by have := HLT.out; omega, by have := HLT.out; omega, by have := HK.out; omega, by have := HL.out; omega, by go_num, by rw [E2.out]; go_num, by go_num, by rw [E2.out]; have := HQS.out; omega, G.out⟩
                  case measure => have := HLT.out; simp [intOf]; omega
        · have HEX := hid hlt
          have HI := hid (And.intro hi hi5)
          clear hlt hi hi5
          obtain ⟨x, hx⟩ : ∃ x, x = decide ((i : Int) < (sizes.length : Int)) := ⟨_, rfl⟩
          cases x
          · have d1 : decide ((i : Int) < (sizes.length : Int)) = false := hx.symm
            have d1n : ¬ i < sizes.length := by have h1 := of_decide_eq_false hx.symm; omega
            clear hx
            go_wp2_with fail
            refine (own_fuse O.out (Ext.rfl wr) (-1) (by decide)).mono ?_
            rintro e w8 ⟨rfl, g, _⟩
            have O8 := hid g
            clear g
            go_wp2_with fail
            refine (own_read O8.out faN).mono ?_
            rintro e w9 ⟨v9, rfl, hv9⟩
            rw [show faN = fzN 0 from rfl, fz_read F q k l 0 (by decide)] at hv9
            rw [show faN = fzN 0 from rfl, fz_read F q k l 0 (by decide)]
            have h9 : BytesNew w8 (F 0).b v9 w9 := hv9
            obtain ⟨a9, c9, rfl, hb9⟩ := slice_ofG h9.1
            have O9 := hid (O8.out.go h9.2)
            clear hv9 h9 O8
            go_wp2_with fail
            refine (own_read O9.out fbN).mono ?_
            rintro e w10 ⟨v10, rfl, hv10⟩
            rw [show fbN = fzN 1 from rfl, fz_read F q k l 1 (by decide)] at hv10
            rw [show fbN = fzN 1 from rfl, fz_read F q k l 1 (by decide)]
            have h10 : BytesNew w9 (F 1).b v10 w10 := hv10
            obtain ⟨a10, c10, rfl, hb10⟩ := slice_ofG h10.1
            have O10 := hid (O9.out.go h10.2)
            clear hv10 h10 O9
            have hsum : fzS F = (F 0).b.length + (F 1).b.length := rfl
            have HSUM := hid hsum
            have HSQ := HS.out
            have hq2 : q ≤ 2999 := HQ3.out
            have hw := wr_sum hsum HSQ hq2
            have dle : decide ((fzS F : Int) ≤ (q : Int)) = true := decide_eq_true (by omega)
            clear hsum
            generalize (F 0).b.length = n0 at *
            generalize (F 1).b.length = n1 at *
            go_wp2_with fail
            go_ret
            exact ⟨rfl, O10.out.ext⟩
          · have d1 : decide ((i : Int) < (sizes.length : Int)) = true := hx.symm
            have d2 : decide ((i : Int) < 50) = false := by have h1 := of_decide_eq_true hx.symm; have h2 := HEX.out; exact decide_eq_false (by omega)
            have d2n : ¬ i < 50 := by have h2 := of_decide_eq_false d2; omega
            have d1n : i < sizes.length := by have h1 := of_decide_eq_true hx.symm; omega
            clear hx
            go_wp2_with fail
            refine (own_fuse O.out (Ext.rfl wr) (-1) (by decide)).mono ?_
            rintro e w8 ⟨rfl, g, _⟩
            have O8 := hid g
            clear g
            go_wp2_with fail
            refine (own_read O8.out faN).mono ?_
            rintro e w9 ⟨v9, rfl, hv9⟩
            rw [show faN = fzN 0 from rfl, fz_read F q k l 0 (by decide)] at hv9
            rw [show faN = fzN 0 from rfl, fz_read F q k l 0 (by decide)]
            have h9 : BytesNew w8 (F 0).b v9 w9 := hv9
            obtain ⟨a9, c9, rfl, hb9⟩ := slice_ofG h9.1
            have O9 := hid (O8.out.go h9.2)
            clear hv9 h9 O8
            go_wp2_with fail
            refine (own_read O9.out fbN).mono ?_
            rintro e w10 ⟨v10, rfl, hv10⟩
            rw [show fbN = fzN 1 from rfl, fz_read F q k l 1 (by decide)] at hv10
            rw [show fbN = fzN 1 from rfl, fz_read F q k l 1 (by decide)]
            have h10 : BytesNew w9 (F 1).b v10 w10 := hv10
            obtain ⟨a10, c10, rfl, hb10⟩ := slice_ofG h10.1
            have O10 := hid (O9.out.go h10.2)
            clear hv10 h10 O9
            have hsum : fzS F = (F 0).b.length + (F 1).b.length := rfl
            have HSUM := hid hsum
            have HSQ := HS.out
            have hq2 : q ≤ 2999 := HQ3.out
            have hw := wr_sum hsum HSQ hq2
            have dle : decide ((fzS F : Int) ≤ (q : Int)) = true := decide_eq_true (by omega)
            clear hsum
            generalize (F 0).b.length = n0 at *
            generalize (F 1).b.length = n1 at *
            go_wp2_with fail
            go_ret
            exact ⟨rfl, O10.out.ext⟩
end Go.Proofs.Ytjekfifnhdoamaa
