/- The walk of the law SnapsHolds. -/
import Derived.Test.YtjekfifnhdoamaaSn7
import Derived.Test.YtjekfifnhdoamaaSn4
set_option linter.unusedSimpArgs false
set_option linter.unusedVariables false
set_option linter.unnecessarySimpa false
namespace Go.Proofs.Ytjekfifnhdoamaa
open Go.RowKit Go.Rg Go.St

theorem boolE : ElT Try.prog 44 4 1 1 := ⟨by kernel_rfl, by kernel_rfl, by decide, by decide⟩
theorem bool_parts : ∃ i, Try.prog.info? 4 = some i ∧ i.zero = some (.bool false) ∧ i.size = 1 ∧ i.bytes = 1 := by
  have h1 : (Try.prog.info? 4).map (fun i => (i.zero, i.size, i.bytes)) = some (some (.bool false), 1, 1) := by kernel_rfl
  cases hq : Try.prog.info? 4 with
  | none => rw [hq] at h1; cases h1
  | some i =>
    rw [hq] at h1
    simp at h1
    exact ⟨i, rfl, h1⟩
/-- what the law has: the set, and which of n are held -/
structure HSt (B sb mb hb n : Nat) (S : Nat → Int) (H : Nat → Bool) (w wr : World) : Prop where
  sn : SnAt B sb mb (HL n S H) n n wr
  hb1 : hb ≠ sb
  hb2 : hb ≠ mb
  row : RowB hb n H wr
  bel : Below B w wr
theorem madeB {w : World} {cur : Array Value} {n g : Nat} (hc : w.heap[g]? = some (.cells cur 4 (0, 0))) (hs : cur.size = n * 1) (ht : cur.toList.take (n * 1) = (madeCells (Value.bool false).cells (n * 1)).toList) : RowB g n (fun _ => false) w := by
  refine ⟨cur, hc, by omega, fun i hi => ?_⟩
  have h1 : (cur.toList.take (n * 1))[i]? = some (.bool false) := by
    rw [ht, Nat.mul_one, show (Value.bool false).cells = #[.bool false] from rfl, toList_madeCells_one]
    simp [hi]
  rw [List.getElem?_take, if_pos (by omega)] at h1
  simpa using h1
theorem pick_remS {x : Int} {n : Nat} (hn : 0 < n) (hx : 0 ≤ x) : ∃ q : Nat, q < n ∧ x.tmod (n : Int) = (q : Int) := by
  obtain ⟨m, rfl⟩ := Int.eq_ofNat_of_zero_le hx
  exact ⟨m % n, Nat.mod_lt _ hn, by rw [Int.tmod_eq_emod_of_nonneg hx]; rfl⟩
/-- is one of the first k like it? -/
def likeTo (H : Nat → Bool) (S : Nat → Int) (v : Int) (k : Nat) : Bool := (List.range k).any (fun j => H j && decide (S j = v))
theorem likeTo_succ (H : Nat → Bool) (S : Nat → Int) (v : Int) (k : Nat) : likeTo H S v (k + 1) = (likeTo H S v k || (H k && decide (S k = v))) := by
  unfold likeTo
  rw [List.range_succ, List.any_append]
  simp
theorem likeTo_iff (H : Nat → Bool) (S : Nat → Int) (v : Int) (k : Nat) : likeTo H S v k = true ↔ ∃ j, j < k ∧ H j = true ∧ S j = v := by
  unfold likeTo
  rw [List.any_eq_true]
  constructor
  · rintro ⟨j, hj, h⟩
    simp at h
    exact ⟨j, List.mem_range.1 hj, h.1, h.2⟩
  · rintro ⟨j, h1, h2, h3⟩
    exact ⟨j, List.mem_range.2 h1, by simp [h2, h3]⟩
theorem HSt.go {B sb mb hb n : Nat} {S : Nat → Int} {H : Nat → Bool} {w wr wx : World} (h : HSt B sb mb hb n S H w wr) (he : Ext wr wx) : HSt B sb mb hb n S H w wx :=
  ⟨h.sn.go he, h.hb1, h.hb2, h.row.kept (he.block _ h.row.lt), Below.trans h.bel (Below.mono he (Nat.le_trans h.sn.bs (Nat.le_of_lt (lt_of_at h.sn.row))))⟩
def offH (H : Nat → Bool) (q : Nat) : Nat → Bool := fun j => if j = q then false else H j
theorem offH_off {H : Nat → Bool} {q : Nat} (h : H q = false) : offH H q = H := by
  funext j
  unfold offH
  by_cases e : j = q
  · rw [if_pos e, e, h]
  · rw [if_neg e]
set_option maxRecDepth 100000 in
set_option maxHeartbeats 8000000 in
theorem snapsHolds_walk (v0 v1 : Value) (l0 : Nat) (S : Nat → Int) (picks : List Int) (w : World) (h0 : Sl1 w v0 l0 (fun i => .int .u64 (S i))) (h1 : Sl1 w v1 picks.length (fun i => .int .i64 (nth picks i)))
    (hr1 : ∀ p, p ∈ picks → -9223372036854775808 ≤ p ∧ p ≤ 9223372036854775807) :
    Calls Try.prog 5 #[v0, v1] w (AwakeS w) := by
  have H1 := hid h1
  have HR1 := hid hr1
  obtain ⟨bi, hbi, hbz, hbs, hbb⟩ := bool_parts
  have HBI := hid hbi
  have HBZ := hid hbz
  have HBS := hid hbs
  have HBB := hid hbb
  obtain ⟨a0, c0, rfl, hlc, hcm, hcell⟩ := h0.ex
  have HC0 := hid hcell
  have HLC := hid (And.intro hlc hcm)
  have HEX := hid (show ∀ w', Below w.heap.size w w' → Ext w w' from fun _ h => h)
  clear h1 hr1 hbi hbz hbs hbb hcell h0 hlc hcm
  go_enter Try.func5, Try.ntmps5
  go_wp2_with fail
  refine (awake20 w).mono ?_
  rintro e w1 ⟨rfl, he1⟩
  have E1 := hid he1
  clear he1
  go_wp2_with fail
  refine (new_in _).mono ?_
  rintro e w2 ⟨sb, mb, rfl, h2, he2⟩
  have B2 := hid (show Below w.heap.size w w2 from Below.trans E1.out (Below.mono he2 E1.out.size))
  have H2 := hid (show SnAt w.heap.size sb mb [] 0 0 w2 from ⟨h2.row, h2.map, Nat.le_trans E1.out.size h2.bs, Nat.le_trans E1.out.size h2.bm, h2.born, h2.nd, h2.key⟩)
  have HSN := hid (show sb < w2.heap.size ∧ mb < w2.heap.size from ⟨lt_of_at h2.row, lt_of_at h2.map⟩)
  clear h2 he2
  go_upto_if 32 with fail
  go_cut [0] from 30 to 34 (fun v wx => wx = w2 ∧ ∃ n : Nat, n ≤ 100 ∧ n ≤ l0 ∧ v = .slice a0 n c0)
  case first =>
    by_cases hlt : 100 < l0
    · have hd : decide ((100 : Int) < (l0 : Int)) = true := decide_eq_true (by omega)
      have hc100 : 100 ≤ c0 := by have := HLC.out.1; omega
      go_wp2_with fail
      go_meet
      case rel => exact ⟨rfl, 100, Nat.le_refl _, Nat.le_of_lt hlt, rfl⟩
    · have hd : decide ((100 : Int) < (l0 : Int)) = false := decide_eq_false (by omega)
      go_wp2_with fail
      go_meet
      case rel => exact ⟨rfl, l0, by omega, Nat.le_refl _, rfl⟩
  case rest =>
    obtain ⟨rfl, n, hn, hnl, rfl⟩ := hcut
    have HNL := hid (And.intro hnl (show n ≤ maxLen by unfold maxLen; omega))
    have HB8 := hid (show bi.bytes * n ≤ 281474976710656 by rw [HBB.out]; omega)
    have HW := hid (show w.heap.size ≤ wc.heap.size from B2.out.size)
    go_upto_region 8 with (at_make; refine wpList_make_full _ rfl _ _ 44 rfl wc.heap.size 4 bi (.bool false) 1 boolE.und HBI.out HBZ.out HBS.out _ _ _ _ n rfl rfl rfl rfl HB8.out HNL.out.2 (Nat.le_refl _) ?_; intro w3 hown3 hg3; obtain ⟨cur3, hc3, hs3, ht3⟩ := owns_at hown3; have M3 := hid (show Ext wc w3 from ⟨hg3.os, hg3.tape, hg3.output, hg3.size, fun k hk => hg3.block k hk (fun e => by cases e)⟩); have C3 := hid hc3; have S3 := hid hs3; have T3 := hid ht3; clear hown3 hg3 hc3 hs3 ht3)
    have R3 := hid (madeB C3.out S3.out T3.out.1)
    obtain ⟨hb, hhb⟩ : ∃ hb, hb = wc.heap.size := ⟨_, rfl⟩
    rw [← hhb] at R3 ⊢
    have HH3 := hid (show RowB hb n (fun j => decide (j < 0)) w3 from R3.out.cong fun i _ => by simp)
    have SN3 := hid (show SnAt w.heap.size sb mb (HL 0 S (fun _ => true)) ((0 : Nat) : Int).toNat ((0 : Nat) : Int) w3 from H2.out.go M3.out)
    have HNE := hid (show hb ≠ sb ∧ hb ≠ mb from ⟨by have := HSN.out; omega, by have := HSN.out; omega⟩)
    have BB3 := hid (show Below w.heap.size w w3 from Below.trans B2.out (Below.mono M3.out HW.out))
    have HBG := hid (show w.heap.size ≤ hb by rw [hhb]; exact HW.out)
    clear R3 H2 C3 S3 T3 M3 B2 hhb
    go_wp2_with fail
    go_loopw [8] (fun t wr => ∃ i : Nat, i ≤ n ∧ t = .int .i64 i ∧ SnAt w.heap.size sb mb (HL i S (fun _ => true)) i i wr ∧ RowB hb n (fun j => decide (j < i)) wr ∧ Below w.heap.size w wr) (fun t _ => n - (intOf t).toNat)
    case atStart => exact ⟨0, Nat.zero_le _, rfl, SN3.out, HH3.out, BB3.out⟩
    case round =>
      clear SN3 HH3 BB3
      obtain ⟨i, hi, rfl, hsn, hrow, hbel⟩ := hrel
      have SN := hid hsn
      have HR := hid hrow
      have HB := hid hbel
      clear hsn hrow hbel
      by_cases hin : i < n
      · obtain ⟨b, off, ha, hcell⟩ := HC0.out (by omega)
        subst ha
        have ci := ext_cell (HEX.out _ HB.out) (hcell i (by omega))
        clear hcell
        go_wp2_with fail
        refine (take_on w.heap.size sb mb _ i i (S i) _ SN.out (by have := HL_len i S (fun _ => true); omega) (by omega) (by omega)).mono ?_
        rintro e w4 ⟨rfl, h4, o4⟩
        have SN4 := hid (show SnAt w.heap.size sb mb (HL (i + 1) S (fun _ => true)) (i + 1) ((i : Int) + 1) w4 by rw [HL_succ]; exact h4)
        have HR4 := hid (HR.out.kept (o4.block _ HR.out.lt HNE.out.1 HNE.out.2))
        have HB4 := hid (Below.trans HB.out (o4.below SN.out.bs SN.out.bm HB.out.size))
        have dn : ((i : Int) != (i : Int)) = false := by simp
        have ch := HR4.out.cell hin
        have fh := HR4.out.frozen
        clear h4 o4 ci
        go_wp2_with fail
        go_roundw
        case rel =>
          refine ⟨i + 1, by omega, by go_num, ?_, ?_, ?_⟩
          · exact SN4.out.kept (heap_setCell_other _ _ _ _ (Ne.symm HNE.out.1)) (heap_setCell_other _ _ _ _ (Ne.symm HNE.out.2))
          · exact (HR4.out.set hin true).cong fun j hj => by
              by_cases e : j = i
              · subst e; simp
              · rw [if_neg e]; simp; omega
          · exact Below.setCell (p := ⟨hb, i, none⟩) HB4.out HBG.out _
        case measure => first | (simp [intOf]; done) | (simp [intOf]; omega)
      · obtain rfl : n = i := by omega
        have HT := hid (show HSt w.heap.size sb mb hb n S (fun _ => true) w wr from ⟨SN.out, HNE.out.1, HNE.out.2, HR.out.cong fun j hj => by simpa using hj, HB.out⟩)
        clear SN HR HB hi
        go_upto_if 65 with fail
        go_cut [11, 12] from 63 to 72 (fun _ _ wx => wx = wr)
        case first =>
          by_cases h100 : n = 100
          · have d100 : decide ((n : Int) = 100) = true := decide_eq_true (by omega)
            have HN100 := hid h100
            have b100 : ((n : Int) == 100) = true := by simp; omega
            have c100 : (n == 100) = true := by simp [h100]
            clear h100
            go_wp2_with fail
            refine (take_full w.heap.size sb mb _ n n 1 _ HT.out.sn (by rw [HL_full_len]; have := HN100.out; omega)).mono ?_
            rintro e w4 ⟨rfl, rfl⟩
            go_wp2_with fail
            go_meet
            case rel => rfl
          · have d100 : decide ((n : Int) = 100) = false := decide_eq_false (by omega)
            have h100' : ¬ (n : Int) = 100 := by omega
            go_wp2_with fail
            go_meet
            case rel => rfl
        case rest =>
          subst hcut
          obtain ⟨a1, c1, rfl, hlc1, hcm1, hcell1⟩ := H1.out.ex
          have HC1 := hid hcell1
          have hpl : picks.length ≤ 9223372036854775807 := by unfold maxLen at hcm1; omega
          clear hlc1 hcm1 hcell1
          go_wp2_with fail
          go_loopw [13] (fun t wr => ∃ (k : Nat) (H : Nat → Bool), k ≤ picks.length ∧ t = .int .i64 k ∧ HSt w.heap.size sb mb hb n S H w wr) (fun t _ => picks.length - (intOf t).toNat)
          case atStart => exact ⟨0, fun _ => true, Nat.zero_le _, rfl, HT.out⟩
          case round =>
            clear HT
            obtain ⟨k, H, hk, rfl, hh⟩ := hrel
            have HH := hid hh
            clear hh
            by_cases hkl : k < picks.length
            · by_cases hn0 : 0 < n
              · obtain ⟨b1, off1, ha, hcell⟩ := HC1.out (by omega)
                subst ha
                have c1p := ext_cell (HEX.out _ HH.out.bel) (hcell k hkl)
                clear hcell
                have HRP := hid (HR1.out _ (nth_mem picks k hkl))
                generalize nth picks k = p at *
                go_upto_if 89 with fail
                go_cut [14] from 88 to 92 (fun v wx => wx = wr ∧ ∃ z : Int, 0 ≤ z ∧ z ≤ 9223372036854775807 ∧ v = .int .i64 z)
                case first =>
                  by_cases hneg : p < 0
                  · have dneg : decide (p < 0) = true := decide_eq_true hneg
                    have hw1 : wrap64 (p + 1) = p + 1 := by have := HRP.out; unfold wrap64; omega
                    have hw2 : wrap64 (-(p + 1)) = -(p + 1) := by have := HRP.out; unfold wrap64; omega
                    have HZ := hid (show 0 ≤ -(p + 1) ∧ -(p + 1) ≤ 9223372036854775807 by have := HRP.out; omega)
                    go_wp2_with fail
                    go_meet
                    case rel => refine ⟨rfl, _, ?_, ?_, rfl⟩ <;> (have := HZ.out; omega)
                  · have dneg : decide (p < 0) = false := decide_eq_false hneg
                    have HZ := hid (show 0 ≤ p ∧ p ≤ 9223372036854775807 by have := HRP.out; omega)
                    go_wp2_with fail
                    go_meet
                    case rel => exact ⟨rfl, p, HZ.out.1, HZ.out.2, rfl⟩
                case rest =>
                  obtain ⟨rfl, z, hz0, hz1, rfl⟩ := hcut
                  obtain ⟨q, hq, hx⟩ := pick_remS (x := z) hn0 hz0
                  have hnz : ((n : Int) == 0) = false := by rw [beq_eq_false_iff_ne]; omega
                  have cq := HH.out.row.cell hq
                  go_upto_region 27 with fail
                  go_cut [16] from 101 to 103 (fun v wx => ∃ ev : Int, v = .int .i64 ev ∧ decide (ev = 0) = H q ∧ SnAt w.heap.size sb mb (HL n S (offH H q)) n n wx ∧ RowB hb n H wx ∧ Below w.heap.size w wx)
                  case first =>
                    have hnum := HL_num n S H q hq
                    by_cases hHq : H q = true
                    · have HHq := hid hHq
                      rw [if_pos hHq] at hnum
                      have hdr := HL_drop n S H q
                      clear cq hx hnz hHq
                      go_wp2_with fail
                      refine (release_in w.heap.size sb mb _ n n q (S q) _ HH.out.sn hnum).mono ?_
                      rintro e w4 ⟨rfl, h4, o4⟩
                      rw [hdr] at h4
                      have SN4 := hid (show SnAt w.heap.size sb mb (HL n S (offH H q)) n n w4 from h4)
                      have HR4 := hid (HH.out.row.kept (o4.block _ HH.out.row.lt HNE.out.1 HNE.out.2))
                      have HB4 := hid (Below.trans HH.out.bel (o4.below HH.out.sn.bs HH.out.sn.bm HH.out.bel.size))
                      clear h4 o4 hnum hdr
                      go_wp2_with fail
                      go_meet
                      case rel => exact ⟨0, rfl, by simp [HHq.out], SN4.out, HR4.out, HB4.out⟩
                    · have HHq := hid (show H q = false by simpa using hHq)
                      rw [if_neg hHq] at hnum
                      clear cq hx hnz hHq
                      go_wp2_with fail
                      refine (release_none w.heap.size sb mb _ n n q _ HH.out.sn hnum).mono ?_
                      rintro e w4 ⟨rfl, rfl⟩
                      go_wp2_with fail
                      go_meet
                      case rel => exact ⟨200, rfl, by simp [HHq.out], by rw [offH_off HHq.out]; exact HH.out.sn, HH.out.row, HH.out.bel⟩
                  case rest =>
                    obtain ⟨ev, rfl, hev, hs4, hr4, hb4⟩ := hcut
                    have SN4 := hid hs4
                    have HR4 := hid hr4
                    have HB4 := hid hb4
                    clear hs4 hr4 hb4 HH cq hx hnz
                    have hev2 : (ev == 0) = H q := by rw [← hev]; rfl
                    have cq := HR4.out.cell hq
                    have fq := HR4.out.frozen
                    go_upto_region 31 with fail
                    have HS5 := hid (show HSt w.heap.size sb mb hb n S (offH H q) w (wc.setCell ⟨hb, q, none⟩ (.bool false)) from ⟨SN4.out.kept (heap_setCell_other _ _ _ _ (Ne.symm HNE.out.1)) (heap_setCell_other _ _ _ _ (Ne.symm HNE.out.2)), HNE.out.1, HNE.out.2, HR4.out.set hq false, Below.setCell (p := ⟨hb, q, none⟩) HB4.out HBG.out _⟩)
                    generalize wc.setCell ⟨hb, q, none⟩ (.bool false) = w5 at *
                    clear cq fq SN4 HR4 HB4 hev hev2
                    obtain ⟨b0, off0, ha0, hcell0⟩ := HC0.out (by omega)
                    subst ha0
                    have HC := hid hcell0
                    clear hcell0
                    go_wp2_with fail
                    go_loopw [17, 18] (fun tv t wr => ∃ m : Nat, m ≤ n ∧ t = .int .i64 m ∧ tv = .bool (likeTo (offH H q) S (S q) m) ∧ Ext w5 wr) (fun _ t _ => n - (intOf t).toNat)
                    case atStart => exact ⟨0, Nat.zero_le _, rfl, rfl, Ext.rfl _⟩
                    case round =>
                      obtain ⟨m, hm, rfl, rfl, he⟩ := hrel
                      have HE := hid he
                      clear he
                      by_cases hmn : m < n
                      · have HS6 := hid (HS5.out.go HE.out)
                        have cm := HS6.out.row.cell hmn
                        have sm := ext_cell (HEX.out _ HS6.out.bel) (HC.out m (by omega))
                        have sq := ext_cell (HEX.out _ HS6.out.bel) (HC.out q (by omega))
                        have hml : m < l0 := by omega
                        have HSC := hid (likeTo_succ (offH H q) S (S q) m)
                        obtain ⟨t0, ht0⟩ : ∃ t, t = likeTo (offH H q) S (S q) m := ⟨_, rfl⟩
                        obtain ⟨h0, hh0⟩ : ∃ t, t = offH H q m := ⟨_, rfl⟩
                        rw [← ht0] at HSC ⊢
                        rw [← hh0] at HSC cm
                        clear HS6 ht0 hh0
                        cases t0 with
                        | true =>
                          go_wp2_with fail
                          go_quiet (fail)
                          go_wp2_with fail
                          go_roundw
                          case rel => exact ⟨m + 1, by omega, by go_num, by rw [HSC.out]; first | (simp; done) | (simp; rfl), HE.out.tr ((Ext.rfl wr).drN _)⟩
                          case measure => first | (simp [intOf]; done) | (simp [intOf]; omega)
                        | false =>
                          cases h0 with
                          | false =>
                            go_wp2_with fail
                            go_quiet (fail)
                            go_wp2_with fail
                            go_roundw
                            case rel => exact ⟨m + 1, by omega, by go_num, by rw [HSC.out]; first | (simp; done) | (simp; rfl), HE.out.tr ((Ext.rfl wr).drN _)⟩
                            case measure => first | (simp [intOf]; done) | (simp [intOf]; omega)
                          | true =>
                            go_wp2_with fail
                            go_quiet (fail)
                            go_wp2_with fail
                            go_roundw
                            case rel => exact ⟨m + 1, by omega, by go_num, by rw [HSC.out]; first | (simp; done) | (simp; rfl), HE.out.tr ((Ext.rfl wr).drN _)⟩
                            case measure => first | (simp [intOf]; done) | (simp [intOf]; omega)
                      · obtain rfl : n = m := by omega
                        have HS6 := hid (HS5.out.go HE.out)
                        have HMB := hid (HL_mem n S (offH H q) (S q))
                        have HLK := hid (likeTo_iff (offH H q) S (S q) n)
                        clear hm HE HS5
                        generalize likeTo (offH H q) S (S q) n = t0 at *
                        go_wp2_with fail
                        refine (list_in w.heap.size sb mb _ n n _ HS6.out.sn (by have := HL_len n S (offH H q); omega)).mono ?_
                        rintro e w6 ⟨g, m, f, rfl, hmL, hrow, hg, hri, hmem, he6⟩
                        have RG := hid hrow
                        have HS7 := hid (HS6.out.go he6)
                        have HTM := hid (show t0 = true ↔ ∃ k, k < m ∧ f k = S q by rw [HLK.out, hmem (S q), HMB.out])
                        have hm100 : m ≤ 100 := by have := HL_len n S (offH H q); omega
                        clear hmL hrow hri hmem he6 HS6 HMB HLK hg
                        go_wp2_with fail
                        go_loopw [20, 21] (fun tv t wr => ∃ k : Nat, k ≤ m ∧ t = .int .i64 k ∧ tv = .bool (likeTo (fun _ => true) f (S q) k) ∧ Ext w6 wr) (fun _ t _ => m - (intOf t).toNat)
                        case atStart => exact ⟨0, Nat.zero_le _, rfl, rfl, Ext.rfl _⟩
                        case round =>
                          obtain ⟨j, hj, rfl, rfl, he⟩ := hrel
                          have HE := hid he
                          clear he
                          by_cases hjm : j < m
                          · have HS8 := hid (HS7.out.go HE.out)
                            have cj := (RG.out.ext HE.out).cell hjm
                            have sq := ext_cell (HEX.out _ HS8.out.bel) (HC.out q (by omega))
                            have HSC := hid (likeTo_succ (fun _ => true) f (S q) j)
                            obtain ⟨t1, ht1⟩ : ∃ t, t = likeTo (fun _ => true) f (S q) j := ⟨_, rfl⟩
                            rw [← ht1] at HSC ⊢
                            clear HS8 ht1
                            cases t1 with
                            | true =>
                              go_wp2_with fail
                              go_quiet (fail)
                              go_wp2_with fail
                              go_roundw
                              case rel => exact ⟨j + 1, by omega, by go_num, by rw [HSC.out]; first | (simp; done) | (simp; rfl), HE.out.tr ((Ext.rfl wr).drN _)⟩
                              case measure => first | (simp [intOf]; done) | (simp [intOf]; omega)
                            | false =>
                              go_wp2_with fail
                              go_quiet (fail)
                              go_wp2_with fail
                              go_roundw
                              case rel => exact ⟨j + 1, by omega, by go_num, by rw [HSC.out]; first | (simp; done) | (simp; rfl), HE.out.tr ((Ext.rfl wr).drN _)⟩
                              case measure => first | (simp [intOf]; done) | (simp [intOf]; omega)
                          · obtain rfl : m = j := by omega
                            have ht2 : likeTo (fun _ => true) f (S q) m = t0 := by
                              have h1 := likeTo_iff (fun _ => true) f (S q) m
                              have h2 := HTM.out
                              rw [Bool.eq_iff_iff, h1, h2]
                              simp
                            rw [ht2]
                            have HS8 := hid (HS7.out.go HE.out)
                            clear HE HS7 ht2
                            go_wp2_with fail
                            go_roundw
                            case rel => exact ⟨k + 1, offH H q, by omega, by go_num, HS8.out⟩
                            case measure => first | (simp [intOf]; done) | (simp [intOf]; omega)
              · obtain rfl : n = 0 := by omega
                go_wp2_with fail
                go_ret
                exact ⟨rfl, HEX.out _ HH.out.bel⟩
            · obtain rfl : picks.length = k := by omega
              go_wp2_with fail
              go_ret
              exact ⟨rfl, HEX.out _ HH.out.bel⟩
end Go.Proofs.Ytjekfifnhdoamaa
