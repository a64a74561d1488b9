/- Snapshots, the document's: List, Same. -/
import Derived.Test.YtjekfifnhdoamaaSp2
set_option linter.unusedSimpArgs false
set_option linter.unusedVariables false
set_option linter.unnecessarySimpa false
namespace Go.Proofs.Ytjekfifnhdoamaa
open Go.RowKit Go.Rg Go.St

/-- above all of them -/
def abv (out : List Int) (v : Int) : Bool := out.all (fun x => decide (x < v))
theorem abv_iff {out : List Int} {v : Int} : abv out v = true ↔ ∀ x, x ∈ out → x < v := by
  unfold abv; simp
theorem abv_last {out : List Int} {m : Nat} (hs : out.Pairwise (· < ·)) (hl : out.length = m + 1) (v : Int) : abv out v = decide ((out[m]?).getD 0 < v) := by
  have hm : m < out.length := by omega
  rw [List.getElem?_eq_getElem hm]
  simp only [Option.getD_some]
  rw [Bool.eq_iff_iff, abv_iff, decide_eq_true_eq]
  constructor
  · intro h; exact h _ (List.getElem_mem hm)
  · intro h x hx
    obtain ⟨k, hk, rfl⟩ := List.getElem_of_mem hx
    rcases Nat.lt_or_ge k m with c | c
    · have := List.pairwise_iff_getElem.1 hs k m hk hm c; omega
    · have : k = m := by omega
      subst this; exact h
structure OutI (L : Hd) (out : List Int) : Prop where
  s : out.Pairwise (· < ·)
  sub : ∀ x, x ∈ out → ∃ p, p ∈ L ∧ p.2.1 = x
  all : ∀ p, p ∈ L → p.2.1 ∈ out ∨ abv out p.2.1 = true
  cnt : out.length + (L.filter (fun p => abv out p.2.1)).length ≤ L.length
theorem OutI.nil (L : Hd) : OutI L [] := ⟨List.Pairwise.nil, fun x h => (by cases h), fun p _ => .inr rfl, by
  have := List.length_filter_le (fun p : Int × Int × Nat => abv [] p.2.1) L
  simpa using this⟩
theorem OutI.len {L : Hd} {out : List Int} (h : OutI L out) : out.length ≤ L.length := by have := h.cnt; omega
theorem OutI.step {L : Hd} {out : List Int} (h : OutI L out) {q : Int × Int × Nat} (hq : q ∈ L) (ha : abv out q.2.1 = true) (hmin : ∀ p, p ∈ L → abv out p.2.1 = true → q.2.1 ≤ p.2.1) : OutI L (out ++ [q.2.1]) := by
  have e : ∀ v, abv (out ++ [q.2.1]) v = (abv out v && decide (q.2.1 < v)) := fun v => by unfold abv; simp
  refine ⟨List.pairwise_append.2 ⟨h.s, List.pairwise_singleton _ _, fun x hx y hy => ?_⟩, fun x hx => ?_, fun p hp => ?_, ?_⟩
  · rw [List.mem_singleton] at hy; subst hy; exact abv_iff.1 ha x hx
  · rcases List.mem_append.1 hx with hx | hx
    · exact h.sub x hx
    · rw [List.mem_singleton] at hx; exact ⟨q, hq, hx.symm⟩
  · rcases h.all p hp with h1 | h1
    · exact .inl (List.mem_append_left _ h1)
    · have := hmin p hp h1
      by_cases c : p.2.1 = q.2.1
      · exact .inl (by rw [c]; simp)
      · refine .inr ?_
        rw [e, h1]; simp; omega
  · have h2 : (L.filter (fun p => abv (out ++ [q.2.1]) p.2.1)).length < (L.filter (fun p => abv out p.2.1)).length := by
      have : L.filter (fun p => abv (out ++ [q.2.1]) p.2.1) = (L.filter (fun p => abv out p.2.1)).filter (fun p => decide (q.2.1 < p.2.1)) := by
        rw [List.filter_filter]
        refine List.filter_congr fun p _ => ?_
        rw [e, Bool.and_comm]
      rw [this]
      exact List.length_filter_lt_length_iff_exists.2 ⟨q, List.mem_filter.2 ⟨hq, ha⟩, by simp⟩
    have := h.cnt
    rw [List.length_append]
    simp only [List.length_singleton]
    omega
/-- the least above them, of the first i -/
def BestS (L : Hd) (out : List Int) (i : Nat) (bi : Int) : Prop :=
  (bi = -1 ∧ ∀ j, (h : j < L.length) → j < i → abv out L[j].2.1 = false) ∨
  (∃ b : Nat, bi = b ∧ b < i ∧ ∃ h : b < L.length, abv out L[b].2.1 = true ∧ ∀ j, (h : j < L.length) → j < i → abv out L[j].2.1 = true → L[b].2.1 ≤ L[j].2.1)
theorem BestS.skip {L : Hd} {out : List Int} {i : Nat} {bi : Int} (h : BestS L out i bi) (hi : i < L.length) (ha : abv out L[i].2.1 = false) : BestS L out (i + 1) bi := by
  rcases h with ⟨h1, h2⟩ | ⟨b, h1, h2, h3, h4, h5⟩
  · refine .inl ⟨h1, fun j hj hji => ?_⟩
    by_cases c : j = i
    · subst c; exact ha
    · exact h2 j hj (by omega)
  · refine .inr ⟨b, h1, by omega, h3, h4, fun j hj hji hab => ?_⟩
    by_cases c : j = i
    · subst c; rw [ha] at hab; cases hab
    · exact h5 j hj (by omega) hab
theorem BestS.keep {L : Hd} {out : List Int} {i b : Nat} (h : BestS L out i b) (hi : i < L.length) (hb : b < L.length) (hl : ¬ L[i].2.1 < L[b].2.1) : BestS L out (i + 1) b := by
  rcases h with ⟨h1, h2⟩ | ⟨b', h1, h2, h3, h4, h5⟩
  · omega
  · obtain rfl : b = b' := by omega
    refine .inr ⟨b, rfl, by omega, h3, h4, fun j hj hji hab => ?_⟩
    by_cases c : j = i
    · subst c; omega
    · exact h5 j hj (by omega) hab
theorem BestS.take {L : Hd} {out : List Int} {i : Nat} {bi : Int} (h : BestS L out i bi) (hi : i < L.length) (ha : abv out L[i].2.1 = true) (hl : bi = -1 ∨ ∃ b : Nat, ∃ hb : b < L.length, bi = b ∧ L[i].2.1 < L[b].2.1) : BestS L out (i + 1) i := by
  refine .inr ⟨i, rfl, by omega, hi, ha, fun j hj hji hab => ?_⟩
  by_cases c : j = i
  · subst c; exact Int.le_refl _
  · rcases h with ⟨h1, h2⟩ | ⟨b', h1, h2, h3, h4, h5⟩
    · rw [h2 j hj (by omega)] at hab; cases hab
    · rcases hl with hl | ⟨b, hb, e, hl⟩
      · omega
      · obtain rfl : b = b' := by omega
        have := h5 j hj (by omega) hab
        omega
theorem sorted_same : ∀ {a b : List Int}, a.Pairwise (· < ·) → b.Pairwise (· < ·) → (∀ x, x ∈ a ↔ x ∈ b) → a = b
  | [], [], _, _, _ => rfl
  | [], y :: b, _, _, h => by have := (h y).2 (List.mem_cons_self); cases this
  | x :: a, [], _, _, h => by have := (h x).1 (List.mem_cons_self); cases this
  | x :: a, y :: b, ha, hb, h => by
    obtain ⟨a1, a2⟩ := List.pairwise_cons.1 ha
    obtain ⟨b1, b2⟩ := List.pairwise_cons.1 hb
    have e : x = y := by
      rcases List.mem_cons.1 ((h x).1 List.mem_cons_self) with h1 | h1
      · exact h1
      · rcases List.mem_cons.1 ((h y).2 List.mem_cons_self) with h2 | h2
        · exact h2.symm
        · have := a1 y h2; have := b1 x h1; omega
    subst e
    rw [sorted_same a2 b2 fun z => ?_]
    constructor
    · intro hz
      rcases List.mem_cons.1 ((h z).1 (List.mem_cons_of_mem _ hz)) with h1 | h1
      · have := a1 z hz; omega
      · exact h1
    · intro hz
      rcases List.mem_cons.1 ((h z).2 (List.mem_cons_of_mem _ hz)) with h1 | h1
      · have := b1 z hz; omega
      · exact h1
def slen : Value → Nat | .slice _ n _ => n | _ => 0
def ListR (L : Hd) (w : World) (e : Ending) (w' : World) : Prop :=
  ∃ (v : Value) (out : List Int), e = .returned v ∧ out.Pairwise (· < ·) ∧ (∀ x, x ∈ out ↔ ∃ p, p ∈ L ∧ p.2.1 = x) ∧ out.length ≤ L.length ∧ w'.ownsRow w.heap.size 30 1 v out.length (out.map (Value.int .u64)) ∧ Ext w w'
set_option maxRecDepth 100000 in
set_option maxHeartbeats 8000000 in
theorem list20_in (rb : Nat) (L : Hd) (taken : Int) (w : World) (h : RefS rb L taken w) (hn : L.length ≤ 100) :
    Calls Try.prog 23 #[.pointer (some ⟨rb, 0, none⟩)] w (ListR L w) := by
  obtain ⟨a, cap, c0, c1, ff, ho⟩ := h.parts
  have HO := hid ho
  have HC0 := hid c0
  clear h c0 c1 ff ho
  go_enter Try.func23, Try.ntmps23
  go_wp2_with fail
  go_loopw [3] (fun o wr => ∃ out : List Int, OutI L out ∧ Ext w wr ∧ wr.ownsRow w.heap.size 30 1 o out.length (out.map (Value.int .u64))) (fun o _ => L.length - slen o)
  case atStart => exact ⟨[], OutI.nil L, Ext.rfl _, World.ownsRow_nil _ _ _ _⟩
  case round =>
    obtain ⟨out, hoi, he, hown⟩ := hrel
    have HOI := hid hoi
    have HE := hid he
    have HW := hid hown
    have hol := hoi.len
    clear hoi he hown
    obtain ⟨o3, cp3, rfl, _⟩ := slice_of HW.out
    have HEZ := hid (fun (w' : World) (h : Ext wr w') => HE.out.tr h)
    have HWZ := hid (fun (w' : World) (h : Ext wr w') => owns_ext HW.out h)
    clear HE HW
    go_wp2_with fail
    go_loopw [4, 5] (fun b t wz => ∃ (i : Nat) (bi : Int), i ≤ L.length ∧ b = .int .i64 bi ∧ t = .int .i64 i ∧ BestS L out i bi ∧ Ext wr wz) (fun _ t _ => L.length - (intOf t).toNat)
    case atStart => exact ⟨0, -1, Nat.zero_le _, rfl, rfl, .inl ⟨rfl, fun j _ h => absurd h (Nat.not_lt_zero _)⟩, Ext.rfl _⟩
    case round =>
      obtain ⟨i, bi, hi, rfl, rfl, hbest, hez⟩ := hrel
      have HB := hid hbest
      have HZ := hid hez
      clear hbest hez
      by_cases hil : i < L.length
      · have c0 := ext_cell (HEZ.out _ HZ.out) HC0.out
        obtain ⟨g, rfl, hg, e0, e1⟩ := own_cells HO.out hil
        have f1 := ext_cell (HEZ.out _ HZ.out) e1
        clear hg e0 e1
        obtain ⟨pv, hpv⟩ : ∃ x, x = L[i].2.1 := ⟨_, rfl⟩
        rw [← hpv] at f1
        have HPV := hid hpv
        clear hpv
        go_upto_region 6 with fail
        go_cut [6] from 16 to 35 (fun v wx => v = .bool (abv out pv) ∧ Ext wr wx)
        case first =>
          by_cases hz : out.length = 0
          · have HAV := hid (show abv out pv = true by rw [List.eq_nil_of_length_eq_zero hz]; rfl)
            have hz1 : ((out.length : Int) == 0) = true := by rw [hz]; rfl
            have hz2 : decide ((out.length : Int) = 0) = true := decide_eq_true (by omega)
            have HZZ := hid hz
            clear hz
            go_quiet (fail)
            go_wp2_with fail
            go_meet
            case rel => exact ⟨by rw [HAV.out], (Ext.rfl wr).drN _⟩
          · obtain ⟨m, hm⟩ : ∃ m, out.length = m + 1 := ⟨out.length - 1, by omega⟩
            have hz1 : ((out.length : Int) == 0) = false := by rw [beq_eq_false_iff_ne]; omega
            have hz2 : decide ((out.length : Int) = 0) = false := decide_eq_false (by omega)
            have hix : (out.length : Int) - 1 = (m : Int) := by omega
            have hmn : m < out.length := by omega
            have hmn2 : (m : Int) < (out.length : Int) := by omega
            rcases row_of (HWZ.out _ HZ.out) rfl with ⟨h0, h1⟩ | ⟨b0, cp0, h0, hrow, _, _⟩
            · rw [h1] at hm; cases hm
            · simp only [Value.slice.injEq] at h0
              obtain ⟨rfl, _, rfl⟩ := h0
              have cm := hrow.cell hmn
              have HAV := hid (abv_last HOI.out.s hm pv)
              generalize (out[m]?).getD 0 = lv at *
              have HM := hid hm
              clear hm hrow hz
              go_quiet (fail)
              go_wp2_with fail
              go_meet
              case rel => exact ⟨by rw [HAV.out], (Ext.rfl wr).drN _⟩
        case rest =>
          obtain ⟨rfl, hec⟩ := hcut
          have HZC := hid (HZ.out.tr hec)
          have c0' := ext_cell hec c0
          have f1' := ext_cell hec f1
          clear hec c0 f1 HZ
          cases hav : abv out pv with
          | false =>
            have HB2 := hid (HB.out.skip hil (by rw [← HPV.out]; exact hav))
            clear hav
            go_wp2_with fail
            go_quiet (fail)
            go_wp2_with fail
            go_roundw
            case rel => exact ⟨i + 1, bi, by omega, rfl, by go_num, HB2.out, HZC.out.tr ((Ext.rfl wc).drN _)⟩
            case measure => first | (simp [intOf]; done) | (simp [intOf]; omega)
          | true =>
            have HAV := hid (show abv out L[i].2.1 = true by rw [← HPV.out]; exact hav)
            clear hav
            rcases HB.out with ⟨hb1, hb2⟩ | ⟨b, hb1, hb2, hb3, hb4, hb5⟩
            · have HB2 := hid (HB.out.take hil HAV.out (.inl hb1))
              subst hb1
              clear hb2
              go_wp2_with fail
              go_quiet (fail)
              go_wp2_with fail
              go_roundw
              case rel => exact ⟨i + 1, i, by omega, rfl, by go_num, HB2.out, HZC.out.tr ((Ext.rfl wc).drN _)⟩
              case measure => first | (simp [intOf]; done) | (simp [intOf]; omega)
            · obtain ⟨g', hg', _, e0, e1⟩ := own_cells HO.out hb3
              cases hg'
              have g1 := ext_cell (HEZ.out _ HZC.out) e1
              obtain ⟨qv, hqv⟩ : ∃ x, x = L[b].2.1 := ⟨_, rfl⟩
              rw [← hqv] at g1
              subst hb1
              have hbi : decide ((b : Int) < 0) = false := decide_eq_false (by omega)
              have hbn : ¬ (b : Int) < 0 := by omega
              by_cases hlt : pv < qv
              · have HB2 := hid (HB.out.take hil HAV.out (.inr ⟨b, hb3, rfl, by rw [← HPV.out, ← hqv]; exact hlt⟩))
                clear hb2 hb4 hb5 e0 e1 hqv
                go_wp2_with fail
                go_quiet (fail)
                go_wp2_with fail
                go_roundw
                case rel => exact ⟨i + 1, i, by omega, rfl, by go_num, HB2.out, HZC.out.tr ((Ext.rfl wc).drN _)⟩
                case measure => first | (simp [intOf]; done) | (simp [intOf]; omega)
              · have HB2 := hid (HB.out.keep hil hb3 (by rw [← HPV.out, ← hqv]; exact hlt))
                clear hb2 hb4 hb5 e0 e1 hqv
                go_wp2_with fail
                go_quiet (fail)
                go_wp2_with fail
                go_roundw
                case rel => exact ⟨i + 1, b, by omega, rfl, by go_num, HB2.out, HZC.out.tr ((Ext.rfl wc).drN _)⟩
                case measure => first | (simp [intOf]; done) | (simp [intOf]; omega)
      · obtain rfl : i = L.length := by omega
        rcases HB.out with ⟨hb1, hb2⟩ | ⟨b, hb1, hb2, hb3, hb4, hb5⟩
        · subst hb1
          have HALL := hid (show ∀ x, x ∈ out ↔ ∃ p, p ∈ L ∧ p.2.1 = x from fun x => ⟨HOI.out.sub x, fun ⟨p, hp, e⟩ => by
            rcases HOI.out.all p hp with h1 | h1
            · rw [← e]; exact h1
            · obtain ⟨j, hj, rfl⟩ := List.getElem_of_mem hp
              rw [hb2 j hj hj] at h1; cases h1⟩)
          have c0 := ext_cell (HEZ.out _ HZ.out) HC0.out
          clear hb2
          go_wp2_with fail
          go_ret
          exact ⟨_, out, rfl, HOI.out.s, HALL.out, HOI.out.len, HWZ.out _ HZ.out, HEZ.out _ HZ.out⟩
        · obtain ⟨g, rfl, hg, e0, e1⟩ := own_cells HO.out hb3
          have c0 := ext_cell (HEZ.out _ HZ.out) HC0.out
          have f1 := ext_cell (HEZ.out _ HZ.out) e1
          have HST := hid (HOI.out.step (List.getElem_mem hb3) hb4 (fun p hp ha => by
            obtain ⟨j, hj, rfl⟩ := List.getElem_of_mem hp
            exact hb5 j hj hj ha))
          obtain ⟨qv, hqv⟩ : ∃ x, x = L[b].2.1 := ⟨_, rfl⟩
          rw [← hqv] at f1 HST
          subst hb1
          have hbi : decide ((b : Int) < 0) = false := decide_eq_false (by omega)
          have hbn : ¬ (b : Int) < 0 := by omega
          have HW2 := hid (HWZ.out _ HZ.out)
          have HE2 := hid (HEZ.out _ HZ.out)
          have hol2 := HST.out.len
          rw [List.length_append, List.length_singleton] at hol2
          clear hg e0 e1 hb2 hb4 hb5 hqv HB
          go_wp2_with (at_builtin; refine wpList_app u64E rfl (owns_ext HW2.out ((Ext.rfl wr).al _)) rfl rfl (news_one _ _ _) (by simp [Value.oneCell']) (by omega) (Nat.le_trans HE2.out.size ((Ext.rfl wr).al _).size) ?_; intro v' w4 hown4 hg4 hb4; have O4 := hid hown4; have E4 := hid (show Ext w w4 from Below.trans HE2.out (Below.trans (Below.mono ((Ext.rfl wr).al (.cells #[.int .u64 qv] 30)) HE2.out.size) hb4)); clear hown4 hg4 hb4)
          obtain ⟨o5, cp5, rfl, _⟩ := slice_of O4.out
          go_wp2_with fail
          go_roundw
          case rel => exact ⟨out ++ [qv], HST.out, E4.out, by rw [List.length_append, List.map_append]; exact O4.out⟩
          case measure => simp [slen]; omega

theorem RowU.sl1 {b cap n : Nat} {f : Nat → Int} {w : World} (h : RowU b cap n f w) (hc : cap ≤ maxLen) : Sl1 w (.slice (some ⟨b, 0, none⟩) n cap) n (fun i => .int .u64 (f i)) := by
  refine ⟨_, _, rfl, ?_, hc, fun _ => ⟨b, 0, rfl, fun i hi => by rw [Nat.zero_add]; exact h.cell hi⟩⟩
  obtain ⟨_, _, h1, h2, _⟩ := h
  exact h2
theorem owns_slU {w : World} {base : Nat} {v : Value} {out : List Int} (h : w.ownsRow base 30 1 v out.length (out.map (Value.int .u64))) : Sl1 w v out.length (fun i => .int .u64 ((out[i]?).getD 0)) :=
  Sl1.cong (owns_sl1 h) fun i hi => by simp [hi]
set_option maxRecDepth 100000 in
set_option maxHeartbeats 4000000 in
theorem same20_in (va vb : Value) (n : Nat) (f : Nat → Int) (w : World) (ha : Sl1 w va n (fun i => .int .u64 (f i))) (hb : Sl1 w vb n (fun i => .int .u64 (f i))) (hn : n ≤ 100) :
    Calls Try.prog 22 #[va, vb] w (fun e w' => e = .returned (.bool true) ∧ Ext w w') := by
  obtain ⟨a, ca, rfl, _, _, h1⟩ := ha.ex
  obtain ⟨b, cb, rfl, _, _, h2⟩ := hb.ex
  have HA := hid h1
  have HB := hid h2
  clear h1 h2 ha hb
  go_enter Try.func22, Try.ntmps22
  go_wp2_with fail
  go_loopw [5] (fun t wr => ∃ k : Nat, k ≤ n ∧ t = .int .i64 k ∧ Ext w wr) (fun t _ => n - (intOf t).toNat)
  case atStart => exact ⟨0, Nat.zero_le _, rfl, Ext.rfl _⟩
  case round =>
    obtain ⟨k, hk, rfl, he⟩ := hrel
    have HE := hid he
    clear he
    by_cases hkn : k < n
    · obtain ⟨ba, oa, rfl, h1⟩ := HA.out (by omega)
      obtain ⟨bb, ob, rfl, h2⟩ := HB.out (by omega)
      have c1 := ext_cell HE.out (h1 k hkn)
      have c2 := ext_cell HE.out (h2 k hkn)
      clear h1 h2
      go_wp2_with fail
      go_quiet (fail)
      go_wp2_with fail
      go_roundw
      case rel => exact ⟨k + 1, by omega, by go_num, HE.out.tr ((Ext.rfl wr).drN _)⟩
      case measure => first | (simp [intOf]; done) | (simp [intOf]; omega)
    · go_wp2_with fail
      go_ret
      exact ⟨rfl, HE.out⟩
end Go.Proofs.Ytjekfifnhdoamaa
