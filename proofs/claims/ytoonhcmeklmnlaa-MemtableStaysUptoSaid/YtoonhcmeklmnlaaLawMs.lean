/- The walk of the law MemtableStays. -/
import Derived.Test.YtoonhcmeklmnlaaMtY
import Derived.Deep.CutRange
set_option linter.unusedSimpArgs false
set_option linter.unusedVariables false
set_option linter.unnecessarySimpa false
namespace Go.Proofs.Ytoonhcmeklmnlaa
open Go.RowKit Go.Rg Go.St

set_option maxRecDepth 100000 in
set_option maxHeartbeats 2000000 in
theorem memtableStays_walk (v0 v1 : Value) (l0 more : List KVp) (u : ByteArray) (s : Nat) (w : World) (h0 : SlS w v0 4 eKV l0) (h1 : SlS w v1 4 eKV more) (ok0 : ∀ x, x ∈ l0 → OkKV x) (ok1 : ∀ x, x ∈ more → OkKV x) (hu : u.size ≤ 1099511627776) (hn : more.length ≤ 2932031007318) :
    Calls Try.prog 5 #[v0, v1, .string u, .int .u64 s] w (TrueExt w) := by
  obtain ⟨a0, cap0, rfl, hcap0, hm0, _⟩ := h0.ex
  obtain ⟨a1, cap1, rfl, hcap1, hm1, _⟩ := h1.ex
  have H0 := hid h0
  have H1 := hid h1
  have OK0 := hid ok0
  have OK1 := hid ok1
  have HU := hid hu
  unfold maxLen at hm0 hm1
  clear h0 h1 ok0 ok1 hu
  go_enter Try.func5, Try.ntmps5
  go_wp2_with fail
  refine (awake08 w).mono ?_
  rintro e w1 ⟨rfl, he1⟩
  have E1 := hid he1
  clear he1
  have HS1 := hid (show SlS w1 (.slice a0 l0.length cap0) 4 eKV l0 from H0.out.go (fun _ => rfl) E1.out)
  go_upto_if 19 with fail
  go_cut [0] from 17 to 21 (fun v wx => wx = w1 ∧ ∃ l : List KVp, l.length ≤ 300 ∧ (∀ x, x ∈ l → OkKV x) ∧ SlS w1 v 4 eKV l)
  case first =>
    by_cases hlt : 300 < l0.length
    · have hd : decide ((300 : Int) < (l0.length : Int)) = true := decide_eq_true (by omega)
      go_wp2_with fail
      go_meet
      case rel => exact ⟨rfl, l0.take 300, by rw [List.length_take]; omega, fun x hx => OK0.out x (List.mem_of_mem_take hx), slS_take HS1.out 300 (Nat.le_of_lt hlt)⟩
    · have hd : decide ((300 : Int) < (l0.length : Int)) = false := decide_eq_false (by omega)
      go_wp2_with fail
      go_meet
      case rel => exact ⟨rfl, l0, by omega, OK0.out, HS1.out⟩
  case rest =>
    obtain ⟨rfl, l, hl, ok, hsl⟩ := hcut
    have HL := hid hl
    have hadd := added_in false u0 l _ hsl ok (by omega)
    have HADD := hid hadd
    clear hadd hsl
    go_wp2_with fail
    refine HADD.out.mono ?_
    rintro e w2 ⟨tb, rfl, hT, he2⟩
    rw [show turnedL false l = l from rfl] at hT
    have T2 := hid hT
    have E2 := hid (E1.out.tr he2)
    have HW := hid E1.out.size
    have HBW := hid he2.size
    have HLN := hid (addAll_len l [])
    generalize wc.heap.size = B at *
    clear hT he2 HADD
    go_wp2_with fail
    refine (at_get T2.out u s HU.out).mono ?_
    rintro e w3 ⟨v3, n3, rfl, hg3, he3⟩
    have T3 := hid (T2.out.ext he3)
    have E3 := hid (E2.out.tr he3)
    have G3 := hid hg3
    have HBW3 := hid (Nat.le_trans HBW.out he3.size)
    have GD := hid T2.out.good
    clear hg3 he3 T2
    go_wp2_with fail
    go_loopw [13] (fun k wr => ∃ i : Nat, i ≤ more.length ∧ k = .int .i64 i ∧ Ext w wr ∧ B ≤ wr.heap.size ∧ ∃ es, TabAt B tb false es wr ∧ es.length ≤ 300 + i ∧ ∀ e : KVp, e.1.seq ≤ s → (e ∈ es ↔ e ∈ addAll [] l)) (fun k _ => more.length - (intOf k).toNat)
    case atStart => exact ⟨0, Nat.zero_le _, rfl, E3.out, HBW3.out, _, T3.out, by have := HLN.out; have := HL.out; simp at *; omega, fun _ _ => Iff.rfl⟩
    case round =>
      clear T3 E3 HBW3
      obtain ⟨i, hi, rfl, he, hB, es, hT, hel, hS⟩ := hrel
      have HE := hid he
      have HB := hid hB
      have HT := hid hT
      have HEL := hid hel
      have HS := hid hS
      clear he hB hT hel hS
      by_cases hlt : i < more.length
      · have hbase : ∀ w', Ext w w' → SlS w' (.slice a1 more.length cap1) 4 eKV more := fun w' he => H1.out.go (fun _ => rfl) he
        obtain ⟨_, _, hes, _, _, hc⟩ := H1.out.ex
        obtain ⟨b, off, ha, _⟩ := hc (by omega)
        simp only [Value.slice.injEq] at hes
        obtain ⟨rfl, _, rfl⟩ := hes
        subst ha
        clear hc
        obtain ⟨j, rfl⟩ : ∃ j, j = i := ⟨i, rfl⟩
        have HAT := hid (fun w' (he : Ext w w') => kv_at (hbase w' he) rfl hlt)
        have HJI := hid (Int.ofNat_lt.2 hlt)
        have HK := hid (OK1.out _ (nth_mem more j hlt))
        have HLE := hid (show es.length ≤ 3000000000000 by have := HEL.out; omega)
        have hI0 := hid (show AddI w B tb es (nth more j) false wr from ⟨HE.out, HB.out, HT.out⟩)
        have hsq := (HAT.out wr HE.out).1 1 _ rfl
        clear hbase HT
        by_cases hgt : (s : Int) < (nth more j).1.seq
        · have hd : decide ((s : Int) < (nth more j).1.seq) = true := decide_eq_true hgt
          go_wp2_with fail
          refine wp_draw1 (AddI w B tb es (nth more j)) 11 (by kernel_rfl) (by kernel_rfl) (fun b w w' h he => h.ext he) hI0.out (by rfl) ?_
          refine rg1_step 51 (by rfl) (fun _ _ hi => ob_move (by rfl) (by rfl)) rfl (by rfl) ?_
          refine rg1_step 52 (by rfl) (fun _ _ hi => ob_move (by rfl) (by rfl)) rfl (by rfl) ?_
          refine rg1_step 53 (by rfl) (fun _ _ hi => ob_move (by rfl) (by rfl)) rfl (by rfl) ?_
          refine rg1_step 54 (by rfl) (fun _ _ hi => ob_index 4 (off + j * 4) (by rfl) (by rfl) (by rfl) Try.underlying35 (by kernel_rfl) (Int.natCast_nonneg j) HJI.out (by rw [Int.toNat_natCast])) rfl (by rfl) ?_
          refine rg1_step 55 (by rfl) (fun _ _ hi => ob_field (n := 2) (off + j * 4) 0 42 (by rfl) (by rfl) Try.underlying44 (by rfl) (by kernel_rfl) rfl) rfl (by rfl) ?_
          refine rg1_step 56 (by rfl) (fun _ _ hi => ob_loadmid (cs := [.string (nth more j).1.user, .int .u64 (nth more j).1.seq, .int .i64 (nth more j).1.kind]) (by rfl) (by rfl) (fun _ he => (HAT.out _ (hi.1.tr he)).1) Try.underlying42 rfl (by kernel_rfl)) rfl (by rfl) ?_
          refine rg1_step 57 (by rfl) (fun _ _ hi => ob_move (by rfl) (by rfl)) rfl (by rfl) ?_
          refine rg1_step 58 (by rfl) (fun _ _ hi => ob_move (by rfl) (by rfl)) rfl (by rfl) ?_
          refine rg1_step 59 (by rfl) (fun _ _ hi => ob_index 4 (off + j * 4) (by rfl) (by rfl) (by rfl) Try.underlying35 (by kernel_rfl) (Int.natCast_nonneg j) HJI.out (by rw [Int.toNat_natCast])) rfl (by rfl) ?_
          refine rg1_step 60 (by rfl) (fun _ _ hi => ob_field (n := 0) (off + j * 4 + 3) 3 9 (by rfl) (by rfl) Try.underlying44 (by rfl) (by kernel_rfl) rfl) rfl (by rfl) ?_
          refine rg1_step 61 (by rfl) (fun _ _ hi => ob_load (v := .string (nth more j).2) (by rfl) (by rfl) (by kernel_rfl) (fun _ he => (HAT.out _ (hi.1.tr he)).2)) rfl (by rfl) ?_
          refine rg1_call 62 [.pointer (some ⟨tb, 0, none⟩), aKey (nth more j).1, .string (nth more j).2] cf_add (by rfl) (by rfl) (fun w' hi => AddI.call HW.out HLE.out HK.out hi) ?_
          refine rg1_end ?_
          intro w4 hi4
          simp only [asg, List.set_cons_zero, List.set_cons_succ, List.map_cons, List.map_nil, opens]
          have HI4 := hid hi4
          clear hi4 hsq
          go_wp2_with fail
          go_roundw
          case rel =>
            refine ⟨j + 1, hlt, by go_num, HI4.out.1, HI4.out.2.1, _, HI4.out.2.2, ?_, fun e he => ?_⟩
            · have h1 := addE_len false es (nth more j).1 (nth more j).2
              have h2 := HEL.out
              simp only [cond_true]
              omega
            · simp only [cond_true]
              rw [mem_addE, HS.out e he]
              constructor
              · rintro (h | ⟨_, h⟩)
                · exact h
                · rw [h] at he
                  exact absurd he (Int.not_le.2 hgt)
              · exact .inl
          case measure => simp [intOf]; omega
        · have hd : decide ((s : Int) < (nth more j).1.seq) = false := decide_eq_false hgt
          go_wp2_with fail
          go_roundw
          case rel => exact ⟨j + 1, hlt, by go_num, HE.out, HB.out, es, hI0.out.2.2, by have := HEL.out; omega, HS.out⟩
          case measure => simp [intOf]; omega
      · go_wp2_with fail
        refine (at_get HT.out u s HU.out).mono ?_
        rintro e w5 ⟨v5, n5, rfl, hg5, he5⟩
        obtain ⟨rfl, rfl⟩ := getOf_one HS.out (fun e he => (GD.out.1 e he).1) GD.out.2 G3.out hg5
        have E5 := hid (HE.out.tr he5)
        clear hg5 he5
        go_wp2_with fail
        go_ret
        exact ⟨rfl, E5.out⟩
end Go.Proofs.Ytoonhcmeklmnlaa
