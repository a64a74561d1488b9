/- The walk of a table's Add of a new key that puts. -/
import Derived.Test.YtoonhcmeklmnlaaMtD
import Derived.Deep.CutRange
set_option linter.unusedSimpArgs false
set_option linter.unusedVariables false
set_option linter.unnecessarySimpa false
namespace Go.Proofs.Ytoonhcmeklmnlaa
open Go.RowKit Go.Rg Go.St

theorem lk1_absent {M : MT} {k : IKey} (h : ∀ e, e ∈ M.es → e.1 ≠ k) : lk1 (vmap M) k = none := by
  unfold lk1
  rw [vmap_absent h]
  rfl
theorem listsE : ElT Try.prog 117 23 1 8 := ⟨by kernel_rfl, by kernel_rfl, by decide, by decide⟩
theorem wrapIn (n : Int) (h : -9223372036854775808 ≤ n ∧ n ≤ 9223372036854775807) : wrap64 n = n := by unfold wrap64; omega
theorem last_wrap (n : Nat) (h : n ≤ 4000000000000) : wrap64 (((n + 1 : Nat) : Int) - 1) = (n : Int) ∧ wrap64 (n : Int) = (n : Int) ∧ wrap64 ((n : Int) + 1 - 1) = (n : Int) :=
  ⟨by rw [wrapIn _ ⟨by omega, by omega⟩]; omega, wrapIn _ ⟨by omega, by omega⟩, by rw [wrapIn _ ⟨by omega, by omega⟩]; omega⟩
theorem grow_len (M : MT) : (grow1 M).ls.length ≤ M.ls.length + 1 := by
  unfold grow1
  split
  · simp
  · omega
theorem last_le {M : MT} {n : Nat} (h2 : M.es.length ≤ 3000000000000) (h1 : M.ls.length ≤ M.es.length) (hn : (grow1 M).ls.length = n + 1) : n ≤ 4000000000000 := by
  have h3 := grow_len M
  omega
theorem keyT_size {k : IKey} (h : GoodE k) : (keyT k).size ≤ maxLen := by
  have h1 := ordL_len k.user.data.toList k.seq.toNat k.kind.toNat
  have h2 : k.user.data.toList.length ≤ 64 := h.1
  have h3 : (keyT k).size = (ordL k.user.data.toList k.seq.toNat k.kind.toNat).length := by simp [keyT, ByteArray.size]
  rw [h3]
  unfold maxLen
  omega
theorem dec_succ (m D : Nat) : decide (m = D) = decide (m + 1 = D + 1) := by simp
theorem room_wrap {k : IKey} {v : ByteArray} {s : Int} (hg : GoodE k) (hv : GoodV k v) (h0 : 0 ≤ s) (h1 : s ≤ 4611686018427387904) :
    wrap64 ((k.user.size : Int) + v.size) = (k.user.size : Int) + v.size ∧ wrap64 ((k.user.size : Int) + v.size + 16) = (k.user.size : Int) + v.size + 16 ∧ wrap64 (s + ((k.user.size : Int) + v.size + 16)) = s + roomE k v := by
  have a := hg.1
  have b := hv.le
  refine ⟨wrapIn _ ⟨by omega, by omega⟩, wrapIn _ ⟨by omega, by omega⟩, wrapIn _ ⟨by omega, by omega⟩⟩
theorem kmap_len (M : MT) : (kmap M).length = M.es.length := by simp [kmap]


set_option maxRecDepth 100000 in
set_option maxHeartbeats 4000000 in
theorem add_new1 {w : World} {T : TLoc} {M : MT} (h : TRep w T M) (hM : MFull M) (hf : M.frozen = false) (k : IKey) (hg : GoodE k) (hc : kChk k = 0) (v : ByteArray) (hv : GoodV k v) (hno : ∀ e, e ∈ M.es → e.1 ≠ k) (hk0 : k.kind ≠ 0) (hsz : M.es.length ≤ 3000000000000) (hs0 : 0 ≤ M.size) (hs1 : M.size ≤ 4611686018427387904) :
    Calls Try.prog 26 #[.pointer (some ⟨T.tb, 0, none⟩), aKey k, .string v] w (AddPost w T M k v) := by
  have HW := hid (room_wrap hg hv hs0 hs1)
  clear hs0 hs1
  have c4 : w.cell? ⟨T.tb, 4, none⟩ = some (.bool false) := by rw [cell_of_row _ _ _ _ _ _ h.tb, ← hf]; rfl
  have c2 : w.cell? ⟨T.tb, 2, none⟩ = some (.map (some T.vb)) := cell_of_row _ _ _ _ _ _ h.tb
  have c1 : w.cell? ⟨T.tb, 1, none⟩ = some (.map (some T.kb)) := cell_of_row _ _ _ _ _ _ h.tb
  have c0 : w.cell? ⟨T.tb, 0, none⟩ = some T.lv := cell_of_row _ _ _ _ _ _ h.tb
  have hlt := cell_lt c4
  obtain ⟨n1, n2, n3, n4⟩ := goodE_nat hg
  have HKK := hid (fun (w : World) => ikey_chk k (Nat.le_trans hg.1 (by decide)) w)
  have hord : ∀ w : World, Calls Try.prog 66 #[.string k.user, .int .u64 k.seq, .int .i64 k.kind] w (fun e w' => e = .returned (.string (keyT k)) ∧ Ext w w') := fun (w : World) => by have := ordered_in k.user k.seq.toNat k.kind.toNat n1 n2 (Nat.le_trans hg.1 (by decide)) w; rw [n3, n4] at this; exact this
  have hks := keyT_size hg
  obtain ⟨S, hS⟩ : ∃ S, S = keyT k := ⟨_, rfl⟩
  rw [← hS] at hord hks
  have HORD := hid hord
  have HS := hid hS
  clear hord hS
  have HC := hid hc
  have H := hid h
  have HM := hid hM
  have hd : decide ((1000 : Int) < (v.size : Int)) = false := by have := hv.le; simp; omega
  have HNO := hid hno
  have HV := hid hv
  have HG := hid hg
  have HSZ := hid hsz
  clear h hf hc hM hg hsz n1 n2 n3 n4 hno hv
  have hk1 : (k.kind == 0) = false := by rw [beq_eq_false_iff_ne]; exact hk0
  clear hk0
  go_enter Try.func26, Try.ntmps26
  go_wp2_with fail
  refine (HKK.out _).mono ?_
  rintro e w1 ⟨rfl, he1⟩
  rw [HC.out]
  have E1 := hid (((Ext.rfl w).al _).tr he1)
  have HBX := hid ((he1.block w.heap.size (by show _ < (w.heap.push _).size; rw [Array.size_push]; exact Nat.lt_succ_self _)).trans (heap_alloc_new w _))
  have b0 := ext_new he1 0 rfl
  have b1 := ext_new he1 1 rfl
  have b2 := ext_new he1 2 rfl
  have d2 := ext_cell E1.out c2
  have hq := fun n => look_vals_ok (w := w1.drewN n) (T := T) (M := M) ((H.out.ext E1.out).vm) k
  rw [lk1_absent HNO.out] at hq
  clear he1
  go_wp2_with fail
  go_quiet (fail)
  go_wp2_with fail
  refine (HORD.out _).mono ?_
  rintro e w2 ⟨rfl, he2⟩
  have E2 := hid ((E1.out.drN _).tr he2)
  have HB2 := hid ((he2.block w.heap.size (blk_lt HBX.out)).trans HBX.out)
  have g0 := ext_cell E2.out c0
  have g1 := ext_cell E2.out c1
  have hl := run_len_map (P := Try.prog) ((H.out.ext E2.out).km) kmapT
  rw [kmap_len] at hl
  obtain ⟨la, lc, elv, hlm⟩ := slice_of (H.out.ext E2.out).row
  rw [elv] at g0
  have hHs : Hid (M.ls.length ≤ M.es.length ∧ M.es.length ≤ 1000 * M.ls.length) := hid ⟨by have := HM.out.gt; omega, HM.out.le⟩
  go_upto_if 74 with fail
  go_cut [12, 13] from 67 to 88 (fun a b wx => ∃ T' : TLoc, T'.tb = T.tb ∧ T'.kb = T.kb ∧ T'.vb = T.vb ∧ TRep wx T' (grow1 M) ∧ Ch (fun x => x = T.tb ∨ T.lv.ownBlock = some x) w2 wx ∧ ∀ b, TFoot T' (grow1 M) b → TFoot T M b ∨ w2.heap.size ≤ b)
  case first =>
    by_cases hcase : M.es.length = 1000 * M.ls.length
    · have hgr : grow1 M = { M with ls := M.ls ++ [SK.new 1000] } := if_pos hcase
      have hcb : ((M.es.length : Int) == wrap64 ((M.ls.length : Int) * 1000)) = true := by
        have h1 := HSZ.out
        have h2 := hHs.out.1
        rw [wrapIn _ ⟨by omega, by omega⟩, beq_iff_eq]
        omega
      have HGR := hid hgr
      have hln := hHs.out.1
      have hlz := HSZ.out
      have HLN := hid (show M.ls.length ≤ 3000000000000 by omega)
      clear hgr hcase hln hlz
      go_wp2_with fail
      refine (new_ok 1000 (by decide) (by decide) _).mono ?_
      rintro e w3 ⟨rfl, hr3, he3⟩
      have E3 := hid (E2.out.tr he3)
      have e0 := ext_cell he3 g0
      have R3 := hid hr3
      have X3 := hid he3
      have hrow := (H.out.ext E3.out).row
      rw [elv] at hrow
      have hne3 := (H.out.ext E3.out).row_ne (H.out.ext E3.out).tb (by decide)
      rw [elv] at hne3
      have HN3 := hid hne3
      have HR := hid hrow
      clear hr3 he3 hrow hne3
      go_wp2_with (at_builtin; refine wpList_app_at (v := .slice la M.ls.length lc) listsE rfl (owns_ext HR.out ((Ext.rfl w3).al _)) rfl rfl (news_one _ _ _) (by simp [Value.oneCell']) (by have := HLN.out; omega) (Nat.zero_le _) ?_; intro v' w4 hown4 hg4 hb4; obtain ⟨av', cv', rfl, _⟩ := slice_of hown4; have hM1 := keep_grown hg4 (H.out.ext E3.out).tb HN3.out; have c0q : w4.cell? ⟨T.tb, 0, none⟩ = some T.lv := cell_of_row _ _ _ _ _ _ hM1; have f1 : ∀ i, w4.frozen? ⟨T.tb, i, none⟩ = false := (fun i => frozen_of_row _ _ _ _ _ hM1); have M1 := hid hM1; clear hM1; have M2 := hid hown4; have M3 := hid hg4; have M4 := hid hb4; clear hown4 hg4 hb4)
      go_meet
      case rel =>
        obtain ⟨G1, G2, G3⟩ := grow_rep (H.out.ext E2.out) X3.out R3.out M2.out (by rw [elv]; exact M3.out) (by rw [elv]; exact M4.out)
        exact ⟨growT w2 T M _, rfl, rfl, rfl, by rw [HGR.out]; exact G1, G2, by rw [HGR.out]; exact G3⟩
    · have hgr : grow1 M = M := if_neg hcase
      have hcb : ((M.es.length : Int) == wrap64 ((M.ls.length : Int) * 1000)) = false := by
        have h1 := HSZ.out
        have h2 := hHs.out.1
        rw [wrapIn _ ⟨by omega, by omega⟩, beq_eq_false_iff_ne]
        omega
      go_wp2_with fail
      go_meet
      case rel => exact ⟨T, rfl, rfl, rfl, by rw [hgr]; exact H.out.ext E2.out, Ch.rfl _ _, fun b hb => .inl (by rw [hgr] at hb; exact hb)⟩
  case rest =>
    obtain ⟨T', e1, e2, e3, R', C', F'⟩ := hcut
    have RD := grow_ready HM.out
    obtain ⟨n, hn⟩ : ∃ n, (grow1 M).ls.length = n + 1 := ⟨(grow1 M).ls.length - 1, (Nat.sub_add_cancel RD.pos).symm⟩
    have d0 : wc.cell? ⟨T.tb, 0, none⟩ = some T'.lv := e1 ▸ cell_of_row _ _ _ _ _ _ R'.tb
    have hrow := R'.row
    obtain ⟨al, cl, hlv, hmx⟩ := slice_of hrow
    rw [hlv] at d0 hrow
    have HRW := hid (owns_sl1 hrow)
    have HL' := hid hlv
    have HN := hid hn
    have HR' := hid R'
    have HC' := hid C'
    have HF' := hid F'
    have HRD := hid RD
    have HE1 := hid e1
    have HE2 := hid e2
    have HE3 := hid e3
    rw [hn] at d0
    obtain ⟨hlast, hlast2, hlast3⟩ := last_wrap n (last_le HSZ.out hHs.out.1 hn)
    have hge : (0 : Int) ≤ n := Int.natCast_nonneg n
    clear e1 e2 e3 R' C' F' RD hn hrow hlv hmx
    obtain ⟨a', c', hes, _, _, hc⟩ := HRW.out.ex
    simp only [Value.slice.injEq] at hes
    obtain ⟨rfl, _, rfl⟩ := hes
    obtain ⟨b1, off, rfl, hcell⟩ := hc (by rw [HN.out]; exact Nat.succ_pos n)
    have k0 := hcell n (by rw [HN.out]; exact Nat.lt_succ_self n)
    simp [HN.out] at k0
    clear hc hcell
    go_upto_region 18 with fail
    go_quiet (fail)
    go_upto_region 20 with fail
    have hcv := fun (w : World) => Lib.run_convert_string_bytes (P := Try.prog) w 9 125 5 S Try.underlying9 Try.underlying125 Try.underlying5
    have E0 := hid ((Ext.rfl wc).drN nq)
    go_wp2_with fail
    refine (crc_in _ S.data.toList _ (conv_sl (wc.drewN nq) _ S hks)).mono ?_
    rintro e wy ⟨c0, rfl, hey⟩
    have EY := hid ((E0.out.tr (conv_ext _ _ S)).tr hey)
    clear hey hcv E0
    go_wp2_with fail
    have HY := hid (HR'.out.ext EY.out)
    have hcan := HRD.out.can HN.out HG.out (by rw [grow_es]; exact HNO.out)
    rw [← HS.out] at hcan
    have HCAN := hid hcan
    clear hcan hks
    go_loop [15, 16] (fun h s => ∃ ht : Nat, 1 ≤ ht ∧ ht ≤ 8 ∧ h = .int .i64 ht ∧ ∃ n : Int, s = .int .u32 n) (fun h _ => 8 - (intOf h).toNat)
    case atStart => exact ⟨1, by decide, by decide, rfl, _, rfl⟩
    case round =>
      obtain ⟨ht, h1, h8, rfl, c1, rfl⟩ := hrel
      by_cases hcnd : (bits .and .u32 c1 3 == 3) = true ∧ ht < 8
      · obtain ⟨hand, hlt⟩ := hcnd
        have hdl : decide ((ht : Int) < 8) = true := decide_eq_true (Int.ofNat_lt.2 hlt)
        go_wp2_with fail
        go_round
        case rel => exact ⟨ht + 1, by omega, by omega, by go_num, _, rfl⟩
        case measure => simp [intOf]; omega
      · have hcnd2 : (bits .and .u32 c1 3 == 3) = false ∨ ((bits .and .u32 c1 3 == 3) = true ∧ decide ((ht : Int) < 8) = false) := by
          cases hx : (bits .and .u32 c1 3 == 3)
          · exact .inl rfl
          · exact .inr ⟨rfl, decide_eq_false fun h => hcnd ⟨hx, Int.ofNat_lt.1 h⟩⟩
        clear hcnd
        obtain ⟨D, hD⟩ := steps_ex HCAN.out.inv HCAN.out.new h1 h8
        have HD := hid hD
        have hbg := begin_ok (HY.out.ls n HCAN.out.lt) HCAN.out.inv S ht h1 h8 HCAN.out.new HCAN.out.few HCAN.out.room
        have HBG := hid hbg
        clear hbg hD
        rcases hcnd2 with hand | ⟨hand, hdl⟩
        all_goals
          go_wp2_with fail
          refine HBG.out.mono ?_
          rintro e wb ⟨rfl, v', ob, nb, hrep, hch, hft⟩
          have HFT := hid hft
          have HRAN : Hid (Ran wy (T'.L n) (nthK (grow1 M) n) S ht ((T'.L n).more (nthK (grow1 M) n).n v' ob nb) 0 wb) := hid ⟨hrep, hch⟩
          clear hft hrep hch HBG
          go_wp2_with fail
          obtain ⟨μ, hμ1, hμ2⟩ := measure_ex (D + 1) (fun m (x : Value × World) => x.1 = .bool (decide (m = D + 1)) ∧ Ran wy (T'.L n) (nthK (grow1 M) n) S ht ((T'.L n).more (nthK (grow1 M) n).n v' ob nb) m x.2)
          have HM1 := hid hμ1
          have HM2 := hid hμ2
          clear hμ1 hμ2
          go_loopw [19] (fun d wr => ∃ m, m ≤ D + 1 ∧ d = .bool (decide (m = D + 1)) ∧ Ran wy (T'.L n) (nthK (grow1 M) n) S ht ((T'.L n).more (nthK (grow1 M) n).n v' ob nb) m wr) (fun d wr => μ (d, wr))
          case atStart => exact ⟨0, Nat.zero_le _, by rw [decide_eq_false (Nat.succ_ne_zero D).symm], HRAN.out⟩
          case round =>
            obtain ⟨m, hm, ⟨hfl, hran⟩, hμ⟩ := HM2.out (_, _) hrel
            have HR := hid hran
            have HU := hid hμ
            clear hrel hran hμ
            simp only at hfl
            subst hfl
            by_cases hmD : m = D + 1
            · subst hmD
              have hdd : decide (D + 1 = D + 1) = true := decide_eq_true rfl
              obtain ⟨T1, M1, hmid⟩ := add_mid H.out E2.out HB2.out (Nat.le_refl _) HR'.out HC'.out HF'.out EY.out HE1.out HE2.out HE3.out HRD.out HG.out HNO.out HV.out HS.out HCAN.out h1 h8 HD.out HR.out rfl HFT.out
              have HMID := hid hmid
              obtain ⟨es1, cl1, es2, cl2, F, hkb, hvb⟩ := putF_of hmid.rep (k := k) (S := S) (by rw [hmid.es, HS.out]; exact fun e he x => HNO.out e he (keyT_inj (HM.out.good e he) HG.out x)) (by rw [hmid.es]; exact HNO.out)
              have hI0 : PutI wr T1 M1 w.heap.size k v S es1 cl1 es2 cl2 (fun _ => false) wr := ⟨hmid.rep.tb, hmid.box, hkb, hvb, Ch.rfl _ _, (fun h => by cases h), fun h => by cases h⟩
              have HI0 := hid hI0
              have FF := hid F
              clear hmid F hkb hvb hI0
              go_wp2_with fail
              refine wp_drawN (PutI wr T1 M1 w.heap.size k v S es1 cl1 es2 cl2) (by kernel_rfl) (by kernel_rfl) (fun L w w' h he => h.ext he) HI0.out ?_
              have hcell : ∀ (L : Nat → Bool) (w' : World), PutI wr T1 M1 w.heap.size k v S es1 cl1 es2 cl2 L w' → ∀ i, w'.cell? ⟨T.tb, i, none⟩ = (tabC T1 M1)[i]? := fun L w' h i => by
                rw [← HMID.out.tb]; exact cell_of_row _ _ _ _ _ _ h.tb
              refine rgn_read 130 (fun _ _ _ h he => h.read he (by decide)) (fun _ _ _ => ob_move (by rfl) (by rfl)) rfl (by rfl) ?_
              refine rgn_read 131 (fun _ _ _ h he => h.read he (by decide)) (fun _ _ _ => ob_nilck (by rfl) (by rfl)) rfl (by rfl) ?_
              refine rgn_read 132 (fun _ _ _ h he => h.read he (by decide)) (fun _ _ _ => ob_field (n := 0) 1 1 118 (by rfl) (by rfl) Try.underlying121 (by rfl) (by kernel_rfl) rfl) rfl (by rfl) ?_
              refine rgn_read 133 (v := .map (some T1.kb)) (fun _ _ _ h he => h.read he (by decide)) (fun _ _ hi => ob_load (by rfl) (by rfl) (by kernel_rfl) (fun _ he => ext_cell he (hcell _ _ hi 1))) rfl (by rfl) ?_
              refine rgn_read 134 (fun _ _ _ h he => h.read he (by decide)) (fun _ _ _ => ob_move (by rfl) (by rfl)) rfl (by rfl) ?_
              refine rgn_read 135 (fun _ _ _ h he => h.read he (by decide)) (fun _ _ _ => ob_move (by rfl) (by rfl)) rfl (by rfl) ?_
              refine rgn_read 136 (fun _ _ _ h he => h.read he (by decide)) (fun _ _ _ => ob_nilck (by rfl) (by rfl)) rfl (by rfl) ?_
              refine rgn_read 137 (fun _ _ _ h he => h.read he (by decide)) (fun _ _ _ => ob_field (n := 0) 2 2 119 (by rfl) (by rfl) Try.underlying121 (by rfl) (by kernel_rfl) rfl) rfl (by rfl) ?_
              refine rgn_read 138 (v := .map (some T1.vb)) (fun _ _ _ h he => h.read he (by decide)) (fun _ _ hi => ob_load (by rfl) (by rfl) (by kernel_rfl) (fun _ he => ext_cell he (hcell _ _ hi 2))) rfl (by rfl) ?_
              refine rgn_read 139 (v := aKey k) (fun _ _ _ h he => h.read he (by decide)) (fun _ _ hi => ob_loadrow (by rfl) (by rfl) (fun _ he => (he.block _ (blk_lt hi.bx)).trans hi.bx) Try.underlying42 rfl (by kernel_rfl)) rfl (by rfl) ?_
              refine rgn_read 140 (v := aKey k) (fun _ _ _ h he => h.read he (by decide)) (fun _ _ hi => ob_loadrow (by rfl) (by rfl) (fun _ he => (he.block _ (blk_lt hi.bx)).trans hi.bx) Try.underlying42 rfl (by kernel_rfl)) rfl (by rfl) ?_
              refine rgn_read 141 (fun _ _ _ h he => h.read he (by decide)) (fun _ _ _ => ob_move (by rfl) (by rfl)) rfl (by rfl) ?_
              refine rgn_eff [.tmp 133, .tmp 134] [.map (some T1.kb), .string S] rfl rfl (by rfl) (fun ρ L w hx hi hL _ => put_e12 FF.out hx hi hL) ⟨by rfl, ?_⟩
              refine rgn_read 143 (fun _ _ _ h he => h.read he (by decide)) (fun _ _ _ => ob_extract (by rfl) (by rfl) (by rfl)) rfl (by rfl) ?_
              refine rgn_eff [.tmp 133, .tmp 143, .tmp 140] [.map (some T1.kb), .int .i64 (cl1 : Nat), aKey k] rfl rfl (by rfl) (fun ρ L w hx hi hL he => put_s14 FF.out hx hi hL (he ⟨12, .chain⟩ (by simp) rfl)) ?_
              refine rgn_eff [.tmp 138, .tmp 139] [.map (some T1.vb), aKey k] rfl rfl (by rfl) (fun ρ L w hx hi hL _ => put_e15 FF.out hx hi hL) ⟨by rfl, ?_⟩
              refine rgn_read 145 (fun _ _ _ h he => h.read he (by decide)) (fun _ _ _ => ob_extract (by rfl) (by rfl) (by rfl)) rfl (by rfl) ?_
              refine rgn_eff [.tmp 138, .tmp 145, .tmp 141] [.map (some T1.vb), .int .i64 (cl2 : Nat), .string v] rfl rfl (by rfl) (fun ρ L w hx hi hL he => put_s17 FF.out hx hi hL (he ⟨15, .chain⟩ (by simp) rfl)) ?_
              refine rgn_end ?_
              intro LL w5 hLL hi5
              simp only [asg, List.set_cons_zero, List.set_cons_succ, List.map_cons, List.map_nil, opens]
              have c3 : w5.cell? ⟨T.tb, 3, none⟩ = some (.int .i64 M1.size) := hcell _ _ hi5 3
              rw [HMID.out.size] at c3
              have cb : w5.cell? ⟨w.heap.size, 0, none⟩ = some (.string k.user) := cell_of_row _ _ _ _ _ _ hi5.bx
              have f3 : ∀ i, w5.frozen? ⟨T.tb, i, none⟩ = false := fun i => by rw [← HMID.out.tb]; exact frozen_of_row _ _ _ _ _ hi5.tb
              have HI5 := hid hi5
              have HL1 := hid (hLL 14 (by decide))
              have HL2 := hid (hLL 17 (by decide))
              clear hi5 hLL hcell
              go_wp2_with fail
              obtain ⟨hw1, hw2, hw3⟩ := HW.out
              go_region
              clear hw1 hw2 hw3
              go_wp2_with fail
              go_ret
              exact add_post (w' := w5.drew) HG.out HMID.out.rep HMID.out.ch HMID.out.feet HMID.out.tb HMID.out.kb HMID.out.vb HS.out HI5.out FF.out HL1.out HL2.out (Ext.rfl w5).dr (HMID.out.full _) HMID.out.es HMID.out.fr rfl
            · have hdd : decide (m = D + 1) = false := decide_eq_false hmD
              have hmlt : m < D + 1 := Nat.lt_of_le_of_ne hm hmD
              have hst := step_rep HR.out.rep (HD.out.inv m) (HD.out.lt m)
              have hflag := HD.out.flag hmlt
              go_wp2_with fail
              refine hst.mono ?_
              rintro e wq ⟨rfl, r, c⟩
              rw [hflag]
              have HQ := hid (HR.out.step (HD.out.hn m) HFT.out r c)
              clear r c hst
              go_wp2_with fail
              go_roundw
              case rel => exact ⟨m + 1, hmlt, congrArg Value.bool (dec_succ m D), HQ.out⟩
              case measure =>
                rw [HU.out]
                exact Nat.lt_of_le_of_lt (HM1.out (m + 1) _ hmlt ⟨congrArg Value.bool (dec_succ m D), HQ.out⟩) (Nat.sub_lt_sub_left hmlt (Nat.lt_succ_self m))
end Go.Proofs.Ytoonhcmeklmnlaa
