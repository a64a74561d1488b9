/- The document's files: Create, Rename, Remove, SyncDir, SetFuse, SetFail. -/
import Derived.Test.YtjekfifnhdoamaaRf3
set_option linter.unusedSimpArgs false
set_option linter.unusedVariables false
set_option linter.unnecessarySimpa false
namespace Go.Proofs.Ytjekfifnhdoamaa
open Go.RowKit Go.Rg Go.St

/-- what is read of the box, under its plain name -/
theorem rfc {w : World} {L : RL} {M : FsM} (hr : RefAt w L M) (b : Nat) (hb : L.rb = b) : w.cell? ⟨b, 0, none⟩ = some L.vf ∧ w.cell? ⟨b, 1, none⟩ = some L.vn ∧ w.cell? ⟨b, 2, none⟩ = some L.vl ∧ w.cell? ⟨b, 3, none⟩ = some L.vs ∧ w.cell? ⟨b, 4, none⟩ = some (.int .i64 (M.quota : Nat)) ∧
    w.cell? ⟨b, 5, none⟩ = some (.bool (decide (0 ≤ M.fuse))) ∧ w.cell? ⟨b, 6, none⟩ = some (.int .i64 L.fu) ∧ w.cell? ⟨b, 7, none⟩ = some (.bool (decide (0 ≤ M.fail))) ∧ w.cell? ⟨b, 8, none⟩ = some (.int .i64 L.fa) ∧
    w.cell? ⟨b, 9, none⟩ = some (.int .i64 (M.ops : Nat)) ∧ ∀ i, w.frozen? ⟨b, i, none⟩ = false := by
  subst hb
  exact rf_cells hr.row
theorem ok_names {M : FsM} (ok : M.Ok) (ho : M.ops < OpsMax) : M.ask.2.names.length ≤ OpsMax ∧ M.ask.2.since.length ≤ OpsMax ∧ M.ask.2.nf ≤ OpsMax := by
  have h := ask_room ok
  have h2 := (ask_asked M).ops
  omega
/-- a file more -/
theorem RefAt.moreF {w w6 wx : World} {L : RL} {M : FsM} {v6 : Value} (h : RefAt w L M) (he : Ext w wx) (HP : AppP wx w6 115 2 L.vf v6 (M.nf + 1) ((List.range M.nf).flatMap (eFl L M) ++ [.slice none 0 0, .int .i64 0])) :
    RRes L M.nf w { M with files := updF M.files M.nf ⟨[], 0⟩, nf := M.nf + 1 } (w6.setCell ⟨L.rb, 0, none⟩ v6) := by
  have hx := h.ext he
  have hc : Ch (fun k => k = L.rb ∨ L.vf.ownBlock = some k) wx (w6.setCell ⟨L.rb, 0, none⟩ v6) := (HP.ch.mono fun k _ hk => .inr hk).setC (.inl rfl)
  have HR6 : w6.heap[L.rb]? = some (.cells (rfC L M) 113 (0, 0)) := (HP.ch.block _ (blk_lt hx.row) fun hk => own_neG hx.fil hx.row (by simp) hk).trans hx.row
  have hs := heap_setCell_same w6 L.rb 0 _ _ v6 HR6
  have e : (List.range (M.nf + 1)).flatMap (eFl { L with vf := v6, vb := fun i => if i = M.nf then .slice none 0 0 else L.vb i } { M with files := updF M.files M.nf ⟨[], 0⟩, nf := M.nf + 1 }) = (List.range M.nf).flatMap (eFl L M) ++ [.slice none 0 0, .int .i64 0] := by
    rw [List.range_succ, List.flatMap_append]
    congr 1
    · exact flatMap_congrG fun i hi => by
        have hi' := List.mem_range.1 hi
        unfold eFl
        simp only
        rw [if_neg (by omega), updF_other _ _ (by omega)]
    · simp [eFl, updF_same]
  have hown : (w6.setCell ⟨L.rb, 0, none⟩ v6).ownsRow 0 115 2 v6 (M.nf + 1) ((List.range (M.nf + 1)).flatMap (eFl { L with vf := v6, vb := fun i => if i = M.nf then .slice none 0 0 else L.vb i } { M with files := updF M.files M.nf ⟨[], 0⟩, nf := M.nf + 1 })) := by
    rw [e]
    exact owns_ch HP.own fun k hk => heap_setCell_other _ _ _ _ fun e => own_neG HP.own HR6 (by simp) (by rw [hk, e])
  have R := hx.filesT (v' := v6) (vb' := fun i => if i = M.nf then .slice none 0 0 else L.vb i) (F' := updF M.files M.nf ⟨[], 0⟩) (n' := M.nf + 1) hc (hs.trans rfl) hown (fun i hi => by
    by_cases hi2 : i = M.nf
    · right
      rw [hi2, updF_same]
      simp only [if_true]
      exact World.ownsRow_nil _ _ _ _
    · left
      refine ⟨by omega, if_neg hi2, ?_⟩
      rw [updF_other _ _ hi2])
  refine ⟨{ L with vf := v6, vb := fun i => if i = M.nf then .slice none 0 0 else L.vb i }, rfl, R, ?_, fun k hk => ?_⟩
  · exact ((Ch.of_ext he).tr hc).mono fun k _ hk => hk.elim .inl fun h => .inr (.inl h)
  · rcases hk with hk | hk | hk | hk | hk | ⟨i, hi, hk⟩
    · exact .inl (.inl hk)
    · rcases HP.blk k hk with h | h
      · exact .inl (.inr (.inl h))
      · exact .inr (by have := he.size; omega)
    · exact .inl (.inr (.inr (.inl hk)))
    · exact .inl (.inr (.inr (.inr (.inl hk))))
    · exact .inl (.inr (.inr (.inr (.inr (.inl hk)))))
    · by_cases hi2 : i = M.nf
      · simp only [hi2, if_true] at hk
        cases hk
      · simp only [hi2, if_false] at hk
        have hi3 : i < M.nf + 1 := hi
        exact .inl (.inr (.inr (.inr (.inr (.inr ⟨i, by omega, hk⟩)))))
theorem RRes.asked {L : RL} {n n1 : Nat} {f g : Int} {w w1 w' : World} {M' : FsM} (h : RRes { L with fu := f, fa := g } n1 w1 M' w') (hn : n1 = n) (hc : Ch (fun k => k = L.rb) w w1) : RRes L n w M' w' := by
  subst hn
  exact RRes.after (L := L) h rfl (hc.mono fun k _ hk => .inl hk) fun k hk => .inl hk
theorem good_ne {n : ByteArray} (h : goodN n = true) : n.size ≠ 0 := Nat.ne_of_gt (good_size h).1
theorem one_nf : ∀ u ∈ [(.slice none 0 0 : Value), .int .i64 0], u.oneCell' = true := by
  intro u hu
  simp at hu
  rcases hu with rfl | rfl <;> rfl
/-- the box behind an append to the files -/
theorem app_box {w wx w6 : World} {L : RL} {M : FsM} {n m : Nat} {v v6 : Value} {xs ys : List Value} (hown : w.ownsRow 0 115 2 v n xs) (hp : AppP wx w6 115 2 v v6 m ys) (he : Ext w wx) (h : RefAt w L M) (b : Nat) (hb : L.rb = b) :
    w6.cell? ⟨b, 0, none⟩ = some L.vf ∧ ∀ i, w6.frozen? ⟨b, i, none⟩ = false := by
  subst hb
  have hr := (app_row hown h.row (by simp) he hp.ch).trans h.row
  obtain ⟨k0, -, -, -, -, -, -, -, -, -, kf⟩ := rf_cells hr
  exact ⟨k0, kf⟩
set_option maxRecDepth 100000 in
set_option maxHeartbeats 4000000 in
theorem rcreate_in (L : RL) (M : FsM) (n : ByteArray) (w : World) (h : RefAt w L M) (ok : M.Ok) (ho : M.ops < OpsMax) :
    Calls Try.prog 57 #[ptrV L.rb, .string n] w (RPost L M.nf w (.int .i64 (M.create n).1) (M.create n).2) := by
  have OK := hid (ok_names ok ho)
  have AS := hid (ask_asked M)
  have hcr : Hid (M.create n = if M.ask.1 ≠ 0 then M.ask else
    if goodN n = false then (40, M.ask.2) else
      if (fndN M.ask.2.names n).isSome then (41, M.ask.2) else
        (0, ({ M.ask.2 with files := updF M.files M.nf ⟨[], 0⟩, nf := M.nf + 1 } : FsM).doC ⟨ByteArray.empty, n, M.nf⟩)) := hid rfl
  go_enter Try.func57, Try.ntmps57
  go_wp2_with fail
  refine (rask_in L M w h ok ho).mono ?_
  rintro e w1 ⟨rfl, ⟨f, g, h1⟩, hc1⟩
  have H1 := hid h1
  have C1 := hid hc1
  clear h1 hc1 h ok ho
  by_cases h0 : M.ask.1 = 0
  · have d0 : (M.ask.1 != 0) = false := by simp [h0]
    go_wp2_with fail
    refine (rgood_in n w1).mono ?_
    rintro e w2 ⟨rfl, hw⟩
    subst hw
    cases hg : goodN n
    · have e1 : M.create n = (40, M.ask.2) := by rw [hcr.out, if_neg (fun h => h h0), if_pos hg]
      have EE := hid e1
      clear hcr e1 hg h0
      go_wp2_with fail
      go_ret
      exact RPost.of EE.out rfl (RRes.same H1.out AS.out.nf C1.out)
    · have HG := hid hg
      have H0 := hid h0
      obtain ⟨-, k1, -⟩ := rfc H1.out L.rb rfl
      clear hg h0
      go_wp2_with fail
      refine (rfind_in _ M.ask.2.names n w1 H1.out.nam.sl).mono ?_
      rintro e w2 ⟨rfl, ⟨hn, rfl⟩ | ⟨i, hi, hn, _, rfl⟩⟩
      · have e1 : M.create n = (0, ({ M.ask.2 with files := updF M.files M.nf ⟨[], 0⟩, nf := M.nf + 1 } : FsM).doC ⟨ByteArray.empty, n, M.nf⟩) := by
          rw [hcr.out, if_neg (fun h => h H0.out), if_neg (by rw [HG.out]; simp), hn]
          rfl
        have EE := hid e1
        clear hcr e1 hn k1
        have EE2 := hid (show M.create n = (0, ({ M.ask.2 with files := updF M.ask.2.files M.ask.2.nf ⟨[], 0⟩, nf := M.ask.2.nf + 1 } : FsM).doC ⟨ByteArray.empty, n, M.ask.2.nf⟩) by rw [EE.out, ← AS.out.files, ← AS.out.nf])
        obtain ⟨k0, -, -, -, -, -, -, -, -, -, kf⟩ := rfc H1.out L.rb rfl
        have hfil := H1.out.fil
        obtain ⟨aF, cF, hvf, hmF⟩ := slice_ofG hfil
        have hvf' : L.vf = .slice aF M.ask.2.nf cF := hvf
        have k0' : w1.cell? ⟨L.rb, 0, none⟩ = some (.slice aF M.ask.2.nf cF) := k0.trans (congrArg some hvf')
        have kf' : ∀ i, w1.frozen? ⟨L.rb, i, none⟩ = false := kf
        have hq0 : L.rb < w1.heap.size := blk_lt H1.out.row
        have hq1 : w1.heap.size ≠ L.rb := Nat.ne_of_gt hq0
        rw [hvf] at hfil
        have HF := hid hfil
        have HVF := hid hvf
        have HNF := hid OK.out.2.2
        have HNS := hid (And.intro OK.out.1 OK.out.2.1)
        have NF := hid AS.out.nf
        clear k0 kf hfil hvf hvf' OK EE
        generalize M.ask.2 = M2 at *
        go_upto_region 10 with (at_builtin; refine wpList_appG el_fl rfl (owns_ext HF.out ((Ext.rfl w1).al _)) rfl rfl (news_atG w1 #[.slice none 0 0, .int .i64 0] _) one_nf (by have := HNF.out; unfold OpsMax at this; omega) ?_; intro v6 w6 hp; obtain ⟨a6, cap6, rfl, _⟩ := slice_ofG hp.own; have HP := hid hp; obtain ⟨z0, zf⟩ := app_box HF.out hp ((Ext.rfl w1).al _) H1.out L.rb rfl; clear hp)
        have hR := RefAt.moreF (v6 := .slice a6 (M2.nf + 1) cap6) H1.out ((Ext.rfl w1).al _) (by have h := HP.out; rw [← HVF.out] at h; exact h)
        have HR := hid hR
        clear hR HP HF z0 zf k0' kf' hq0 hq1
        generalize w6.setCell ⟨L.rb, 0, none⟩ (.slice a6 (M2.nf + 1) cap6) = w7 at *
        obtain ⟨L7, e7, h7, c7, f7⟩ := HR.out
        have e7' : L7.rb = L.rb := e7
        obtain ⟨aG, cG, hvf7, hm7⟩ := slice_ofG h7.fil
        obtain ⟨k0, -, -, -, -, -, -, -, -, -, kf⟩ := rfc h7 L.rb e7'
        have k0' : w7.cell? ⟨L.rb, 0, none⟩ = some (.slice aG (M2.nf + 1) cG) := k0.trans (congrArg some hvf7)
        have HCH := rchange_in L7 _ ⟨ByteArray.empty, n, M2.nf⟩ w7 h7 (fun _ => good_ne HG.out) (by show M2.names.length ≤ OpsMax; exact HNS.out.1) (by show M2.since.length ≤ OpsMax; exact HNS.out.2)
        rw [e7'] at HCH
        have HCH2 := hid (show Calls Try.prog 77 #[ptrV L.rb, .agg #[.int .i64 1, .string n, .string ByteArray.empty, .int .i64 (M2.nf : Nat)]] w7 _ from HCH)
        have C7 := hid c7
        have F7 := hid f7
        have E7 := hid e7'
        clear HCH k0 kf hvf7 h7 c7 f7 e7 e7' HR
        have hnf : M2.nf ≤ 1000000000000 := HNF.out
        go_wp2_with fail
        refine HCH2.out.mono ?_
        rintro e w8 ⟨rfl, h8⟩
        have H8 := hid (RRes.after (L := { L with fu := f, fa := g }) h8 E7.out C7.out F7.out)
        clear h8 k0'
        go_wp2_with fail
        go_ret
        exact RPost.of EE2.out rfl (RRes.asked H8.out NF.out C1.out)
      · have e1 : M.create n = (41, M.ask.2) := by rw [hcr.out, if_neg (fun h => h H0.out), if_neg (by rw [HG.out]; simp), hn]; rfl
        have EE := hid e1
        clear hcr e1 hn
        go_wp2_with fail
        go_ret
        exact RPost.of EE.out rfl (RRes.same H1.out AS.out.nf C1.out)
  · have d0 : (M.ask.1 != 0) = true := by simp [h0]
    have e1 : M.create n = (M.ask.1, M.ask.2) := by rw [hcr.out, if_pos h0]
    have EE := hid e1
    clear h0 hcr e1
    go_wp2_with fail
    go_ret
    exact RPost.of EE.out rfl (RRes.same H1.out AS.out.nf C1.out)
/-- a name that is there may be one -/
theorem there_ne {M : FsM} (ok : M.Ok) {n : ByteArray} {i : Nat} (h : fndN M.names n = some i) : n.size ≠ 0 := good_ne (ok.on _ (fndN_mem h)).1
theorem eCg_two {n m : ByteArray} {i : Nat} (hn : n.size ≠ 0) (hm : m.size ≠ 0) : eCg ⟨n, m, i⟩ = [.int .i64 2, .string n, .string m, .int .i64 (i : Nat)] := by
  unfold eCg
  rw [if_neg hn, if_neg hm]
theorem eCg_gone {n : ByteArray} (hn : n.size ≠ 0) : eCg ⟨n, ByteArray.empty, 0⟩ = [.int .i64 3, .string n, .string ByteArray.empty, .int .i64 0] := by
  unfold eCg
  rw [if_neg hn]
  rfl
set_option maxRecDepth 100000 in
set_option maxHeartbeats 4000000 in
theorem rrename_in (L : RL) (M : FsM) (n m : ByteArray) (w : World) (h : RefAt w L M) (ok : M.Ok) (ho : M.ops < OpsMax) :
    Calls Try.prog 60 #[ptrV L.rb, .string n, .string m] w (RPost L M.nf w (.int .i64 (M.rename n m).1) (M.rename n m).2) := by
  have OK := hid (ok_names ok ho)
  have AO := hid (ask_ok ok)
  have AS := hid (ask_asked M)
  have hcr : Hid (M.rename n m = if M.ask.1 ≠ 0 then M.ask else
    match fndN M.ask.2.names n with
    | none => (42, M.ask.2)
    | some i => if goodN m = false then (40, M.ask.2) else (0, M.ask.2.doC ⟨n, m, i⟩)) := hid rfl
  go_enter Try.func60, Try.ntmps60
  go_wp2_with fail
  refine (rask_in L M w h ok ho).mono ?_
  rintro e w1 ⟨rfl, ⟨f, g, h1⟩, hc1⟩
  have H1 := hid h1
  have C1 := hid hc1
  clear h1 hc1 h ok ho
  by_cases h0 : M.ask.1 = 0
  · have d0 : (M.ask.1 != 0) = false := by simp [h0]
    have H0 := hid h0
    obtain ⟨-, k1, -⟩ := rfc H1.out L.rb rfl
    clear h0
    go_wp2_with fail
    refine (rfind_in _ M.ask.2.names n w1 H1.out.nam.sl).mono ?_
    rintro e w2 ⟨rfl, ⟨hn, rfl⟩ | ⟨i, hi, hn, hni, rfl⟩⟩
    · have e1 : M.rename n m = (42, M.ask.2) := by rw [hcr.out, if_neg (fun h => h H0.out), hn]
      have EE := hid e1
      clear hcr e1 hn
      go_wp2_with fail
      go_ret
      exact RPost.of EE.out rfl (RRes.same H1.out AS.out.nf C1.out)
    · have HN := hid hn
      have hi0 : ¬ ((i : Int) < 0) := by omega
      have hi1 : i < M.ask.2.names.length := hi
      clear hn hni
      go_wp2_with fail
      refine (rgood_in m w1).mono ?_
      rintro e w2 ⟨rfl, hw⟩
      subst hw
      cases hg : goodN m
      · have e1 : M.rename n m = (40, M.ask.2) := by rw [hcr.out, if_neg (fun h => h H0.out), HN.out]; simp only; rw [if_pos hg]
        have EE := hid e1
        clear hcr e1 hg
        go_wp2_with fail
        go_ret
        exact RPost.of EE.out rfl (RRes.same H1.out AS.out.nf C1.out)
      · have e1 : M.rename n m = (0, M.ask.2.doC ⟨n, m, (nth M.ask.2.names i).2⟩) := by rw [hcr.out, if_neg (fun h => h H0.out), HN.out]; simp only; rw [if_neg (by rw [hg]; simp)]
        have EE := hid e1
        obtain ⟨aN, cN, hvn, hcN, hmN, hcell0⟩ := H1.out.nam.sl.ex
        have hvn' : L.vn = .slice aN M.ask.2.names.length cN := hvn
        obtain ⟨b, off, rfl, hcell⟩ := hcell0 (by omega)
        obtain ⟨q0, q1⟩ := at2 (hcell i hi) rfl
        clear hcell0
        have k1' : w1.cell? ⟨L.rb, 1, none⟩ = some (.slice (some ⟨b, off, none⟩) M.ask.2.names.length cN) := k1.trans (congrArg some hvn')
        have HCH := rchange_in { L with fu := f, fa := g } M.ask.2 ⟨n, m, (nth M.ask.2.names i).2⟩ w1 H1.out (fun _ => good_ne hg) OK.out.1 OK.out.2.1
        have HCH2 := hid (show Calls Try.prog 77 #[ptrV L.rb, .agg #[.int .i64 2, .string n, .string m, .int .i64 ((nth M.ask.2.names i).2 : Nat)]] w1 _ by
          have h := HCH
          unfold aCg at h
          rw [eCg_two (there_ne AO.out HN.out) (good_ne hg)] at h
          exact h)
        have NF := hid AS.out.nf
        clear hcr e1 hg HCH k1 hvn hvn' hcell
        generalize M.ask.2 = M2 at *
        generalize (nth M2.names i) = p at *
        go_wp2_with fail
        refine HCH2.out.mono ?_
        rintro e w8 ⟨rfl, h8⟩
        have H8 := hid h8
        clear h8 k1' q0 q1
        go_wp2_with fail
        go_ret
        exact RPost.of EE.out rfl (RRes.asked H8.out NF.out C1.out)
  · have d0 : (M.ask.1 != 0) = true := by simp [h0]
    have e1 : M.rename n m = (M.ask.1, M.ask.2) := by rw [hcr.out, if_pos h0]
    have EE := hid e1
    clear h0 hcr e1
    go_wp2_with fail
    go_ret
    exact RPost.of EE.out rfl (RRes.same H1.out AS.out.nf C1.out)
set_option maxRecDepth 100000 in
set_option maxHeartbeats 4000000 in
theorem rremove_in (L : RL) (M : FsM) (n : ByteArray) (w : World) (h : RefAt w L M) (ok : M.Ok) (ho : M.ops < OpsMax) :
    Calls Try.prog 61 #[ptrV L.rb, .string n] w (RPost L M.nf w (.int .i64 (M.remove n).1) (M.remove n).2) := by
  have OK := hid (ok_names ok ho)
  have AO := hid (ask_ok ok)
  have AS := hid (ask_asked M)
  have hcr : Hid (M.remove n = if M.ask.1 ≠ 0 then M.ask else
    match fndN M.ask.2.names n with
    | none => (42, M.ask.2)
    | some i => (0, M.ask.2.doC ⟨n, ByteArray.empty, 0⟩)) := hid rfl
  go_enter Try.func61, Try.ntmps61
  go_wp2_with fail
  refine (rask_in L M w h ok ho).mono ?_
  rintro e w1 ⟨rfl, ⟨f, g, h1⟩, hc1⟩
  have H1 := hid h1
  have C1 := hid hc1
  clear h1 hc1 h ok ho
  by_cases h0 : M.ask.1 = 0
  · have d0 : (M.ask.1 != 0) = false := by simp [h0]
    have H0 := hid h0
    obtain ⟨-, k1, -⟩ := rfc H1.out L.rb rfl
    clear h0
    go_wp2_with fail
    refine (rfind_in _ M.ask.2.names n w1 H1.out.nam.sl).mono ?_
    rintro e w2 ⟨rfl, ⟨hn, rfl⟩ | ⟨i, hi, hn, hni, rfl⟩⟩
    · have e1 : M.remove n = (42, M.ask.2) := by rw [hcr.out, if_neg (fun h => h H0.out), hn]
      have EE := hid e1
      clear hcr e1 hn
      go_wp2_with fail
      go_ret
      exact RPost.of EE.out rfl (RRes.same H1.out AS.out.nf C1.out)
    · have e1 : M.remove n = (0, M.ask.2.doC ⟨n, ByteArray.empty, 0⟩) := by rw [hcr.out, if_neg (fun h => h H0.out), hn]
      have EE := hid e1
      have hi0 : ¬ ((i : Int) < 0) := by omega
      have hnz := there_ne AO.out hn
      have HCH := rchange_in { L with fu := f, fa := g } M.ask.2 ⟨n, ByteArray.empty, 0⟩ w1 H1.out (fun h => absurd h hnz) OK.out.1 OK.out.2.1
      have HCH2 := hid (show Calls Try.prog 77 #[ptrV L.rb, .agg #[.int .i64 3, .string n, .string ByteArray.empty, .int .i64 0]] w1 _ by
        have h := HCH
        unfold aCg at h
        rw [eCg_gone hnz] at h
        exact h)
      have NF := hid AS.out.nf
      clear hcr e1 HCH k1 hn hnz hni
      go_wp2_with fail
      refine HCH2.out.mono ?_
      rintro e w8 ⟨rfl, h8⟩
      have H8 := hid h8
      clear h8
      go_wp2_with fail
      go_ret
      exact RPost.of EE.out rfl (RRes.asked H8.out NF.out C1.out)
  · have d0 : (M.ask.1 != 0) = true := by simp [h0]
    have e1 : M.remove n = (M.ask.1, M.ask.2) := by rw [hcr.out, if_pos h0]
    have EE := hid e1
    clear h0 hcr e1
    go_wp2_with fail
    go_ret
    exact RPost.of EE.out rfl (RRes.same H1.out AS.out.nf C1.out)
theorem box_two {w : World} {L : RL} {M : FsM} (h : RefAt w L M) (i j : Nat) (x y : Value) : ((w.setCell ⟨L.rb, i, none⟩ x).setCell ⟨L.rb, j, none⟩ y).heap[L.rb]? = some (.cells (((rfC L M).setIfInBounds i x).setIfInBounds j y) 113 (0, 0)) :=
  heap_setCell_same _ _ _ _ _ _ (heap_setCell_same _ _ _ _ _ _ h.row)
set_option maxRecDepth 100000 in
set_option maxHeartbeats 4000000 in
theorem rsyncDir_in (L : RL) (M : FsM) (w : World) (h : RefAt w L M) (ok : M.Ok) (ho : M.ops < OpsMax) :
    Calls Try.prog 62 #[ptrV L.rb] w (RPost L M.nf w (.int .i64 M.syncDir.1) M.syncDir.2) := by
  have AS := hid (ask_asked M)
  have hcr : Hid (M.syncDir = if M.ask.1 ≠ 0 then M.ask else (0, { M.ask.2 with lasts := M.names, since := [] })) := hid rfl
  go_enter Try.func62, Try.ntmps62
  go_wp2_with fail
  refine (rask_in L M w h ok ho).mono ?_
  rintro e w1 ⟨rfl, ⟨f, g, h1⟩, hc1⟩
  have H1 := hid h1
  have C1 := hid hc1
  clear h1 hc1 h ok ho
  by_cases h0 : M.ask.1 = 0
  · have d0 : (M.ask.1 == 0) = true := by simp [h0]
    have e1 : M.syncDir = (0, { M.ask.2 with lasts := M.ask.2.names, since := [] }) := by rw [hcr.out, if_neg (fun h => h h0), ← AS.out.names]
    have H0 := hid h0
    have EE := hid e1
    obtain ⟨-, k1, k2, k3, -, -, -, -, -, -, kf⟩ := rfc H1.out L.rb rfl
    obtain ⟨aN, cN, hvn, _⟩ := slice_ofG H1.out.nam
    have hvn' : L.vn = .slice aN M.ask.2.names.length cN := hvn
    have k1' : w1.cell? ⟨L.rb, 1, none⟩ = some (.slice aN M.ask.2.names.length cN) := k1.trans (congrArg some hvn')
    have HVN := hid hvn'
    have kf' : ∀ i, w1.frozen? ⟨L.rb, i, none⟩ = false := kf
    have k2' : w1.cell? ⟨L.rb, 2, none⟩ = some L.vl := k2
    have k3' : w1.cell? ⟨L.rb, 3, none⟩ = some L.vs := k3
    clear h0 hcr e1 hvn hvn' k1 k2 k3 kf
    go_wp2_with fail
    go_ret
    have hc : Ch (fun k => k = L.rb) w1 ((w1.setCell ⟨L.rb, 2, none⟩ (.slice aN M.ask.2.names.length cN)).setCell ⟨L.rb, 3, none⟩ (.slice none 0 0)) := ((ch0 L.rb w1).setC rfl).setC rfl
    have hs := box_two H1.out 2 3 (.slice aN M.ask.2.names.length cN) (.slice none 0 0)
    have h1 : ∀ k, RFoot1 { L with fu := f, fa := g } M.ask.2.nf k → ((w1.setCell ⟨L.rb, 2, none⟩ (.slice aN M.ask.2.names.length cN)).setCell ⟨L.rb, 3, none⟩ (.slice none 0 0)).heap[k]? = w1.heap[k]? := fun k hk => hc.block k (H1.out.foot_lt (.inr hk)) (H1.out.ne_rb hk)
    refine RPost.of EE.out (by rw [H0.out]; rfl) ⟨{ L with fu := f, fa := g, vl := L.vn, vs := .slice none 0 0 }, rfl, ⟨?_, ?_, ?_, ?_, ?_, ?_, ?_, ?_⟩, ?_, ?_⟩
    · rw [← HVN.out] at hs ⊢
      exact hs.trans rfl
    · exact owns_ch H1.out.fil (fun g hg => h1 _ (.inl hg))
    · exact fun i hi => owns_ch (H1.out.byt i hi) (fun g hg => h1 _ (.inr (.inr (.inr (.inr ⟨i, hi, hg⟩)))))
    · exact owns_ch H1.out.nam (fun g hg => h1 _ (.inr (.inl hg)))
    · exact owns_ch H1.out.nam (fun g hg => h1 _ (.inr (.inl hg)))
    · exact World.ownsRow_nil _ _ _ _
    · exact H1.out.fu
    · exact H1.out.fa
    · exact (C1.out.tr hc).mono fun k _ hk => .inl hk
    · intro k hk
      rcases hk with hk | hk | hk | hk | hk | ⟨i, hi, hk⟩
      · exact .inl (.inl hk)
      · exact .inl (.inr (.inl hk))
      · exact .inl (.inr (.inr (.inl hk)))
      · exact .inl (.inr (.inr (.inl hk)))
      · cases hk
      · exact .inl (.inr (.inr (.inr (.inr (.inr ⟨i, by have := AS.out.nf; have h9 : i < M.ask.2.nf := hi; omega, hk⟩)))))
  · have d0 : (M.ask.1 == 0) = false := by rw [beq_eq_false_iff_ne]; exact h0
    have e1 : M.syncDir = (M.ask.1, M.ask.2) := by rw [hcr.out, if_pos h0]
    have EE := hid e1
    clear h0 hcr e1
    go_wp2_with fail
    go_ret
    exact RPost.of EE.out rfl (RRes.same H1.out AS.out.nf C1.out)
set_option maxRecDepth 100000 in
theorem rsetFuse_in (L : RL) (M : FsM) (n : Int) (w : World) (h : RefAt w L M) : Calls Try.prog 64 #[ptrV L.rb, .int .i64 n] w (RPost L M.nf w (.tuple #[]) (M.setFuse n)) := by
  have H := hid h
  obtain ⟨c0, c1, c2, c3, c4, c5, c6, c7, c8, c9, ff⟩ := rf_cells h.row
  have dd : decide (0 ≤ (M.setFuse n).fuse) = decide (0 ≤ n) := by
    show decide (0 ≤ (if n < -1 then -1 else n)) = _
    by_cases h1 : n < -1
    · rw [if_pos h1, decide_eq_false (by omega), decide_eq_false (by omega)]
    · rw [if_neg h1]
  have df : 0 ≤ (M.setFuse n).fuse → n = (M.setFuse n).fuse := fun h2 => by
    show n = (if n < -1 then -1 else n)
    have h3 : 0 ≤ (if n < -1 then -1 else n) := h2
    by_cases h1 : n < -1
    · rw [if_pos h1] at h3; omega
    · rw [if_neg h1]
  have DD := hid dd
  have DF := hid df
  clear h dd df c0 c1 c2 c3 c4 c7 c8 c9
  go_enter Try.func64, Try.ntmps64
  go_wp2_with fail
  go_end0
  have hc : Ch (fun k => k = L.rb) w ((w.setCell ⟨L.rb, 5, none⟩ (.bool (decide (0 ≤ n)))).setCell ⟨L.rb, 6, none⟩ (.int .i64 n)) := ((ch0 L.rb w).setC rfl).setC rfl
  have hs := box_two H.out 5 6 (.bool (decide (0 ≤ n))) (.int .i64 n)
  exact ⟨rfl, RRes.same (H.out.head (M' := M.setFuse n) n L.fa hc (hs.trans (by unfold rfC; simp only; rw [DD.out]; rfl)) rfl rfl rfl rfl rfl DF.out H.out.fa) rfl hc⟩
set_option maxRecDepth 100000 in
theorem rsetFail_in (L : RL) (M : FsM) (n : Int) (w : World) (h : RefAt w L M) : Calls Try.prog 65 #[ptrV L.rb, .int .i64 n] w (RPost L M.nf w (.tuple #[]) (M.setFail n)) := by
  have H := hid h
  obtain ⟨c0, c1, c2, c3, c4, c5, c6, c7, c8, c9, ff⟩ := rf_cells h.row
  have dd : decide (0 ≤ (M.setFail n).fail) = decide (0 ≤ n) := by
    show decide (0 ≤ (if n < -1 then -1 else n)) = _
    by_cases h1 : n < -1
    · rw [if_pos h1, decide_eq_false (by omega), decide_eq_false (by omega)]
    · rw [if_neg h1]
  have df : 0 ≤ (M.setFail n).fail → n = (M.setFail n).fail := fun h2 => by
    show n = (if n < -1 then -1 else n)
    have h3 : 0 ≤ (if n < -1 then -1 else n) := h2
    by_cases h1 : n < -1
    · rw [if_pos h1] at h3; omega
    · rw [if_neg h1]
  have DD := hid dd
  have DF := hid df
  clear h dd df c0 c1 c2 c3 c4 c5 c6 c9
  go_enter Try.func65, Try.ntmps65
  go_wp2_with fail
  go_end0
  have hc : Ch (fun k => k = L.rb) w ((w.setCell ⟨L.rb, 7, none⟩ (.bool (decide (0 ≤ n)))).setCell ⟨L.rb, 8, none⟩ (.int .i64 n)) := ((ch0 L.rb w).setC rfl).setC rfl
  have hs := box_two H.out 7 8 (.bool (decide (0 ≤ n))) (.int .i64 n)
  exact ⟨rfl, RRes.same (H.out.head (M' := M.setFail n) L.fu n hc (hs.trans (by unfold rfC; simp only; rw [DD.out]; rfl)) rfl rfl rfl rfl rfl H.out.fu DF.out) rfl hc⟩
end Go.Proofs.Ytjekfifnhdoamaa
