/- The document's files: Append. -/
import Derived.Test.YtjekfifnhdoamaaRf6
set_option linter.unusedSimpArgs false
set_option linter.unusedVariables false
set_option linter.unnecessarySimpa false
namespace Go.Proofs.Ytjekfifnhdoamaa
open Go.RowKit Go.Rg Go.St

theorem step_bytes {ops : Array Oper} {o : Oper} {a : Act} {w : World} {K : Act → World → Prop} {Q : Exit → Act → World → Prop} {C : Prop}
    (hg : o.guard = none) (s x : Operand) (hop : o.op = Op.call { callee := Callee.builtin Builtin.append, args := #[s, x], argTypes := #[53, 53] })
    {v vb : Value} {xs bs : List UInt8} (hs : a.eval s = v) (hx : a.eval x = vb) (hown : w.ownsRow 0 5 1 v xs.length (Lib.byteCells xs)) (hb : SlB w vb bs) (hl : xs.length + bs.length ≤ 140737488355328)
    (hK : ∀ v' w', AppP w w' 5 1 v v' (xs ++ bs).length (Lib.byteCells (xs ++ bs)) → K (a.put o.dst v') w') :
    if Region.wanted o (yielded ops a.tmps) = true then Oper.wp Try.prog o a w K Q else C := by
  have hw : Region.wanted o (yielded ops a.tmps) = true := by simp [Region.wanted, hg]
  rw [if_pos hw]
  obtain ⟨v', w', hrun, hp⟩ := app_bytes hown hb hl o.type
  unfold Oper.wp
  simp [execOp, hop, resolve, invoke, builtin, hs, hx, Result.andThen]
  rw [hrun]
  exact hK _ _ hp
theorem step_bytes0 {ops : Array Oper} {o : Oper} {a : Act} {w : World} {K : Act → World → Prop} {Q : Exit → Act → World → Prop} {C : Prop}
    (hg : o.guard = none) (s x : Operand) (hop : o.op = Op.call { callee := Callee.builtin Builtin.append, args := #[s, x], argTypes := #[53, 53] })
    {v vb : Value} {bs : List UInt8} (hs : a.eval s = v) (hx : a.eval x = vb) (hown : w.ownsRow 0 5 1 v 0 []) (hb : SlB w vb bs) (hl : bs.length ≤ 140737488355328)
    (hK : ∀ v' w', AppP w w' 5 1 v v' bs.length (Lib.byteCells bs) → K (a.put o.dst v') w') :
    if Region.wanted o (yielded ops a.tmps) = true then Oper.wp Try.prog o a w K Q else C :=
  step_bytes hg s x hop (xs := []) hs hx hown hb (by simpa using hl) hK
/-- rows behind an append to one of the call's own -/
theorem app_ext {w wx w' : World} {E : TypeId} {sz n : Nat} {v v' : Value} {xs : List Value} (he : Ext w wx) (hp : AppP wx w' E sz v v' n xs) (hv : ∀ k, v.ownBlock = some k → w.heap.size ≤ k) : Ext w w' ∧ ∀ k, v'.ownBlock = some k → w.heap.size ≤ k :=
  ⟨((Ch.of_ext he).tr hp.ch).ext fun k hk hf => by have := hv k hf; omega, fun k hk => (hp.blk k hk).elim (hv k) fun e => by have := he.size; omega⟩
theorem owns_up {w : World} {B : Nat} {e : TypeId} {sz : Nat} {v : Value} {n : Nat} {xs : List Value} (h : w.ownsRow 0 e sz v n xs) (hv : ∀ k, v.ownBlock = some k → B ≤ k) : w.ownsRow B e sz v n xs := by
  refine ⟨h.1, ?_⟩
  rcases h.2 with h0 | ⟨g, cap, cur, rfl, _, rest⟩
  · exact .inl h0
  · exact .inr ⟨g, cap, cur, rfl, hv g rfl, rest⟩
theorem own_new0 (w : World) (T : TypeId) (sz : Nat) : (w.alloc (.cells #[] T)).ownsRow 0 T sz (.slice (some ⟨w.heap.size, 0, none⟩) 0 0) 0 [] :=
  ⟨by simp, .inr ⟨_, 0, _, rfl, Nat.zero_le _, heap_alloc_new w _, Nat.le_refl _, Nat.zero_le _, by simp, by simp⟩⟩
def sumL (M : FsM) (l : Nm) : Nat := (l.map fun p => (M.files p.2).b.length).sum
theorem sumL_succ (M : FsM) (l : Nm) (k : Nat) (h : k < l.length) : sumL M (l.take (k + 1)) = sumL M (l.take k) + (M.files (nth l k).2).b.length := by
  unfold sumL
  rw [take_succ_nth l k h, List.map_append, List.sum_append]
  simp
theorem sumL_le {M : FsM} (ok : M.Ok) (l : Nm) : sumL M l ≤ l.length * 1048576 := by
  unfold sumL
  induction l with
  | nil => simp
  | cons p l ih =>
    rw [List.map_cons, List.sum_cons, List.length_cons]
    have := (ok.fl p.2).2
    omega
set_option maxRecDepth 100000 in
set_option maxHeartbeats 4000000 in
theorem rappend_in (L : RL) (M : FsM) (n : ByteArray) (vb : Value) (bs : List UInt8) (w : World) (h : RefAt w L M) (ok : M.Ok) (ho : M.ops < OpsMax) (hs : SlB w vb bs) (hb : bs.length ≤ 140737488355328) :
    Calls Try.prog 58 #[ptrV L.rb, .string n, vb] w (RPost L M.nf w (.int .i64 (M.append n bs).1) (M.append n bs).2) := by
  have AO := hid (ask_ok ok)
  have AS := hid (ask_asked M)
  have ON := hid (ok_names ok ho)
  have hcr : Hid (M.append n bs = if M.ask.1 ≠ 0 then M.ask else
    match fndN M.ask.2.names n with
    | none => (42, M.ask.2)
    | some i => if M.ask.2.quota < bs.length + M.ask.2.total then (43, M.ask.2) else (0, { M.ask.2 with files := updF M.ask.2.files i ⟨(M.ask.2.files i).b ++ bs, (M.ask.2.files i).last⟩ })) := hid (by rw [AS.out.files, AS.out.quota]; rfl)
  have HS0 := hid (fun w' hc => hs.rbox (w' := w') h hc)
  have HB := hid hb
  obtain ⟨av, cv, rfl, _⟩ := hs.ex
  clear hs hb
  go_enter Try.func58, Try.ntmps58
  go_wp2_with fail
  refine (rask_in L M w h ok ho).mono ?_
  rintro e w1 ⟨rfl, ⟨f, g, h1⟩, hc1⟩
  have H1 := hid h1
  have C1 := hid hc1
  have S1 := hid (HS0.out w1 hc1)
  clear h1 hc1 h ok ho HS0
  by_cases h0 : M.ask.1 = 0
  · have d0 : (M.ask.1 != 0) = false := by simp [h0]
    have H0 := hid h0
    obtain ⟨-, k1, -⟩ := rfc H1.out L.rb rfl
    clear h0
    go_wp2_with fail
    refine (rfind_in _ M.ask.2.names n w1 H1.out.nam.sl).mono ?_
    rintro e w2 ⟨rfl, ⟨hn, rfl⟩ | ⟨i, hi, hn, hni, rfl⟩⟩
    · have e1 : M.append n bs = (42, M.ask.2) := by rw [hcr.out, if_neg (fun h => h H0.out), hn]
      have EE := hid e1
      clear hcr e1 hn
      go_wp2_with fail
      go_ret
      exact RPost.of EE.out rfl (RRes.same H1.out AS.out.nf C1.out)
    · have hcr2 : Hid (M.append n bs = if M.ask.2.quota < bs.length + M.ask.2.total then (43, M.ask.2) else (0, { M.ask.2 with files := updF M.ask.2.files (nth M.ask.2.names i).2 ⟨(M.ask.2.files (nth M.ask.2.names i).2).b ++ bs, (M.ask.2.files (nth M.ask.2.names i).2).last⟩ })) := hid (by rw [hcr.out, if_neg (fun h => h H0.out), hn])
      have hi0 : ¬ ((i : Int) < 0) := by omega
      have HI := hid hi
      have NF := hid AS.out.nf
      clear hcr hn hni k1 AS hi
      generalize M.ask.2 = M2 at *
      go_wp2_with fail
      go_loopw [9, 10] (fun s u wr => ∃ k T : Nat, k ≤ M2.names.length ∧ u = .int .i64 k ∧ s = .int .i64 T ∧ T = bs.length + sumL M2 (M2.names.take k) ∧ Ext w1 wr) (fun _ u _ => M2.names.length - (intOf u).toNat)
      case atStart => exact ⟨0, bs.length, Nat.zero_le _, rfl, rfl, by simp [sumL], Ext.rfl _⟩
      case round =>
        obtain ⟨k, T, hk, rfl, rfl, hT, he⟩ := hrel
        have E := hid he
        have HT := hid hT
        have hTb : T ≤ 2000000000000000000 := by
          have h1 := sumL_le AO.out (M2.names.take k)
          have h2 := ON.out.1
          have h3 := HB.out
          rw [List.length_take] at h1
          unfold OpsMax at h2
          have h4 : min k M2.names.length ≤ 1000000000000 := by omega
          have h5 : min k M2.names.length * 1048576 ≤ 1000000000000 * 1048576 := Nat.mul_le_mul_right _ h4
          omega
        have Hr := hid (H1.out.ext he)
        clear he hT
        by_cases hlt : k < M2.names.length
        · have hpi := (AO.out.on _ (nth_mem _ k hlt)).2
          obtain ⟨b, off, cN, bf, of, cF, aB, cB, F⟩ := Hr.out.found L.rb rfl hlt hpi
          obtain ⟨f0, f1, f2, f3, f4, f5, f6, -, -, -⟩ := id F
          have HSU := hid (sumL_succ M2 M2.names k hlt)
          have hLb : (M2.files (nth M2.names k).2).b.length ≤ 1048576 := (AO.out.fl _).2
          have hlt2 : k < M2.names.length := hlt
          have hkb : k ≤ 1000000000000 := by have h2 := ON.out.1; unfold OpsMax at h2; omega
          have hpi2 : (nth M2.names k).2 < M2.nf := hpi
          clear F
          generalize (M2.files (nth M2.names k).2).b.length = q at *
          generalize (nth M2.names k).2 = p at *
          go_wp2_with fail
          go_quiet (fail)
          go_wp2_with fail
          go_roundw
          case rel => exact ⟨k + 1, T + q, by omega, by go_num, by go_num, by rw [HSU.out, HT.out]; omega, E.out.drN _⟩
          case measure => simp [intOf]; omega
        · have hke : k = M2.names.length := by omega
          subst hke
          have HT2 := hid (show T = bs.length + M2.total by have := HT.out; rw [List.take_length] at this; exact this)
          obtain ⟨-, k1, -, -, k4, -⟩ := rfc Hr.out L.rb rfl
          have hpi := (AO.out.on _ (nth_mem _ i HI.out)).2
          obtain ⟨b, off, cN, bf, of, cF, aB, cB, F⟩ := Hr.out.found L.rb rfl HI.out hpi
          have k4' : wr.cell? ⟨L.rb, 4, none⟩ = some (.int .i64 (M2.quota : Nat)) := k4
          obtain ⟨f0, f1, f2, f3, f4, f5, f6, fc, fv, -⟩ := id F
          clear k1 k4
          by_cases hq : M2.quota < T
          · have e1 : M.append n bs = (43, M2) := by rw [hcr2.out, if_pos (by rw [← HT2.out]; exact hq)]
            have EE := hid e1
            have dq : decide ((M2.quota : Int) < (T : Int)) = true := decide_eq_true (by omega)
            clear hcr2 e1 F fc fv f0 f2 f3 f4 f5 f6
            go_wp2_with fail
            go_ret
            exact RPost.of EE.out rfl (RRes.asked ⟨{ L with fu := f, fa := g }, rfl, Hr.out, Ch.of_ext E.out, fun k hk => .inl hk⟩ NF.out C1.out)
          · have e1 : M.append n bs = (0, { M2 with files := updF M2.files (nth M2.names i).2 ⟨(M2.files (nth M2.names i).2).b ++ bs, (M2.files (nth M2.names i).2).last⟩ }) := by rw [hcr2.out, if_neg (by rw [← HT2.out]; exact hq)]
            have EE := hid e1
            have dq : decide ((M2.quota : Int) < (T : Int)) = false := decide_eq_false (by omega)
            have dq2 : ¬ M2.quota < T := hq
            clear hcr2 e1 F
            have FX := hid (fun w' (hx : Ext wr w') => And.intro (ext_cell hx f0) (And.intro (ext_cell hx f4) (fc.ext hx).f))
            have SBF := hid (fun w' (hx : Ext wr w') => SlB.go (show SlB wr (.slice aB (M2.files (nth M2.names i).2).b.length cB) (M2.files (nth M2.names i).2).b by rw [← fv]; exact owns_slB (Hr.out.byt _ hpi)) hx)
            have SBB := hid (fun w' (hx : Ext wr w') => S1.out.go (E.out.tr hx))
            have FC := hid fc
            have HPI := hid hpi
            have hpi2 : (nth M2.names i).2 < M2.nf := hpi
            have HFL := hid (show (M2.files (nth M2.names i).2).b.length ≤ 140737488355328 ∧ (M2.files (nth M2.names i).2).b.length + bs.length ≤ 140737488355328 by have h1 := (AO.out.fl (nth M2.names i).2).2; have h2 := HT2.out; have h3 := AO.out.q; omega)
            have FIN := hid (fun (v : Value) (w' : World) (hx : Ext wr w') (hv : w'.ownsRow wr.heap.size 5 1 v ((M2.files (nth M2.names i).2).b.length + bs.length) (Lib.byteCells ((M2.files (nth M2.names i).2).b ++ bs))) => RPost.of EE.out rfl (RRes.asked (RRes.after (RefAt.setBytes (L := { L with fu := f, fa := g }) Hr.out hpi fc hx (by rw [List.length_append]; exact hv)) rfl (Ch.of_ext E.out) fun k hk => .inl hk) NF.out C1.out))
            have hi3 : i < M2.names.length := HI.out
            have hq0 : L.rb < wr.heap.size := cell_lt f0
            have hq1 : wr.heap.size ≠ L.rb := Nat.ne_of_gt hq0
            have hq2 : bf < wr.heap.size := cell_lt f4
            have hq3 : wr.heap.size ≠ bf := Nat.ne_of_gt hq2
            clear fc fv hpi EE
            generalize (M2.files (nth M2.names i).2).b = fb at *
            generalize (nth M2.names i).2 = p at *
            go_upto_region 15 with fail
            clear k4' f1 f2 f3
            go_region_law (first | (refine step_bytes0 rfl (.tmp 73) (.tmp 81) rfl (v := .slice (some ⟨wr.heap.size, 0, none⟩) 0 0) (bs := fb) (by simp [Act.eval, Act.put]) (by simp [Act.eval, Act.put]) (own_new0 wr _ _) (SBF.out _ ((Ext.rfl wr).al _).dr) HFL.out.1 ?_; intro v4 w4 hp4; obtain ⟨a4, c4, rfl, _⟩ := slice_ofG hp4.own; have X4 := hid (app_ext ((Ext.rfl wr).al _).dr hp4 (fun k hk => by cases hk; exact Nat.le_refl _)); have HP4 := hid hp4; obtain ⟨x0, x1, xf⟩ := FX.out w4 X4.out.1; clear hp4) | (refine step_bytes0 rfl (.tmp 73) (.tmp 81) rfl (v := .slice (some ⟨wr.heap.size, 0, none⟩) 0 0) (bs := fb) (by simp [Act.eval, Act.put]) (by simp [Act.eval, Act.put]) (own_new0 wr.drew _ _) (SBF.out _ ((Ext.rfl wr).dr.al _)) HFL.out.1 ?_; intro v4 w4 hp4; obtain ⟨a4, c4, rfl, _⟩ := slice_ofG hp4.own; have X4 := hid (app_ext ((Ext.rfl wr).dr.al _) hp4 (fun k hk => by cases hk; exact Nat.le_refl _)); have HP4 := hid hp4; obtain ⟨x0, x1, xf⟩ := FX.out w4 X4.out.1; clear hp4) | (refine step_bytes rfl (.tmp 82) (.tmp 83) rfl (v := .slice a4 fb.length c4) (xs := fb) (bs := bs) (by simp [Act.eval, Act.put]) (by simp [Act.eval, Act.put]) HP4.out.own (SBB.out _ X4.out.1) HFL.out.2 ?_; intro v5 w5 hp5; obtain ⟨a5, c5, rfl, _⟩ := slice_ofG hp5.own; have X5 := hid (app_ext X4.out.1 hp5 X4.out.2); have HP5 := hid hp5; obtain ⟨y0, y1, yf⟩ := FX.out w5 X5.out.1; clear hp5) | (refine step_bytes rfl (.tmp 82) (.tmp 83) rfl (v := .slice a4 fb.length c4) (xs := fb) (bs := bs) (by simp [Act.eval, Act.put]) (by simp [Act.eval, Act.put]) HP4.out.own (SBB.out _ X4.out.1.dr) HFL.out.2 ?_; intro v5 w5 hp5; obtain ⟨a5, c5, rfl, _⟩ := slice_ofG hp5.own; have X5 := hid (app_ext X4.out.1.dr hp5 X4.out.2); have HP5 := hid hp5; obtain ⟨y0, y1, yf⟩ := FX.out w5 X5.out.1; clear hp5))
            all_goals
              go_wp2_with fail
              go_ret
              exact FIN.out _ _ X5.out.1 (by have h := owns_up HP5.out.own X5.out.2; rw [List.length_append] at h; exact h)
  · have d0 : (M.ask.1 != 0) = true := by simp [h0]
    have e1 : M.append n bs = (M.ask.1, M.ask.2) := by rw [hcr.out, if_pos h0]
    have EE := hid e1
    clear h0 hcr e1
    go_wp2_with fail
    go_ret
    exact RPost.of EE.out rfl (RRes.same H1.out AS.out.nf C1.out)
end Go.Proofs.Ytjekfifnhdoamaa
