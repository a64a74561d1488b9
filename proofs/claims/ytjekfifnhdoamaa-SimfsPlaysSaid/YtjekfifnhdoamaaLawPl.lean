/- The walk of the law SimfsPlays. -/
import Derived.Test.YtjekfifnhdoamaaLawSf
import Derived.Test.YtjekfifnhdoamaaRfC
import Derived.Test.YtjekfifnhdoamaaRfD
import Derived.Test.YtjekfifnhdoamaaOpenFc
import Derived.Deep.CutBlock
import Derived.Deep.CutRange
set_option linter.unusedSimpArgs false
set_option linter.unusedVariables false
set_option linter.unnecessarySimpa false
namespace Go.Proofs.Ytjekfifnhdoamaa
open Go.RowKit Go.Rg Go.St

instance : Inhabited FCall := ⟨⟨0, ByteArray.empty, ByteArray.empty, .slice none 0 0, 0, .slice none 0 0⟩⟩
def GoodC (w0 : World) (c : FCall) : Prop := ∃ ab zb ap zp, ∃ (lb : List UInt8) (lp : List Int), c.b = .slice ab lb.length zb ∧ c.picks = .slice ap lp.length zp ∧ GoodF w0 c.name c.to_ c.b c.n c.picks lb lp
theorem asked_all (w0 w : World) (p q : Nat) (M : FsM) (F : Nat → Prop) (c : FCall) (hD : Duo w0 w p q M M F) (hG : GoodC w0 c) (ok : M.Ok ∧ SinceOk M) (ho : M.ops < OpsMax) :
    Calls Try.prog 38 #[.pointer (some ⟨p, 0, none⟩), .pointer (some ⟨q, 0, none⟩), .agg (eFCall c).toArray] w (AskedP w0 w p q M F) := by
  obtain ⟨kd, nm, nt, vb, nn, vp⟩ := c
  obtain ⟨ab, zb, ap, zp, lb, lp, h1, h2, hG⟩ := hG
  simp only at h1 h2 hG
  subst h1 h2
  by_cases hk : 1 ≤ kd ∧ kd ≤ 11
  · rcases (show kd = 1 ∨ kd = 2 ∨ kd = 3 ∨ kd = 4 ∨ kd = 5 ∨ kd = 6 ∨ kd = 7 ∨ kd = 8 ∨ kd = 9 ∨ kd = 10 ∨ kd = 11 by omega) with rfl | rfl | rfl | rfl | rfl | rfl | rfl | rfl | rfl | rfl | rfl
    · exact asked1_in w0 w p q M F nm nt nn ab ap zb zp lb lp hD hG ok ho
    · exact asked2_in w0 w p q M F nm nt nn ab ap zb zp lb lp hD hG ok ho
    · exact asked3_in w0 w p q M F nm nt nn ab ap zb zp lb lp hD hG ok ho
    · exact asked4_in w0 w p q M F nm nt nn ab ap zb zp lb lp hD hG ok ho
    · exact asked5_in w0 w p q M F nm nt nn ab ap zb zp lb lp hD hG ok ho
    · exact asked6_in w0 w p q M F nm nt nn ab ap zb zp lb lp hD hG ok ho
    · exact asked7_in w0 w p q M F nm nt nn ab ap zb zp lb lp hD hG ok ho
    · exact asked8_in w0 w p q M F nm nt nn ab ap zb zp lb lp hD hG ok ho
    · exact asked9_in w0 w p q M F nm nt nn ab ap zb zp lb lp hD hG ok ho
    · exact asked10_in w0 w p q M F nm nt nn ab ap zb zp lb lp hD hG ok ho
    · exact asked11_in w0 w p q M F nm nt nn ab ap zb zp lb lp hD hG ok ho
  · exact askedX_in kd (fun j h1 h2 e => hk (by omega)) w0 w p q M F nm nt nn ab ap zb zp lb lp hD hG ok ho
set_option maxRecDepth 100000 in
set_option maxHeartbeats 1000000 in
theorem rnew_in (q : Int) (w : World) : Calls Try.prog 37 #[.int .i64 q] w (fun e w' => (q < 0 ∨ 1048576 < q) ∧ e = .returned (.tuple #[.pointer none, .int .i64 1]) ∧ w = w' ∨
    ∃ (R : RL) (k : Nat), q = k ∧ k ≤ 1048576 ∧ e = .returned (.tuple #[ptrV R.rb, .int .i64 0]) ∧ RefAt w' R (FsM.new k) ∧ Ext w w' ∧ ∀ b, RFoot R 0 b → w.heap.size ≤ b) := by
  by_cases h1 : q < 0
  · have d1 : decide (q < 0) = true := decide_eq_true h1
    have H1 := hid h1
    clear h1
    go_enter Try.func37, Try.ntmps37
    go_wp2_with fail
    go_ret2
    exact .inl ⟨.inl H1.out, rfl, rfl⟩
  · have d1 : decide (q < 0) = false := decide_eq_false h1
    by_cases h2 : 1048576 < q
    · have d2 : decide ((1048576 : Int) < q) = true := decide_eq_true h2
      have H2 := hid h2
      clear h1 h2
      go_enter Try.func37, Try.ntmps37
      go_wp2_with fail
      go_ret2
      exact .inl ⟨.inr H2.out, rfl, rfl⟩
    · have d2 : decide ((1048576 : Int) < q) = false := decide_eq_false h2
      obtain ⟨k, rfl⟩ : ∃ k : Nat, q = k := ⟨q.toNat, by omega⟩
      have HK := hid (show k ≤ 1048576 by omega)
      clear h1 h2
      go_enter Try.func37, Try.ntmps37
      go_wp2_with fail
      go_ret2
      refine .inr ⟨⟨w.heap.size, .slice none 0 0, .slice none 0 0, .slice none 0 0, .slice none 0 0, fun _ => .slice none 0 0, 0, 0⟩, k, rfl, HK.out, rfl, ⟨(heap_alloc_new w _).trans rfl, World.ownsRow_nil _ _ _ _, fun i hi => absurd hi (Nat.not_lt_zero _), World.ownsRow_nil _ _ _ _, World.ownsRow_nil _ _ _ _, World.ownsRow_nil _ _ _ _, fun h => absurd h (by show ¬ ((0 : Int) ≤ -1); decide), fun h => absurd h (by show ¬ ((0 : Int) ≤ -1); decide)⟩, (Ext.rfl w).al _, fun b hb => ?_⟩
      rcases hb with rfl | hb | hb | hb | hb | ⟨i, hi, hb⟩
      · exact Nat.le_refl _
      · cases hb
      · cases hb
      · cases hb
      · cases hb
      · cases hb
theorem slS_takeF {α : Type} [Inhabited α] {w : World} {a : Option Addr} {m cap sz : Nat} {enc : α → List Value} {xs : List α} (h : SlS w (.slice a m cap) sz enc xs) (n : Nat) (hn : n ≤ xs.length) : SlS w (.slice a n cap) sz enc (xs.take n) := by
  obtain ⟨a', cap', e, h0, h1, h2⟩ := h.ex
  simp only [Value.slice.injEq] at e
  obtain ⟨rfl, rfl, rfl⟩ := e
  have hl : (xs.take n).length = n := by rw [List.length_take]; omega
  refine ⟨a, cap, by rw [hl], by omega, h1, fun hp => ?_⟩
  rw [hl] at hp
  obtain ⟨b, off, e, hc⟩ := h2 (by omega)
  refine ⟨b, off, e, fun i hi j hj => ?_⟩
  rw [hl] at hi
  rw [hc i (by omega) j hj]
  unfold nth
  rw [List.getD_eq_getElem?_getD, List.getD_eq_getElem?_getD, List.getElem?_take, if_pos hi]
theorem fcall_at {w : World} {b off k : Nat} {l : List FCall} (hc : ∀ j, j < 6 → w.cell? ⟨b, off + k * 6 + j, none⟩ = (eFCall (nth l k))[j]?) :
    w.cell? ⟨b, off + k * 6, none⟩ = some (.int .i64 (nth l k).kind) ∧ w.cell? ⟨b, off + k * 6 + 1, none⟩ = some (.string (nth l k).name) ∧ w.cell? ⟨b, off + k * 6 + 2, none⟩ = some (.string (nth l k).to_) ∧ w.cell? ⟨b, off + k * 6 + 3, none⟩ = some (nth l k).b ∧ w.cell? ⟨b, off + k * 6 + 4, none⟩ = some (.int .i64 (nth l k).n) ∧ w.cell? ⟨b, off + k * 6 + 5, none⟩ = some (nth l k).picks :=
  ⟨hc 0 (by omega), hc 1 (by omega), hc 2 (by omega), hc 3 (by omega), hc 4 (by omega), hc 5 (by omega)⟩
theorem duo_new {w0 w2 w3 : World} {L : FL} {R : RL} {k : Nat} (hk : k ≤ 1048576) (h1 : FsAt w2 L (FsM.new k)) (e02 : Ext w0 w2) (f1 : ∀ b, FsFoot L b → w0.heap.size ≤ b) (h2 : RefAt w3 R (FsM.new k)) (e23 : Ext w2 w3) (f2 : ∀ b, RFoot R 0 b → w2.heap.size ≤ b) : ∃ F, Duo w0 w3 L.fb R.rb (FsM.new k) (FsM.new k) F :=
  ⟨fun k => FsFoot L k ∨ RFoot R 0 k, L, R, rfl, rfl, h1.ext e23, h2, fsNew_ok hk, fsNew_ok hk, (fun c hc => by cases hc), e02.tr e23, (fun k => Iff.rfl), (fun k hk hr => by
    have a := h1.foot_lt hk
    have b := f2 k hr
    omega), (fun k hk => hk.elim (f1 k) fun h => Nat.le_trans e02.size (f2 k h))⟩
theorem duo_two {w0 wr w5 w6 : World} {L : FL} {R : RL} {M : FsM} (ok : M.Ok ∧ SinceOk M) (e0 : Ext w0 wr) (h1 : FsAt w5 L M) (e5 : Ext wr w5) (f1 : ∀ b, FsFoot L b → wr.heap.size ≤ b) (h2 : RefAt w6 R M) (e6 : Ext w5 w6) (f2 : ∀ b, RFoot R M.nf b → w5.heap.size ≤ b) : ∃ G, Duo w0 w6 L.fb R.rb M M G ∧ ∀ k, G k → wr.heap.size ≤ k :=
  ⟨fun k => FsFoot L k ∨ RFoot R M.nf k, ⟨L, R, rfl, rfl, h1.ext e6, h2, ok.1, ok.1, ok.2, (e0.tr e5).tr e6, (fun k => Iff.rfl), (fun k hk hr => by
    have a := h1.foot_lt hk
    have b := f2 k hr
    omega), (fun k hk => hk.elim (fun h => Nat.le_trans e0.size (f1 k h)) fun h => Nat.le_trans (e0.tr e5).size (f2 k h))⟩, fun k hk => hk.elim (f1 k) fun h => Nat.le_trans e5.size (f2 k h)⟩
theorem Duo.oks {w0 w : World} {p q : Nat} {M : FsM} {F : Nat → Prop} (h : Duo w0 w p q M M F) : M.Ok ∧ SinceOk M := by
  obtain ⟨L, R, _, _, _, _, h1, _, h2, _⟩ := h
  exact ⟨h1, h2⟩
set_option maxRecDepth 100000 in
set_option maxHeartbeats 8000000 in
theorem simfsPlays_walk (q0 : Int) (v1 v2 : Value) (l1 l2 : List FCall) (w : World) (h1 : SlS w v1 6 eFCall l1) (h2 : SlS w v2 6 eFCall l2) (g1 : ∀ c, c ∈ l1 → GoodC w c) (g2 : ∀ c, c ∈ l2 → GoodC w c) :
    Calls Try.prog 11 #[.int .i64 q0, v1, v2] w (TrueExt w) := by
  have H1 := hid h1
  have H2 := hid h2
  have G1 := hid g1
  have G2 := hid g2
  obtain ⟨a1, c1, rfl, _, hm1, _⟩ := h1.ex
  obtain ⟨a2, c2, rfl, _, hm2, _⟩ := h2.ex
  unfold maxLen at hm1 hm2
  clear h1 h2 g1 g2
  go_enter Try.func11, Try.ntmps11
  go_wp2_with fail
  refine (awake04 w).mono ?_
  rintro e w1 ⟨rfl, he1⟩
  have E1 := hid he1
  clear he1
  go_upto_if 24 with fail
  go_cut [1] from 22 to 26 (fun v wx => wx = w1 ∧ ∃ l : List FCall, l.length ≤ 200 ∧ (∀ x, x ∈ l → GoodC w x) ∧ SlS w v 6 eFCall l)
  case first =>
    by_cases hlt : 200 < l1.length
    · have hd : decide ((200 : Int) < (l1.length : Int)) = true := decide_eq_true (by omega)
      go_wp2_with fail
      go_meet
      case rel => exact ⟨rfl, l1.take 200, by rw [List.length_take]; omega, fun x hx => G1.out x (List.mem_of_mem_take hx), slS_takeF H1.out 200 (Nat.le_of_lt hlt)⟩
    · have hd : decide ((200 : Int) < (l1.length : Int)) = false := decide_eq_false (by omega)
      go_wp2_with fail
      go_meet
      case rel => exact ⟨rfl, l1, by omega, G1.out, H1.out⟩
  case rest =>
    obtain ⟨rfl, s1, hl1, ok1, hs1⟩ := hcut
    clear H1 G1 hm1
    obtain ⟨a1, c1, rfl, _, hm1, _⟩ := hs1.ex
    have HL1 := hid hl1
    have S1 := hid hs1
    have K1 := hid ok1
    clear hs1 ok1 hl1
    generalize wc = wA at *
    go_upto_if 29 with fail
    go_cut [2] from 27 to 31 (fun v wx => wx = wA ∧ ∃ l : List FCall, l.length ≤ 50 ∧ (∀ x, x ∈ l → GoodC w x) ∧ SlS w v 6 eFCall l)
    case first =>
      by_cases hlt : 50 < l2.length
      · have hd : decide ((50 : Int) < (l2.length : Int)) = true := decide_eq_true (by omega)
        go_wp2_with fail
        go_meet
        case rel => exact ⟨rfl, l2.take 50, by rw [List.length_take]; omega, fun x hx => G2.out x (List.mem_of_mem_take hx), slS_takeF H2.out 50 (Nat.le_of_lt hlt)⟩
      · have hd : decide ((50 : Int) < (l2.length : Int)) = false := decide_eq_false (by omega)
        go_wp2_with fail
        go_meet
        case rel => exact ⟨rfl, l2, by omega, G2.out, H2.out⟩
    case rest =>
      obtain ⟨rfl, s2, hl2, ok2, hs2⟩ := hcut
      clear H2 G2 hm2
      obtain ⟨a2, c2, rfl, _, hm2, _⟩ := hs2.ex
      have HL2 := hid hl2
      have S2 := hid hs2
      have K2 := hid ok2
      clear hs2 ok2 hl2
      generalize wc = wB at *
      go_wp2_with fail
      refine (fsnew_in q0 wB).mono ?_
      rintro e w2 (⟨hbad, rfl, hw⟩ | ⟨L, k, rfl, hk, rfl, hf, he, ff⟩)
      · subst hw
        go_wp2_with fail
        refine (rnew_in q0 wB).mono ?_
        rintro e w3 (⟨hbad2, rfl, hw⟩ | ⟨R, k, rfl, hk, _⟩)
        · subst hw
          go_wp2_with fail
          go_ret
          exact ⟨rfl, E1.out⟩
        · exfalso
          omega
      · have HF := hid hf
        have HFF := hid ff
        have E2 := hid (E1.out.tr he)
        have EB := hid he
        clear hf ff he
        go_wp2_with fail
        refine (rnew_in (k : Int) w2).mono ?_
        rintro e w3 (⟨hbad2, rfl, hw⟩ | ⟨R, k2, hkk, hk2, rfl, hr, he, fr⟩)
        · exfalso
          omega
        · obtain rfl : k = k2 := by omega
          obtain ⟨F, hD⟩ := duo_new hk HF.out E2.out (fun b hb => Nat.le_trans E1.out.size (HFF.out b hb)) hr he fr
          have D3 := hid hD
          have OP := hid (show (FsM.new k).ops ≤ 0 from Nat.le_refl _)
          clear hD hr he fr HF HFF EB hkk
          generalize FsM.new k = M0 at *
          generalize L.fb = p at *
          generalize R.rb = q at *
          go_wp2_with fail
          go_loopw [12] (fun u wr => ∃ (i : Nat) (M : FsM) (F : Nat → Prop), i ≤ s1.length ∧ u = .int .i64 i ∧ M.ops ≤ i ∧ Duo w wr p q M M F) (fun u _ => s1.length - (intOf u).toNat)
          case atStart => exact ⟨0, M0, F, Nat.zero_le _, rfl, OP.out, D3.out⟩
          case round =>
            clear D3 OP
            obtain ⟨i, M, F, hi, rfl, hop, hD⟩ := hrel
            have D := hid hD
            have OP := hid hop
            clear hD hop
            by_cases hlt : i < s1.length
            · obtain ⟨ag, cg, e3, _, _, hcell0⟩ := S1.out.ex
              simp only [Value.slice.injEq] at e3
              obtain ⟨rfl, _, rfl⟩ := e3
              obtain ⟨b, off, rfl, hcell⟩ := hcell0 (by omega)
              obtain ⟨k0, k1, k2, k3, k4, k5⟩ := fcall_at (w := wr) (fun j hj => ext_cellq D.out.xt (hcell i hlt j hj) hj rfl)
              have HGC := hid (K1.out _ (nth_mem s1 i hlt))
              have hl200 := HL1.out
              clear hcell0 hcell
              obtain ⟨ab, zb, ap, zp, lb, lp, e1, e2, _⟩ := id HGC.out
              rw [e1] at k3
              rw [e2] at k5
              have hask := asked_all w wr p q M F (nth s1 i) D.out HGC.out D.out.oks (by have h1 := OP.out; have h2 := HL1.out; unfold OpsMax; omega)
              unfold eFCall at hask
              rw [e1, e2] at hask
              generalize (nth s1 i).name = nm at *
              generalize (nth s1 i).to_ = nt at *
              generalize (nth s1 i).kind = kd at *
              generalize (nth s1 i).n = nn at *
              clear e1 e2
              go_wp2_with fail
              refine hask.mono ?_
              rintro e w5 ⟨rfl, M', ho', F', hd', _, _⟩
              have D5 := hid hd'
              have OP5 := hid ho'
              clear hask hd' ho' k0 k1 k2 k3 k4 k5
              go_wp2_with fail
              refine (alike_in w w5 p q M' F' D5.out (by have h1 := OP.out; have h2 := OP5.out; have h3 := HL1.out; unfold OpsMax; omega)).mono ?_
              rintro e w6 ⟨rfl, he6⟩
              have D6 := hid (D5.out.ext he6)
              clear he6
              go_wp2_with fail
              go_roundw
              case rel => exact ⟨i + 1, M', F', hlt, by go_num, by have h1 := OP.out; have h2 := OP5.out; omega, D6.out⟩
              case measure => simp [intOf]; omega
            · have hie : i = s1.length := by omega
              subst hie
              have hops := hid (show M.ops ≤ 200 from Nat.le_trans OP.out HL1.out)
              have hops2 := hid (show M.ops ≤ OpsMax from Nat.le_trans hops.out (by unfold OpsMax; omega))
              obtain ⟨L, R, rfl, rfl, f1, f2, -, -, -, -, -, -, -⟩ := id D.out
              have F2 := hid f2
              go_wp2_with fail
              refine (fsCopy_in L M wr f1 D.out.oks.1 hops2.out).mono ?_
              rintro e w5 ⟨L2, rfl, x1, x2, x3⟩
              have X1 := hid x1
              have X2 := hid x2
              have X3 := hid x3
              clear x1 x2 x3 f1 f2
              go_wp2_with fail
              refine (rcopy_in R M w5 (F2.out.ext X2.out) D.out.oks.1 hops2.out).mono ?_
              rintro e w6 ⟨R2, rfl, y1, y2, y3⟩
              obtain ⟨G, hG, hGf⟩ := duo_two D.out.oks D.out.xt X1.out X2.out X3.out y1 y2 y3
              have D6 := hid hG
              have A6 := hid (D.out.ext (X2.out.tr y2))
              have DJ := hid (show ∀ k, F k → ¬ G k from fun k hk hg => Nat.not_le_of_lt (D.out.lt k hk) (hGf k hg))
              clear y1 y2 y3 hG hGf X1 X2 X3 F2 D
              generalize wr = wP at *
              generalize L.fb = p at *
              generalize R.rb = q at *
              generalize L2.fb = pc at *
              generalize R2.rb = qc at *
              go_wp2_with fail
              go_loopw [17] (fun u wr => ∃ (i : Nat) (N : FsM) (G : Nat → Prop), i ≤ s2.length ∧ u = .int .i64 i ∧ N.ops ≤ 200 + i ∧ Duo w wr pc qc N N G ∧ Duo w wr p q M M F ∧ ∀ k, F k → ¬ G k) (fun u _ => s2.length - (intOf u).toNat)
              case atStart => exact ⟨0, M, G, Nat.zero_le _, rfl, hops.out, D6.out, A6.out, DJ.out⟩
              case round =>
                clear D6 A6 DJ
                obtain ⟨i, N, G, hi, rfl, hop, hD, hA, hJ⟩ := hrel
                have D := hid hD
                have A := hid hA
                have J := hid hJ
                have OP := hid hop
                clear hD hA hJ hop
                by_cases hlt : i < s2.length
                · obtain ⟨ag, cg, e3, _, _, hcell0⟩ := S2.out.ex
                  simp only [Value.slice.injEq] at e3
                  obtain ⟨rfl, _, rfl⟩ := e3
                  obtain ⟨b, off, rfl, hcell⟩ := hcell0 (by omega)
                  obtain ⟨k0, k1, k2, k3, k4, k5⟩ := fcall_at (w := wr) (fun j hj => ext_cellq D.out.xt (hcell i hlt j hj) hj rfl)
                  have HGC := hid (K2.out _ (nth_mem s2 i hlt))
                  have hl50 := HL2.out
                  clear hcell0 hcell
                  obtain ⟨ab, zb, ap, zp, lb, lp, e1, e2, _⟩ := id HGC.out
                  rw [e1] at k3
                  rw [e2] at k5
                  have hask := asked_all w wr pc qc N G (nth s2 i) D.out HGC.out D.out.oks (by have h1 := OP.out; have h2 := HL2.out; unfold OpsMax; omega)
                  unfold eFCall at hask
                  rw [e1, e2] at hask
                  generalize (nth s2 i).name = nm at *
                  generalize (nth s2 i).to_ = nt at *
                  generalize (nth s2 i).kind = kd at *
                  generalize (nth s2 i).n = nn at *
                  clear e1 e2
                  go_wp2_with fail
                  refine hask.mono ?_
                  rintro e w5 ⟨rfl, N', ho', G', hd', hc', hf'⟩
                  have D5 := hid hd'
                  have OP5 := hid ho'
                  have A5 := hid (A.out.ch hc' J.out D.out.lo)
                  have J5 := hid (show ∀ k, F k → ¬ G' k from fun k hk hg => (hf' k hg).elim (J.out k hk) fun h => Nat.not_le_of_lt (A.out.lt k hk) h)
                  clear hask hd' ho' hc' hf' k0 k1 k2 k3 k4 k5
                  go_wp2_with fail
                  go_roundw
                  case rel => exact ⟨i + 1, N', G', hlt, by go_num, by have h1 := OP.out; have h2 := OP5.out; omega, D5.out, A5.out, J5.out⟩
                  case measure => simp [intOf]; omega
                · have hie : i = s2.length := by omega
                  subst hie
                  go_wp2_with fail
                  refine (alike_in w wr pc qc N G D.out (by have h1 := OP.out; have h2 := HL2.out; unfold OpsMax; omega)).mono ?_
                  rintro e w5 ⟨rfl, he5⟩
                  have A5 := hid (A.out.ext he5)
                  clear he5
                  go_wp2_with fail
                  refine (alike_in w w5 p q M F A5.out hops2.out).mono ?_
                  rintro e w6 ⟨rfl, he6⟩
                  have E6 := hid (A5.out.xt.tr he6)
                  clear he6
                  go_wp2_with fail
                  go_ret
                  exact ⟨rfl, E6.out⟩
end Go.Proofs.Ytjekfifnhdoamaa
