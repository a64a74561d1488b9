/- The walk of begun, beside another list. -/
import Derived.Test.YticmnmdokoonjaaSk13
set_option linter.unusedSimpArgs false
set_option linter.unusedVariables false
set_option linter.unnecessarySimpa false
namespace Go.Proofs.Yticmnmdokoonjaa
open Go.RowKit Go.Rg Go.St

theorem KeepL.grown {Lo : Nat → Prop} {w a b : World} {row : Option Nat} (h : KeepL Lo w a) (hg : a.grownBy b row) (hr : ∀ g, row = some g → w.heap.size ≤ g) (hB : ∀ b, Lo b → b < w.heap.size) : KeepL Lo w b := by
  have key : ∀ c, c < w.heap.size → b.heap[c]? = a.heap[c]? := fun c hc => hg.block c (Nat.lt_of_lt_of_le hc h.size) (fun e => by have := hr c e.symm; omega)
  exact ⟨hg.os.trans h.os, hg.tape.trans h.tape, hg.output.trans h.output, Nat.le_trans h.size hg.size, fun c hc hcB => (key c hc).trans (h.low c hc hcB), fun c cs T fr hc hT => (key c (blk_lt hc)).trans (h.row c cs T fr hc hT)⟩
structure BegunL (Lo : Nat → Prop) (lb : Nat) (w wr : World) (K : SK) (kv hv : Value) : Prop where
  li : ListL Lo lb wr K
  ks : wr.ownsRow w.heap.size 9 1 kv K.n ((keysK K).map .string)
  hs : wr.ownsRow w.heap.size 3 1 hv K.n ((htsK K).map fun h => .int .i64 (h : Nat))
  kp : KeepL Lo w wr
  le : ∀ b, Lo b → b < w.heap.size
set_option maxHeartbeats 1000000 in
theorem begun_l2 (Lo : Nat → Prop) (lb : Nat) (w : World) (v : Value) (ps : List Put) (hB : ∀ b, Lo b → b < w.heap.size) (hl : ListL Lo lb w (SK.new 1000)) (hr : ∀ p, p ∈ ps → -9223372036854775808 ≤ p.2 ∧ p.2 ≤ 9223372036854775807)
    (hp : ∀ w', KeepL Lo w w' → SlS w' v 2 ePut ps) :
    Calls Try.prog 31 #[.pointer (some ⟨lb, 0, none⟩), v] w (fun e w' => ∃ kv hv, e = .returned (.tuple #[kv, hv, .bool true]) ∧ BegunL Lo lb w w' (begK (SK.new 1000) (ps.take 60)) kv hv) := by
  obtain ⟨a, cap, rfl, hcap, hm, _⟩ := (hp w (KeepL.rfl Lo w)).ex
  unfold maxLen at hm
  have HP := hid hp
  have HL := hid hl
  have HR := hid hr
  have HB := hid hB
  clear hp hl hr hB
  go_enter Try.func31, Try.ntmps31
  go_wp2
  go_loopw [7, 8, 9] (fun kv hv t wr => ∃ k : Nat, k ≤ ps.length ∧ k ≤ 60 ∧ t = .int .i64 k ∧ BegunL Lo lb w wr (begK (SK.new 1000) (ps.take k)) kv hv) (fun _ _ t _ => ps.length - (intOf t).toNat)
  case atStart => exact ⟨0, Nat.zero_le _, Nat.zero_le _, rfl, HL.out, World.ownsRow_nil _ _ _ _, World.ownsRow_nil _ _ _ _, KeepL.rfl Lo w, HB.out⟩
  case round =>
    obtain ⟨k, hk, hk60, rfl, hbg⟩ := hrel
    have hsl := HP.out _ hbg.kp
    have hn := (begK_n (ps := ps) (room := 1000) k hk)
    have HBG := hid hbg
    clear hbg
    by_cases hlt : k < ps.length ∧ k < 60
    · obtain ⟨hlt, hlt60⟩ := hlt
      obtain ⟨a', cap', he, _, _, hc⟩ := hsl.ex
      obtain ⟨b, off, ha, hcell⟩ := hc (by omega)
      obtain ⟨rfl, _, rfl⟩ : a = a' ∧ ps.length = ps.length ∧ cap = cap' := by simpa using he
      subst ha
      have c0 : wr.cell? ⟨b, off + k * 2, none⟩ = some (.string (nth ps k).1) := hcell k hlt 0 (by omega)
      have c1 : wr.cell? ⟨b, off + k * 2 + 1, none⟩ = some (.int .i64 (nth ps k).2) := hcell k hlt 1 (by omega)
      have hrange := HR.out _ (nth_mem ps k hlt)
      clear he hc hcell hsl
      obtain ⟨ak, ck, ekv, hnm⟩ := len_of HBG.out.ks
      subst ekv
      have HK : Hid (SlStr wr _ (keysK (begK (SK.new 1000) (ps.take k)))) := hid (owns_str HBG.out.ks (by simp [keysK]))
      have hsucc := hid (begK_succ (SK.new 1000) ps k hlt)
      by_cases htw : (nth ps k).1 ∈ keysK (begK (SK.new 1000) (ps.take k))
      · have HT := hid htw
        have hd : decide ((nth ps k).1 ∈ keysK (begK (SK.new 1000) (ps.take k))) = true := decide_eq_true htw
        clear htw
        go_wp2_with fail
        refine (height_in _ hrange _).mono ?_
        rintro e w2 ⟨rfl, rfl⟩
        go_wp2_with fail
        refine (has_in _ _ _ _ HK.out).mono ?_
        rintro e w2 ⟨rfl, rfl⟩
        rw [hd]
        go_wp2_with fail
        refine (begin_same_l2 HBG.out.li _ _ (by have := hgt_range (nth ps k).2; omega) (by have := hgt_range (nth ps k).2; omega) (mem_keysK.1 HT.out)).mono ?_
        rintro e w2 ⟨rfl, he2⟩
        go_wp2
        go_roundw
        case rel =>
          refine ⟨k + 1, by omega, by omega, by go_num, ?_⟩
          rw [hsucc.out, if_pos HT.out]
          exact ⟨HBG.out.li.ext he2, owns_ext HBG.out.ks he2, owns_ext HBG.out.hs he2, HBG.out.kp.tr (KeepL.of_ext he2), HBG.out.le⟩
        case measure => simp [intOf]; omega
      · have HT := hid htw
        have hd : decide ((nth ps k).1 ∈ keysK (begK (SK.new 1000) (ps.take k))) = false := decide_eq_false htw
        clear htw
        go_wp2_with fail
        refine (height_in _ hrange _).mono ?_
        rintro e w2 ⟨rfl, rfl⟩
        go_wp2_with fail
        refine (has_in _ _ _ _ HK.out).mono ?_
        rintro e w2 ⟨rfl, rfl⟩
        rw [hd]
        go_wp2_with fail
        refine (begin_l2 HBG.out.li (fun b hb => Nat.lt_of_lt_of_le (HBG.out.le b hb) HBG.out.kp.size) _ _ (hgt_range (nth ps k).2).1 (hgt_range (nth ps k).2).2 (fun i hi e => HT.out (mem_keysK.2 ⟨i, hi, e⟩)) (by omega) (by omega)).mono ?_
        rintro e w2 ⟨rfl, hl2, hk2⟩
        have L2 := hid hl2
        have K2 := hid hk2
        have c0' : w2.cell? ⟨b, off + k * 2, none⟩ = some (.string (nth ps k).1) := by
          obtain ⟨_, _, he, _, _, hc⟩ := (HP.out _ (HBG.out.kp.tr hk2)).ex
          obtain ⟨b', off', ha, hcell⟩ := hc (by omega)
          subst ha
          simp only [Value.slice.injEq, Option.some.injEq, Addr.mk.injEq] at he
          obtain ⟨⟨rfl, rfl, _⟩, _, _⟩ := he
          exact hcell k hlt 0 (by omega)
        clear hl2 hk2 c0 c1
        have M1 := hid (owns_keepL HBG.out.ks K2.out (by simp [skipTy]))
        have M2 := hid (owns_keepL HBG.out.hs K2.out (by simp [skipTy]))
        have M3 := hid (HBG.out.kp.tr K2.out)
        clear K2
        go_wp2_with (first | (at_builtin; refine wpList_app (v := .slice ak (begK (SK.new 1000) (ps.take k)).n ck) strE rfl (owns_ext M1.out ((Ext.rfl w2).al _)) rfl rfl (news_one _ _ _) (by simp [Value.oneCell']) (by omega) (M3.out.tr (KeepL.of_ext (Lo := Lo) ((Ext.rfl w2).al _))).size ?_; intro v' w4 hown4 hg4 hb4; have N1 := hid hown4; have N2 := hid (owns_beside (owns_ext M2.out ((Ext.rfl w2).al _)) (owns_ext M1.out ((Ext.rfl w2).al _)) (by decide) hg4); have N3 := hid (KeepL.grown (M3.out.tr (KeepL.of_ext ((Ext.rfl w2).al _))) hg4 (owns_low M1.out) HBG.out.le); have N4 := hid ((L2.out.ext ((Ext.rfl w2).al _)).grown (owns_ext M1.out ((Ext.rfl w2).al _)) (by simp [skipTy]) hg4); clear hown4 hg4 hb4) | (at_builtin; refine wpList_app (v := u8) intE rfl (owns_ext N2.out ((Ext.rfl _).al _)) rfl rfl (news_one _ _ _) (by simp [Value.oneCell']) (by omega) (N3.out.tr (KeepL.of_ext (Lo := Lo) ((Ext.rfl _).al _))).size ?_; intro v'' w6 hown6 hg6 hb6; have P1 := hid hown6; have P2 := hid (owns_beside (owns_ext N1.out ((Ext.rfl _).al _)) (owns_ext N2.out ((Ext.rfl _).al _)) (by decide) hg6); have P3 := hid (KeepL.grown (N3.out.tr (KeepL.of_ext ((Ext.rfl _).al _))) hg6 (owns_low N2.out) HBG.out.le); have P4 := hid ((N4.out.ext ((Ext.rfl _).al _)).grown (owns_ext N2.out ((Ext.rfl _).al _)) (by simp [skipTy]) hg6); clear hown6 hg6 hb6))
        go_roundw
        case rel =>
          refine ⟨k + 1, by omega, by omega, by go_num, ?_⟩
          rw [hsucc.out, if_neg HT.out]
          refine ⟨P4.out, ?_, ?_, P3.out, HBG.out.le⟩
          · rw [keysK_begin, List.map_append]; exact P2.out
          · rw [htsK_begin, List.map_append]; exact P1.out
        case measure => simp [intOf]; omega
    · have ht : ps.take k = ps.take 60 := by
        by_cases h : k < ps.length
        · rw [show k = 60 by omega]
        · rw [show k = ps.length by omega, List.take_length, List.take_of_length_le (by omega)]
      rw [ht] at HBG
      by_cases h : k < ps.length
      · have h60 : k = 60 := by omega
        subst h60
        go_wp2
        go_ret3
        exact ⟨_, _, rfl, HBG.out⟩
      · have : k = ps.length := by omega
        subst this
        go_wp2
        go_ret3
        exact ⟨_, _, rfl, HBG.out⟩
end Go.Proofs.Yticmnmdokoonjaa
