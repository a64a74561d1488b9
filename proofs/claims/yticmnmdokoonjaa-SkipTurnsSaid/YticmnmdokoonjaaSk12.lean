/- The walk of begun: operations of puts, unlike keys alone. -/
import Derived.Test.YticmnmdokoonjaaLawSk
set_option linter.unusedSimpArgs false
set_option linter.unusedVariables false
set_option linter.unnecessarySimpa false
namespace Go.Proofs.Yticmnmdokoonjaa
open Go.RowKit Go.Rg Go.St

abbrev Put := ByteArray × Int
def ePut (p : Put) : List Value := [.string p.1, .int .i64 p.2]
def keysK (K : SK) : List ByteArray := (List.range K.n).map K.key
def htsK (K : SK) : List Nat := (List.range K.n).map K.ht
def begK (K : SK) (ps : List Put) : SK := ps.foldl (fun K p => if p.1 ∈ keysK K then K else beginK K p.1 (hgt p.2)) K
theorem begK_succ (K : SK) (ps : List Put) (k : Nat) (h : k < ps.length) : begK K (ps.take (k + 1)) = (if (nth ps k).1 ∈ keysK (begK K (ps.take k)) then begK K (ps.take k) else beginK (begK K (ps.take k)) (nth ps k).1 (hgt (nth ps k).2)) := by
  unfold begK
  rw [take_succ_nth ps k h, List.foldl_append]
  rfl
theorem mem_keysK {K : SK} {k : ByteArray} : k ∈ keysK K ↔ ∃ i, i < K.n ∧ K.key i = k := by simp [keysK]
theorem keysK_begin (K : SK) (k : ByteArray) (h : Nat) : keysK (beginK K k h) = keysK K ++ [k] := by
  show (List.range (K.n + 1)).map _ = _
  rw [List.range_succ, List.map_append]
  congr 1
  · refine List.map_congr_left fun i hi => ?_
    rw [List.mem_range] at hi
    simp only [beginK]
    rw [upd_other _ _ _ (show i ≠ K.n by omega)]
  · simp only [List.map_cons, List.map_nil, beginK, upd_same]
theorem htsK_begin (K : SK) (k : ByteArray) (h : Nat) : htsK (beginK K k h) = htsK K ++ [h] := by
  show (List.range (K.n + 1)).map _ = _
  rw [List.range_succ, List.map_append]
  congr 1
  · refine List.map_congr_left fun i hi => ?_
    rw [List.mem_range] at hi
    simp only [beginK]
    rw [upd_other _ _ _ (show i ≠ K.n by omega)]
  · simp only [List.map_cons, List.map_nil, beginK, upd_same]

theorem Keeps.grown {B : Nat} {w a b : World} {row : Option Nat} (h : Keeps B w a) (hg : a.grownBy b row) (hr : ∀ g, row = some g → w.heap.size ≤ g) (hB : B ≤ w.heap.size) : Keeps B w b := by
  have key : ∀ c, c < w.heap.size → b.heap[c]? = a.heap[c]? := fun c hc => hg.block c (Nat.lt_of_lt_of_le hc h.size) (fun e => by have := hr c e.symm; omega)
  exact ⟨hg.os.trans h.os, hg.tape.trans h.tape, hg.output.trans h.output, Nat.le_trans h.size hg.size, fun c hc hcB => (key c hc).trans (h.low c hc hcB), fun c cs T fr hc hT => (key c (blk_lt hc)).trans (h.row c cs T fr hc hT)⟩
theorem owns_low {w : World} {base : Nat} {e : TypeId} {sz : Nat} {v : Value} {n : Nat} {xs : List Value} (h : w.ownsRow base e sz v n xs) : ∀ g, v.ownBlock = some g → base ≤ g := fun g hg => (h.lt g hg).1
/-- a row of another kind stays where one has grown -/
theorem owns_beside {w w' : World} {b1 b2 : Nat} {e1 e2 : TypeId} {s1 s2 n1 n2 : Nat} {v1 v2 : Value} {x1 x2 : List Value} (h1 : w.ownsRow b1 e1 s1 v1 n1 x1) (h2 : w.ownsRow b2 e2 s2 v2 n2 x2) (hne : e1 ≠ e2) (hg : w.grownBy w' v2.ownBlock) : w'.ownsRow b1 e1 s1 v1 n1 x1 := by
  refine owns_ch h1 fun g hg1 => ?_
  refine hg.block g (h1.lt g hg1).2 fun e => ?_
  rcases h1.2 with ⟨h3, _⟩ | ⟨g', cap, cur, h3, _, hgc, _⟩
  · rw [h3] at hg1; cases hg1
  · rw [h3] at hg1
    simp [Value.ownBlock] at hg1
    subst hg1
    exact own_ne' h2 hgc (Ne.symm hne) e.symm

theorem intE : ElT Try.prog 59 3 1 8 := ⟨by kernel_rfl, by kernel_rfl, by decide, by decide⟩

structure Begun (B lb : Nat) (w wr : World) (K : SK) (kv hv : Value) : Prop where
  li : ListAt B lb wr K
  ks : wr.ownsRow w.heap.size 9 1 kv K.n ((keysK K).map .string)
  hs : wr.ownsRow w.heap.size 3 1 hv K.n ((htsK K).map fun h => .int .i64 (h : Nat))
  kp : Keeps B w wr
  le : B ≤ w.heap.size
theorem begK_n {ps : List Put} {room : Int} : ∀ (k : Nat), k ≤ ps.length → (begK (SK.new room) (ps.take k)).n ≤ k ∧ (begK (SK.new room) (ps.take k)).room = room
  | 0, _ => ⟨Nat.le_refl _, rfl⟩
  | k + 1, hk => by
    obtain ⟨h1, h2⟩ := begK_n (ps := ps) (room := room) k (by omega)
    rw [begK_succ _ _ _ (by omega)]
    split
    · exact ⟨by omega, h2⟩
    · exact ⟨by show _ + 1 ≤ _; omega, h2⟩

set_option maxHeartbeats 1000000 in
theorem begun_in (B lb : Nat) (w : World) (v : Value) (ps : List Put) (hB : B ≤ w.heap.size) (hl : ListAt B lb w (SK.new 1000)) (hr : ∀ p, p ∈ ps → -9223372036854775808 ≤ p.2 ∧ p.2 ≤ 9223372036854775807)
    (hp : ∀ w', Keeps B w w' → SlS w' v 2 ePut ps) :
    Calls Try.prog 31 #[.pointer (some ⟨lb, 0, none⟩), v] w (fun e w' => ∃ kv hv, e = .returned (.tuple #[kv, hv, .bool true]) ∧ Begun B lb w w' (begK (SK.new 1000) (ps.take 60)) kv hv) := by
  obtain ⟨a, cap, rfl, hcap, hm, _⟩ := (hp w (Keeps.rfl B w)).ex
  unfold maxLen at hm
  have HP := hid hp
  have HL := hid hl
  have HR := hid hr
  have HB := hid hB
  clear hp hl hr hB
  go_enter Try.func31, Try.ntmps31
  go_wp2
  go_loopw [7, 8, 9] (fun kv hv t wr => ∃ k : Nat, k ≤ ps.length ∧ k ≤ 60 ∧ t = .int .i64 k ∧ Begun B lb w wr (begK (SK.new 1000) (ps.take k)) kv hv) (fun _ _ t _ => ps.length - (intOf t).toNat)
  case atStart => exact ⟨0, Nat.zero_le _, Nat.zero_le _, rfl, HL.out, World.ownsRow_nil _ _ _ _, World.ownsRow_nil _ _ _ _, Keeps.rfl B w, HB.out⟩
  case round =>
    obtain ⟨k, hk, hk60, rfl, hbg⟩ := hrel
    have hsl := HP.out _ hbg.kp
    have hn := (begK_n (ps := ps) (room := 1000) k hk)
    have HBG := hid hbg
    clear hbg
    by_cases hlt : k < ps.length ∧ k < 60
    · obtain ⟨hlt, hlt60⟩ := hlt
      obtain ⟨a', cap', he, _, _, hc⟩ := hsl.ex
      obtain ⟨b, off, ha, hcell⟩ := hc (by omega)
      obtain ⟨rfl, _, rfl⟩ : a = a' ∧ ps.length = ps.length ∧ cap = cap' := by simpa using he
      subst ha
      have c0 : wr.cell? ⟨b, off + k * 2, none⟩ = some (.string (nth ps k).1) := hcell k hlt 0 (by omega)
      have c1 : wr.cell? ⟨b, off + k * 2 + 1, none⟩ = some (.int .i64 (nth ps k).2) := hcell k hlt 1 (by omega)
      have hrange := HR.out _ (nth_mem ps k hlt)
      clear he hc hcell hsl
      obtain ⟨ak, ck, ekv, hnm⟩ := len_of HBG.out.ks
      subst ekv
      have HK : Hid (SlStr wr _ (keysK (begK (SK.new 1000) (ps.take k)))) := hid (owns_str HBG.out.ks (by simp [keysK]))
      have hsucc := hid (begK_succ (SK.new 1000) ps k hlt)
      by_cases htw : (nth ps k).1 ∈ keysK (begK (SK.new 1000) (ps.take k))
      · have HT := hid htw
        have hd : decide ((nth ps k).1 ∈ keysK (begK (SK.new 1000) (ps.take k))) = true := decide_eq_true htw
        clear htw
        go_wp2_with fail
        refine (height_in _ hrange _).mono ?_
        rintro e w2 ⟨rfl, rfl⟩
        go_wp2_with fail
        refine (has_in _ _ _ _ HK.out).mono ?_
        rintro e w2 ⟨rfl, rfl⟩
        rw [hd]
        go_wp2_with fail
        refine (begin_same_ls HBG.out.li _ _ (by have := hgt_range (nth ps k).2; omega) (by have := hgt_range (nth ps k).2; omega) (mem_keysK.1 HT.out)).mono ?_
        rintro e w2 ⟨rfl, he2⟩
        go_wp2
        go_roundw
        case rel =>
          refine ⟨k + 1, by omega, by omega, by go_num, ?_⟩
          rw [hsucc.out, if_pos HT.out]
          exact ⟨HBG.out.li.ext he2, owns_ext HBG.out.ks he2, owns_ext HBG.out.hs he2, HBG.out.kp.tr (Keeps.of_ext he2), HBG.out.le⟩
        case measure => simp [intOf]; omega
      · have HT := hid htw
        have hd : decide ((nth ps k).1 ∈ keysK (begK (SK.new 1000) (ps.take k))) = false := decide_eq_false htw
        clear htw
        go_wp2_with fail
        refine (height_in _ hrange _).mono ?_
        rintro e w2 ⟨rfl, rfl⟩
        go_wp2_with fail
        refine (has_in _ _ _ _ HK.out).mono ?_
        rintro e w2 ⟨rfl, rfl⟩
        rw [hd]
        go_wp2_with fail
        refine (begin_ls HBG.out.li (Nat.le_trans HBG.out.le HBG.out.kp.size) _ _ (hgt_range (nth ps k).2).1 (hgt_range (nth ps k).2).2 (fun i hi e => HT.out (mem_keysK.2 ⟨i, hi, e⟩)) (by omega) (by omega)).mono ?_
        rintro e w2 ⟨rfl, hl2, hk2⟩
        have L2 := hid hl2
        have K2 := hid hk2
        have c0' : w2.cell? ⟨b, off + k * 2, none⟩ = some (.string (nth ps k).1) := by
          obtain ⟨_, _, he, _, _, hc⟩ := (HP.out _ (HBG.out.kp.tr hk2)).ex
          obtain ⟨b', off', ha, hcell⟩ := hc (by omega)
          subst ha
          simp only [Value.slice.injEq, Option.some.injEq, Addr.mk.injEq] at he
          obtain ⟨⟨rfl, rfl, _⟩, _, _⟩ := he
          exact hcell k hlt 0 (by omega)
        clear hl2 hk2 c0 c1
        have M1 := hid (owns_keeps HBG.out.ks K2.out (by simp [skipTy]))
        have M2 := hid (owns_keeps HBG.out.hs K2.out (by simp [skipTy]))
        have M3 := hid (HBG.out.kp.tr K2.out)
        clear K2
        go_wp2_with (first | (at_builtin; refine wpList_app (v := .slice ak (begK (SK.new 1000) (ps.take k)).n ck) strE rfl (owns_ext M1.out ((Ext.rfl w2).al _)) rfl rfl (news_one _ _ _) (by simp [Value.oneCell']) (by omega) (M3.out.tr (Keeps.of_ext (B := B) ((Ext.rfl w2).al _))).size ?_; intro v' w4 hown4 hg4 hb4; have N1 := hid hown4; have N2 := hid (owns_beside (owns_ext M2.out ((Ext.rfl w2).al _)) (owns_ext M1.out ((Ext.rfl w2).al _)) (by decide) hg4); have N3 := hid (Keeps.grown (M3.out.tr (Keeps.of_ext ((Ext.rfl w2).al _))) hg4 (owns_low M1.out) HBG.out.le); have N4 := hid ((L2.out.ext ((Ext.rfl w2).al _)).grown (owns_ext M1.out ((Ext.rfl w2).al _)) (by simp [skipTy]) hg4); clear hown4 hg4 hb4) | (at_builtin; refine wpList_app (v := u8) intE rfl (owns_ext N2.out ((Ext.rfl _).al _)) rfl rfl (news_one _ _ _) (by simp [Value.oneCell']) (by omega) (N3.out.tr (Keeps.of_ext (B := B) ((Ext.rfl _).al _))).size ?_; intro v'' w6 hown6 hg6 hb6; have P1 := hid hown6; have P2 := hid (owns_beside (owns_ext N1.out ((Ext.rfl _).al _)) (owns_ext N2.out ((Ext.rfl _).al _)) (by decide) hg6); have P3 := hid (Keeps.grown (N3.out.tr (Keeps.of_ext ((Ext.rfl _).al _))) hg6 (owns_low N2.out) HBG.out.le); have P4 := hid ((N4.out.ext ((Ext.rfl _).al _)).grown (owns_ext N2.out ((Ext.rfl _).al _)) (by simp [skipTy]) hg6); clear hown6 hg6 hb6))
        go_roundw
        case rel =>
          refine ⟨k + 1, by omega, by omega, by go_num, ?_⟩
          rw [hsucc.out, if_neg HT.out]
          refine ⟨P4.out, ?_, ?_, P3.out, HBG.out.le⟩
          · rw [keysK_begin, List.map_append]; exact P2.out
          · rw [htsK_begin, List.map_append]; exact P1.out
        case measure => simp [intOf]; omega
    · have ht : ps.take k = ps.take 60 := by
        by_cases h : k < ps.length
        · rw [show k = 60 by omega]
        · rw [show k = ps.length by omega, List.take_length, List.take_of_length_le (by omega)]
      rw [ht] at HBG
      by_cases h : k < ps.length
      · have h60 : k = 60 := by omega
        subst h60
        go_wp2
        go_ret3
        exact ⟨_, _, rfl, HBG.out⟩
      · have : k = ps.length := by omega
        subst this
        go_wp2
        go_ret3
        exact ⟨_, _, rfl, HBG.out⟩
end Go.Proofs.Yticmnmdokoonjaa
