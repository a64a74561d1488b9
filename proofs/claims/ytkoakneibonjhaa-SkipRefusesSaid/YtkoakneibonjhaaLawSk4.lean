/- The walk of the law SkipRefuses. -/
import Derived.Test.YtkoakneibonjhaaLawSk2
import Derived.Test.YtkoakneibonjhaaRg1
set_option linter.unusedSimpArgs false
set_option linter.unusedVariables false
set_option linter.unnecessarySimpa false
namespace Go.Proofs.Ytkoakneibonjhaa
open Go.RowKit Go.Rg Go.St

structure Ref (B lb : Nat) (room : Int) (w2 wr : World) (K : SK) (kv : Value) : Prop where
  li : ListAt B lb wr K
  rm : K.room = room
  lv : ∀ j, j < K.n → K.lv j = 0
  ks : wr.ownsRow w2.heap.size 9 1 kv K.n ((keysK K).map .string)
  kp : Keeps B w2 wr
  le : B ≤ w2.heap.size
theorem Ref.ext {B lb : Nat} {room : Int} {w2 wr w' : World} {K : SK} {kv : Value} (h : Ref B lb room w2 wr K kv) (he : Ext wr w') : Ref B lb room w2 w' K kv :=
  ⟨h.li.ext he, h.rm, h.lv, owns_ext h.ks he, h.kp.tr (Keeps.of_ext he), h.le⟩
/-- the list alone: behind Begin, ahead of the law's own row -/
structure Ref1 (B lb : Nat) (room : Int) (w2 wr : World) (K K1 : SK) (kv : Value) : Prop where
  li : ListAt B lb wr K1
  ks : wr.ownsRow w2.heap.size 9 1 kv K.n ((keysK K).map .string)
  kp : Keeps B w2 wr
theorem Ref1.ext {B lb : Nat} {room : Int} {w2 wr w' : World} {K K1 : SK} {kv : Value} (h : Ref1 B lb room w2 wr K K1 kv) (he : Ext wr w') : Ref1 B lb room w2 w' K K1 kv :=
  ⟨h.li.ext he, owns_ext h.ks he, h.kp.tr (Keeps.of_ext he)⟩

def Out (K : SK) (key : ByteArray) (h r0 r1 : Int) (K1 : SK) : Prop :=
  (r1 = 70 ∧ r0 = 0 ∧ K1 = K ∧ (h < 1 ∨ 8 < h)) ∨ (r1 = 71 ∧ r0 = 0 ∧ K1 = K ∧ 1 ≤ h ∧ h ≤ 8 ∧ key ∈ keysK K) ∨ (r1 = 72 ∧ r0 = 0 ∧ K1 = K ∧ 1 ≤ h ∧ h ≤ 8 ∧ ¬ key ∈ keysK K ∧ K.room ≤ K.n) ∨
  (r1 = 0 ∧ r0 = K.n ∧ K1 = beginK K key h.toNat ∧ 1 ≤ h ∧ h ≤ 8 ∧ ¬ key ∈ keysK K ∧ (K.n : Int) < K.room)

theorem begin_out {B lb : Nat} {room : Int} {w2 : World} {K : SK} {kv : Value} (hr : K.room ≤ 1000) (hB : B ≤ w2.heap.size) (key : ByteArray) (h : Int) : ∃ r0 r1 K1, Out K key h r0 r1 K1 ∧
    ∀ w', Ref1 B lb room w2 w' K K kv → Calls Try.prog 33 #[.pointer (some ⟨lb, 0, none⟩), .string key, .int .i64 h] w' (fun e w'' => e = .returned (.tuple #[.int .i64 r0, .int .i64 r1]) ∧ Ref1 B lb room w2 w'' K K1 kv) := by
  by_cases hh : h < 1 ∨ 8 < h
  · refine ⟨0, 70, K, .inl ⟨rfl, rfl, rfl, hh⟩, fun w' hw => ?_⟩
    refine (begin_height lb key h hh w').mono ?_
    rintro e w'' ⟨rfl, he⟩
    exact ⟨rfl, hw.ext he⟩
  · by_cases hk : key ∈ keysK K
    · refine ⟨0, 71, K, .inr (.inl ⟨rfl, rfl, rfl, by omega, by omega, hk⟩), fun w' hw => ?_⟩
      refine (begin_same_ls hw.li key h (by omega) (by omega) (mem_keysK.1 hk)).mono ?_
      rintro e w'' ⟨rfl, he⟩
      exact ⟨rfl, hw.ext he⟩
    · have hno : ∀ i, i < K.n → K.key i ≠ key := fun i hi e => hk (mem_keysK.2 ⟨i, hi, e⟩)
      by_cases hf : K.room ≤ K.n
      · refine ⟨0, 72, K, .inr (.inr (.inl ⟨rfl, rfl, rfl, by omega, by omega, hk, hf⟩)), fun w' hw => ?_⟩
        refine (begin_full_ls hw.li key h (by omega) (by omega) hno hf).mono ?_
        rintro e w'' ⟨rfl, he⟩
        exact ⟨rfl, hw.ext he⟩
      · refine ⟨K.n, 0, beginK K key h.toNat, .inr (.inr (.inr ⟨rfl, rfl, rfl, by omega, by omega, hk, by omega⟩)), fun w' hw => ?_⟩
        have := begin_ls hw.li (Nat.le_trans hB hw.kp.size) key h.toNat (by omega) (by omega) hno (by omega) hr
        rw [show ((h.toNat : Nat) : Int) = h by omega] at this
        refine this.mono ?_
        rintro e w'' ⟨rfl, hl, hk'⟩
        exact ⟨rfl, hl, owns_keeps hw.ks hk' (by simp [skipTy]), hw.kp.tr hk'⟩

theorem cnt_none {K : SK} (h : ∀ j, j < K.n → K.lv j = 0) : cnt K 0 = 0 := by
  unfold cnt
  rw [List.length_eq_zero_iff, List.filter_eq_nil_iff]
  intro j hj
  rw [List.mem_range] at hj
  rw [h j hj]; decide

theorem cf_begin (args : Array Value) (w : World) : (callFunc 33 args).run Try.prog w = .ok (.enter 33 args) w := by kernel_rfl

set_option maxRecDepth 100000 in
set_option maxHeartbeats 4000000 in
theorem skipRefuses_walk (room : Int) (v1 : Value) (op : Int) (ps : List Put) (w : World) (h0 : SlS w v1 2 ePut ps) (hr : ∀ p, p ∈ ps → -9223372036854775808 ≤ p.2 ∧ p.2 ≤ 9223372036854775807) :
    Calls Try.prog 9 #[.int .i64 room, v1, .int .i64 op] w (TrueExt w) := by
  have H0 := hid h0
  have HR := hid hr
  clear h0 hr
  go_enter Try.func9, Try.ntmps9
  go_wp2_with fail
  refine (awake07 w).mono ?_
  rintro e w1 ⟨rfl, he1⟩
  by_cases hroom : room < 0 ∨ 1000 < room
  · go_wp2_with fail
    refine (new_bad room hroom _).mono ?_
    rintro e w2 ⟨rfl, rfl⟩
    rcases hroom with hroom | hroom
    all_goals
      go_wp2
      go_ret
      exact ⟨rfl, he1⟩
  · have hr0 : 0 ≤ room := by omega
    have hr1 : room ≤ 1000 := by omega
    clear hroom
    go_wp2_with fail
    refine (new_ls room hr0 hr1 _).mono ?_
    rintro e w2 ⟨lb, rfl, hl2, he2⟩
    have HD : Hid (Ref w1.heap.size lb room w2 w2 (SK.new room) (.slice none 0 0)) := hid ⟨hl2, rfl, fun j hj => absurd hj (Nat.not_lt_zero _), World.ownsRow_nil _ _ _ _, Keeps.rfl _ _, he2.size⟩
    have HE := hid (he1.trans (ext_below he2 he1.size))
    have HB := hid he1.size
    generalize w1.heap.size = B at *
    obtain ⟨ap, cp, rfl, hcapp, hmp, hcp⟩ := H0.out.ex
    unfold maxLen at hmp
    clear hcp hl2 he2 he1
    go_wp2
    go_loopw [10, 11] (fun kv t wr => ∃ k : Nat, k ≤ ps.length ∧ k ≤ 40 ∧ t = .int .i64 k ∧ ∃ K', Ref B lb room w2 wr K' kv ∧ K'.n ≤ k) (fun _ t _ => ps.length - (intOf t).toNat)
    case atStart => exact ⟨0, Nat.zero_le _, Nat.zero_le _, rfl, _, HD.out, Nat.le_refl _⟩
    case round =>
      clear HD
      obtain ⟨k, hk, hk40, rfl, K', hh, hn⟩ := hrel
      have HH := hid hh
      clear hh
      by_cases hlt : k < ps.length ∧ k < 40
      · obtain ⟨hlt, hlt40⟩ := hlt
        have hsl : ∀ w', Keeps B w2 w' → SlS w' (.slice ap ps.length cp) 2 ePut ps := fun w' hk => H0.out.go (fun _ => rfl) (ext_keeps HE.out hk HB.out)
        obtain ⟨_, _, he, _, _, hc⟩ := (hsl _ HH.out.kp).ex
        obtain ⟨b, off, ha, hcell⟩ := hc (by omega)
        subst ha
        simp only [Value.slice.injEq] at he
        obtain ⟨rfl, _, rfl⟩ := he
        clear hc hcell
        have hcell : ∀ w', Keeps B w2 w' → w'.cell? ⟨b, off + k * 2, none⟩ = some (.string (nth ps k).1) ∧ w'.cell? ⟨b, off + k * 2 + 1, none⟩ = some (.int .i64 (nth ps k).2) := fun w' hk => by
          obtain ⟨_, _, he, _, _, hc⟩ := (hsl _ hk).ex
          obtain ⟨b', off', ha, hcell⟩ := hc (by omega)
          subst ha
          simp only [Value.slice.injEq, Option.some.injEq, Addr.mk.injEq] at he
          obtain ⟨⟨rfl, rfl, _⟩, _, _⟩ := he
          exact ⟨hcell k hlt 0 (by omega), hcell k hlt 1 (by omega)⟩
        have HC := hid hcell
        obtain ⟨ak, ck, rfl, hnm⟩ := len_of HH.out.ks
        obtain ⟨r0, r1, K1, hout, hcall⟩ := begin_out (lb := lb) (room := room) (kv := .slice ak K'.n ck) (by rw [HH.out.rm]; exact hr1) HH.out.le (nth ps k).1 (nth ps k).2
        have HOUT := hid hout
        have hI0 : Ref1 B lb room w2 wr K' K' (.slice ak K'.n ck) := ⟨HH.out.li, HH.out.ks, HH.out.kp⟩
        clear hcell hsl
        generalize nth ps k = pk at *
        obtain ⟨key, h⟩ := pk
        dsimp only at *
        go_wp2
        refine wp_draw1 (fun b w' => Ref1 B lb room w2 w' K' (bif b then K1 else K') (.slice ak K'.n ck)) 11 (by kernel_rfl) (by kernel_rfl) (fun b w w' h he => h.ext he) hI0 (by rfl) ?_
        refine rg1_step 55 (by rfl) (fun _ _ _ => ob_move (by rfl) (by rfl)) rfl (by rfl) ?_
        refine rg1_step 56 (by rfl) (fun _ _ _ => ob_move (by rfl) (by rfl)) rfl (by rfl) ?_
        refine rg1_step 57 (by rfl) (fun _ _ _ => ob_move (by rfl) (by rfl)) rfl (by rfl) ?_
        refine rg1_step 58 (by rfl) (fun _ _ _ => ob_index 2 (off + k * 2) (by rfl) (by rfl) (by rfl) Try.underlying36 (by kernel_rfl) (by omega) (by omega) (by rw [Int.toNat_natCast])) rfl (by rfl) ?_
        refine rg1_step 59 (by rfl) (fun _ _ _ => ob_field (n := 0) (off + k * 2) 0 9 (by rfl) (by rfl) Try.underlying58 (by rfl) (by kernel_rfl) rfl) rfl (by rfl) ?_
        refine rg1_step 60 (by rfl) (fun _ _ hi => ob_load (by rfl) (by rfl) (by kernel_rfl) (fun _ he => ext_cell he (HC.out _ hi.kp).1)) rfl (by rfl) ?_
        refine rg1_step 61 (by rfl) (fun _ _ _ => ob_move (by rfl) (by rfl)) rfl (by rfl) ?_
        refine rg1_step 62 (by rfl) (fun _ _ _ => ob_move (by rfl) (by rfl)) rfl (by rfl) ?_
        refine rg1_step 63 (by rfl) (fun _ _ _ => ob_index 2 (off + k * 2) (by rfl) (by rfl) (by rfl) Try.underlying36 (by kernel_rfl) (by omega) (by omega) (by rw [Int.toNat_natCast])) rfl (by rfl) ?_
        refine rg1_step 64 (by rfl) (fun _ _ _ => ob_field (n := 0) (off + k * 2 + 1) 1 3 (by rfl) (by rfl) Try.underlying58 (by rfl) (by kernel_rfl) rfl) rfl (by rfl) ?_
        refine rg1_step 65 (by rfl) (fun _ _ hi => ob_load (by rfl) (by rfl) (by kernel_rfl) (fun _ he => ext_cell he (HC.out _ hi.kp).2)) rfl (by rfl) ?_
        refine rg1_call 66 [.pointer (some ⟨lb, 0, none⟩), .string key, .int .i64 h] cf_begin (by rfl) (by rfl) (fun w' hi => hcall w' hi) ?_
        refine rg1_step 54 (by rfl) (fun _ _ _ => ob_move (by rfl) (by rfl)) rfl (by rfl) ?_
        refine rg1_step 67 (by rfl) (fun _ _ _ => ob_extract (by rfl) (by rfl) (by rfl)) rfl (by rfl) ?_
        refine rg1_step 68 (by rfl) (fun _ _ _ => ob_extract (by rfl) (by rfl) (by rfl)) rfl (by rfl) ?_
        refine rg1_step 12 (by rfl) (fun _ _ _ => ob_assign (by rfl) (by rfl)) rfl (by rfl) ?_
        refine rg1_step 13 (by rfl) (fun _ _ _ => ob_assign (by rfl) (by rfl)) rfl (by rfl) ?_
        refine rg1_end ?_
        intro w4 hi4
        simp only [asg, List.set_cons_zero, List.set_cons_succ, List.map_cons, List.map_nil, opens]
        have hR1 : Ref1 B lb room w2 w4 K' K1 (.slice ak K'.n ck) := hi4
        have R1 := hid hR1
        have HK : Hid (SlStr w4 (.slice ak K'.n ck) (keysK K')) := hid (owns_str hR1.ks (by simp [keysK]))
        obtain ⟨c0, c1⟩ := HC.out w4 hR1.kp
        clear hi4 hR1 hI0 hcall hout
        rcases HOUT.out with ⟨rfl, rfl, rfl, hh | hh⟩ | ⟨rfl, rfl, rfl, h1, h8, hm⟩ | ⟨rfl, rfl, rfl, h1, h8, hm, hf⟩ | ⟨rfl, rfl, rfl, h1, h8, hm, hf⟩
        · by_cases hm : key ∈ keysK K1
          · have hd : decide (key ∈ keysK K1) = true := decide_eq_true hm
            clear hm
            go_wp2_with fail
            refine (has_in _ _ _ _ HK.out).mono ?_
            rintro e w5 ⟨rfl, rfl⟩
            rw [hd]
            go_wp2
            go_roundw
            case rel => exact ⟨k + 1, by omega, by omega, by go_num, _, ⟨R1.out.li, HH.out.rm, HH.out.lv, R1.out.ks, R1.out.kp, HH.out.le⟩, by omega⟩
            case measure => simp [intOf]; omega
          · have hd : decide (key ∈ keysK K1) = false := decide_eq_false hm
            clear hm
            go_wp2_with fail
            refine (has_in _ _ _ _ HK.out).mono ?_
            rintro e w5 ⟨rfl, rfl⟩
            rw [hd]
            go_wp2
            go_roundw
            case rel => exact ⟨k + 1, by omega, by omega, by go_num, _, ⟨R1.out.li, HH.out.rm, HH.out.lv, R1.out.ks, R1.out.kp, HH.out.le⟩, by omega⟩
            case measure => simp [intOf]; omega
        · by_cases hm : key ∈ keysK K1
          · have hd : decide (key ∈ keysK K1) = true := decide_eq_true hm
            clear hm
            go_wp2_with fail
            refine (has_in _ _ _ _ HK.out).mono ?_
            rintro e w5 ⟨rfl, rfl⟩
            rw [hd]
            go_wp2
            go_roundw
            case rel => exact ⟨k + 1, by omega, by omega, by go_num, _, ⟨R1.out.li, HH.out.rm, HH.out.lv, R1.out.ks, R1.out.kp, HH.out.le⟩, by omega⟩
            case measure => simp [intOf]; omega
          · have hd : decide (key ∈ keysK K1) = false := decide_eq_false hm
            clear hm
            go_wp2_with fail
            refine (has_in _ _ _ _ HK.out).mono ?_
            rintro e w5 ⟨rfl, rfl⟩
            rw [hd]
            go_wp2
            go_roundw
            case rel => exact ⟨k + 1, by omega, by omega, by go_num, _, ⟨R1.out.li, HH.out.rm, HH.out.lv, R1.out.ks, R1.out.kp, HH.out.le⟩, by omega⟩
            case measure => simp [intOf]; omega
        · have hd : decide (key ∈ keysK K1) = true := decide_eq_true hm
          clear hm
          · go_wp2_with fail
            refine (has_in _ _ _ _ HK.out).mono ?_
            rintro e w5 ⟨rfl, rfl⟩
            rw [hd]
            go_wp2
            go_roundw
            case rel => exact ⟨k + 1, by omega, by omega, by go_num, _, ⟨R1.out.li, HH.out.rm, HH.out.lv, R1.out.ks, R1.out.kp, HH.out.le⟩, by omega⟩
            case measure => simp [intOf]; omega
        · have hd : decide (key ∈ keysK K1) = false := decide_eq_false hm
          have hrm := HH.out.rm
          have hge : room ≤ K1.n := by omega
          clear hm hf
          · go_wp2_with fail
            refine (has_in _ _ _ _ HK.out).mono ?_
            rintro e w5 ⟨rfl, rfl⟩
            rw [hd]
            go_wp2
            go_roundw
            case rel => exact ⟨k + 1, by omega, by omega, by go_num, _, ⟨R1.out.li, HH.out.rm, HH.out.lv, R1.out.ks, R1.out.kp, HH.out.le⟩, by omega⟩
            case measure => simp [intOf]; omega
        · have hd : decide (key ∈ keysK K') = false := decide_eq_false hm
          have hrm := HH.out.rm
          have hge : (K'.n : Int) < room := by omega
          clear hm hf
          · go_wp2_with fail
            refine (has_in _ _ _ _ HK.out).mono ?_
            rintro e w5 ⟨rfl, rfl⟩
            rw [hd]
            go_wp2_with (at_builtin; refine wpList_app (v := .slice ak K'.n ck) strE rfl (owns_ext R1.out.ks ((Ext.rfl w4).al _)) rfl rfl (news_one _ _ _) (by simp [Value.oneCell']) (by omega) (R1.out.kp.tr (Keeps.of_ext (B := B) ((Ext.rfl w4).al _))).size ?_; intro v' w6 hown6 hg6 hb6; have N1 := hid hown6; have N3 := hid (Keeps.grown (R1.out.kp.tr (Keeps.of_ext ((Ext.rfl w4).al _))) hg6 (owns_low R1.out.ks) HH.out.le); have N4 := hid ((R1.out.li.ext ((Ext.rfl w4).al _)).grown (owns_ext R1.out.ks ((Ext.rfl w4).al _)) (by simp [skipTy]) hg6); clear hown6 hg6 hb6)
            go_roundw
            case rel =>
              refine ⟨k + 1, by omega, by omega, by go_num, _, ⟨N4.out, HH.out.rm, fun j hj => ?_, ?_, N3.out, HH.out.le⟩, by show K'.n + 1 ≤ k + 1; omega⟩
              · simp only [beginK] at hj ⊢
                by_cases e : j = K'.n
                · rw [e, upd_same]
                · rw [upd_other _ _ _ e]; exact HH.out.lv j (by omega)
              · rw [keysK_begin, List.map_append]; exact N1.out
            case measure => simp [intOf]; omega
      · obtain ⟨ak, ck, rfl, hnm⟩ := len_of HH.out.ks
        have hc0 : cnt K' 0 = 0 := cnt_none HH.out.lv
        have hlt' : ¬ k < ps.length ∨ (k < ps.length ∧ ¬ k < 40) := by omega
        clear hlt
        have hop : op < 0 ∨ (0 ≤ op ∧ (K'.n : Int) ≤ op) ∨ (0 ≤ op ∧ op < K'.n) := by omega
        rcases hlt' with hlt | ⟨hlt, hlt40⟩
        all_goals
          rcases hop with h1 | ⟨h1, h2⟩ | ⟨h1, h2⟩
          · go_wp2_with fail
            refine (step_bad HH.out.li op (by omega)).mono ?_
            rintro e w4 ⟨rfl, he4⟩
            have L4 := hid (HH.out.ext he4)
            clear he4
            go_wp2_with fail
            refine (keys_ls L4.out.li (by omega) (l := 0) (by decide)).mono ?_
            rintro e w5 ⟨js, v, hl, rfl, ho, he⟩
            have hj : js.length = 0 := hl.len.trans hc0
            rw [hj] at ho
            obtain ⟨aj, cj, rfl, _⟩ := len_of ho
            have L5 := hid (L4.out.ext he)
            clear hl ho he hj
            go_wp2
            go_ret
            exact ⟨rfl, ext_keeps HE.out L5.out.kp HB.out⟩
          · go_wp2_with fail
            refine (step_bad HH.out.li op (by omega)).mono ?_
            rintro e w4 ⟨rfl, he4⟩
            have L4 := hid (HH.out.ext he4)
            clear he4
            go_wp2_with fail
            refine (keys_ls L4.out.li (by omega) (l := 0) (by decide)).mono ?_
            rintro e w5 ⟨js, v, hl, rfl, ho, he⟩
            have hj : js.length = 0 := hl.len.trans hc0
            rw [hj] at ho
            obtain ⟨aj, cj, rfl, _⟩ := len_of ho
            have L5 := hid (L4.out.ext he)
            clear hl ho he hj
            go_wp2
            go_ret
            exact ⟨rfl, ext_keeps HE.out L5.out.kp HB.out⟩
          · go_wp2_with fail
            refine (keys_ls HH.out.li (by omega) (l := 0) (by decide)).mono ?_
            rintro e w5 ⟨js, v, hl, rfl, ho, he⟩
            have hj : js.length = 0 := hl.len.trans hc0
            rw [hj] at ho
            obtain ⟨aj, cj, rfl, _⟩ := len_of ho
            have L5 := hid (HH.out.ext he)
            clear hl ho he hj
            go_wp2_with fail
            refine (keys_bad lb (-1) (.inl (by decide)) _).mono ?_
            rintro e w6 ⟨v, rfl, ho, he⟩
            obtain ⟨aj, cj, rfl, _⟩ := len_of ho
            have L6 := hid (L5.out.ext he)
            clear ho he
            go_wp2
            go_ret
            exact ⟨rfl, ext_keeps HE.out L6.out.kp HB.out⟩
end Go.Proofs.Ytkoakneibonjhaa
