/- Two lists of package skip, side by side. -/
import Derived.Test.YticmnmdokoonjaaSk14
import Derived.Test.YticmnmdokoonjaaLawSk2
set_option linter.unusedSimpArgs false
set_option linter.unusedVariables false
set_option linter.unnecessarySimpa false
namespace Go.Proofs.Yticmnmdokoonjaa
open Go.RowKit Go.Rg Go.St

structure Two (B B2 lb mb : Nat) (w0 w : World) (K KL KM : SK) (kv hv : Value) : Prop where
  ll : ∃ L M, L.lb = lb ∧ M.lb = mb ∧ Rep w L KL ∧ Rep w M KM ∧ (∀ b, Foot L KL.n b → ¬ Foot M KM.n b) ∧ (∀ b, Foot L KL.n b → B ≤ b) ∧ (∀ b, Foot M KM.n b → B ≤ b)
  il : Inv KL
  im : Inv KM
  sl : Same K KL
  sm : Same K KM
  ks : w.ownsRow B2 9 1 kv K.n ((keysK K).map .string)
  hs : w.ownsRow B2 3 1 hv K.n ((htsK K).map fun h => .int .i64 (h : Nat))
  ex : Ext w0 w
  le : w0.heap.size ≤ B

theorem Two.left {B B2 lb mb : Nat} {w0 w : World} {K KL KM : SK} {kv hv : Value} (h : Two B B2 lb mb w0 w K KL KM kv hv) :
    ∃ L, L.lb = lb ∧ Rep w L KL ∧ ∀ w' KL', Rep w' L KL' → Inv KL' → Same K KL' → Ch (Foot L KL.n) w w' → Two B B2 lb mb w0 w' K KL' KM kv hv := by
  obtain ⟨L, M, h1, h2, h3, h4, h5, h6, h7⟩ := h.ll
  refine ⟨L, h1, h3, fun w' KL' hr hi hs hc => ?_⟩
  have hn : KL'.n = KL.n := hs.n.trans h.sl.n.symm
  have hk := Keeps.of_ch h3 h6 hc
  refine ⟨⟨L, M, h1, h2, hr, h4.go hc (fun k hk hF => h5 k hF hk), by rw [hn]; exact h5, by rw [hn]; exact h6, h7⟩, hi, h.im, hs, h.sm, owns_keeps h.ks hk (by simp [skipTy]), owns_keeps h.hs hk (by simp [skipTy]), ext_keeps h.ex hk h.le, h.le⟩
theorem Two.right {B B2 lb mb : Nat} {w0 w : World} {K KL KM : SK} {kv hv : Value} (h : Two B B2 lb mb w0 w K KL KM kv hv) :
    ∃ M, M.lb = mb ∧ Rep w M KM ∧ ∀ w' KM', Rep w' M KM' → Inv KM' → Same K KM' → Ch (Foot M KM.n) w w' → Two B B2 lb mb w0 w' K KL KM' kv hv := by
  obtain ⟨L, M, h1, h2, h3, h4, h5, h6, h7⟩ := h.ll
  refine ⟨M, h2, h4, fun w' KM' hr hi hs hc => ?_⟩
  have hn : KM'.n = KM.n := hs.n.trans h.sm.n.symm
  have hk := Keeps.of_ch h4 h7 hc
  refine ⟨⟨L, M, h1, h2, h3.go hc (fun k hk hF => h5 k hk hF), hr, by rw [hn]; exact h5, h6, by rw [hn]; exact h7⟩, h.il, hi, h.sl, hs, owns_keeps h.ks hk (by simp [skipTy]), owns_keeps h.hs hk (by simp [skipTy]), ext_keeps h.ex hk h.le, h.le⟩
theorem Two.ext {B B2 lb mb : Nat} {w0 w w' : World} {K KL KM : SK} {kv hv : Value} (h : Two B B2 lb mb w0 w K KL KM kv hv) (he : Ext w w') : Two B B2 lb mb w0 w' K KL KM kv hv := by
  obtain ⟨L, h1, h2, h3⟩ := h.left
  exact h3 w' KL (h2.ext he) h.il h.sl (Ch.of_ext he)
theorem Two.la {B B2 lb mb : Nat} {w0 w : World} {K KL KM : SK} {kv hv : Value} (h : Two B B2 lb mb w0 w K KL KM kv hv) : ListAt B lb w KL := by
  obtain ⟨L, M, h1, h2, h3, h4, h5, h6, h7⟩ := h.ll
  exact ⟨h.il, L, h1, h3, h6⟩
theorem Two.ma {B B2 lb mb : Nat} {w0 w : World} {K KL KM : SK} {kv hv : Value} (h : Two B B2 lb mb w0 w K KL KM kv hv) : ListAt B mb w KM := by
  obtain ⟨L, M, h1, h2, h3, h4, h5, h6, h7⟩ := h.ll
  exact ⟨h.im, M, h2, h4, h7⟩
theorem Two.keyc {B B2 lb mb : Nat} {w0 w : World} {K KL KM : SK} {kv hv : Value} (h : Two B B2 lb mb w0 w K KL KM kv hv) : Sl1 w hv K.n (fun i => .int .i64 (K.ht i : Nat)) :=
  Sl1.cong (owns_sl1 h.hs) fun i hi => by simp [htsK, hi]

theorem two_step {B B2 lb mb : Nat} {w0 w : World} {K KL KM : SK} {kv hv : Value} (h : Two B B2 lb mb w0 w K KL KM kv hv) {q : Nat} (hq : q < K.n) :
    Calls Try.prog 32 #[.pointer (some ⟨lb, 0, none⟩), .int .i64 q] w (fun e w' => e = .returned (.tuple #[.bool (decide ((stepK KL q).lv q = KL.ht q)), .int .i64 0]) ∧ Two B B2 lb mb w0 w' K (stepK KL q) KM kv hv) := by
  obtain ⟨L, rfl, h2, h3⟩ := h.left
  have hq' : q < KL.n := by rw [h.sl.n]; exact hq
  have hs : Same K (stepK KL q) := by
    obtain ⟨k1, k2, k3, _⟩ := stepK_n KL q
    exact ⟨k1.trans h.sl.n, k2.trans h.sl.key, k3.trans h.sl.ht⟩
  refine (step_rep h2 h.il hq').mono ?_
  rintro e w' ⟨rfl, k1, k2⟩
  exact ⟨rfl, h3 w' _ k1 (h.il.step hq') hs k2⟩
theorem two_wholeL {B B2 lb mb : Nat} {w0 w : World} {K KL KM : SK} {kv hv : Value} (h : Two B B2 lb mb w0 w K KL KM kv hv) {i : Nat} (hi : i < K.n) (most : Int) (hm : ((K.ht i * (K.n + 10) + 2 : Nat) : Int) ≤ most) (hmm : most ≤ 1000000000) :
    Calls Try.prog 37 #[.pointer (some ⟨lb, 0, none⟩), .int .i64 i, .int .i64 most] w (fun e w' => ∃ d : Nat, d ≤ K.ht i * (K.n + 10) + 2 ∧ (runK KL i (d + 1)).lv i = K.ht i ∧ e = .returned (.int .i64 ((d : Int) + 1)) ∧ Two B B2 lb mb w0 w' K (runK KL i (d + 1)) KM kv hv) := by
  obtain ⟨L, rfl, h2, h3⟩ := h.left
  have hi' : i < KL.n := by rw [h.sl.n]; exact hi
  obtain ⟨d, hd, h4, h5⟩ := first_done h.il hi'
  rw [h.sl.n, h.sl.ht] at hd
  refine (whole_rep h2 h.il hi' h4 h5 most (by omega) hmm).mono ?_
  rintro e w' ⟨rfl, k1, k2⟩
  exact ⟨d, hd, by rw [h4, h.sl.ht], rfl, h3 w' _ k1 (runK_inv h.il hi' (d + 1)).1 (h.sl.run h.il hi' (d + 1)) k2⟩
theorem two_wholeM {B B2 lb mb : Nat} {w0 w : World} {K KL KM : SK} {kv hv : Value} (h : Two B B2 lb mb w0 w K KL KM kv hv) {i : Nat} (hi : i < K.n) (most : Int) (hm : ((K.ht i * (K.n + 10) + 2 : Nat) : Int) ≤ most) (hmm : most ≤ 1000000000) :
    Calls Try.prog 37 #[.pointer (some ⟨mb, 0, none⟩), .int .i64 i, .int .i64 most] w (fun e w' => ∃ d : Nat, d ≤ K.ht i * (K.n + 10) + 2 ∧ (runK KM i (d + 1)).lv i = K.ht i ∧ e = .returned (.int .i64 ((d : Int) + 1)) ∧ Two B B2 lb mb w0 w' K KL (runK KM i (d + 1)) kv hv) := by
  obtain ⟨M, rfl, h2, h3⟩ := h.right
  have hi' : i < KM.n := by rw [h.sm.n]; exact hi
  obtain ⟨d, hd, h4, h5⟩ := first_done h.im hi'
  rw [h.sm.n, h.sm.ht] at hd
  refine (whole_rep h2 h.im hi' h4 h5 most (by omega) hmm).mono ?_
  rintro e w' ⟨rfl, k1, k2⟩
  exact ⟨d, hd, by rw [h4, h.sm.ht], rfl, h3 w' _ k1 (runK_inv h.im hi' (d + 1)).1 (h.sm.run h.im hi' (d + 1)) k2⟩

/-- two rising lists of the same ones are the same -/
theorem rises_one {key : Nat → ByteArray} : ∀ {js ks : List Nat}, Rises key js → Rises key ks → (∀ j, j ∈ js ↔ j ∈ ks) → js = ks
  | [], [], _, _, _ => rfl
  | [], k :: ks, _, _, h => by have := (h k).2 (by simp); cases this
  | j :: js, [], _, _, h => by have := (h j).1 (by simp); cases this
  | j :: js, k :: ks, h1, h2, h => by
    have p1 := List.pairwise_cons.1 h1
    have p2 := List.pairwise_cons.1 h2
    have e : j = k := by
      rcases List.mem_cons.1 ((h j).1 (by simp)) with e | hj
      · exact e
      · rcases List.mem_cons.1 ((h k).2 (by simp)) with e | hk
        · exact e.symm
        · have a := p1.1 k hk
          have b := p2.1 j hj
          rw [kl_asymm a] at b; cases b
    subst e
    have n1 := Rises.nodup h1
    have n2 := Rises.nodup h2
    rw [rises_one (js := js) (ks := ks) p1.2 p2.2 (fun x => ?_)]
    constructor
    · intro hx
      rcases List.mem_cons.1 ((h x).1 (List.mem_cons_of_mem _ hx)) with e | e
      · subst e; exact absurd hx (List.nodup_cons.1 n1).1
      · exact e
    · intro hx
      rcases List.mem_cons.1 ((h x).2 (List.mem_cons_of_mem _ hx)) with e | e
      · subst e; exact absurd hx (List.nodup_cons.1 n2).1
      · exact e
theorem same_levels {K KL KM : SK} (hl : Same K KL) (hm : Same K KM) (dl : ∀ j, j < K.n → KL.lv j = K.ht j) (dm : ∀ j, j < K.n → KM.lv j = K.ht j) {l : Nat} {js ks : List Nat} (h1 : Lvl KL l js) (h2 : Lvl KM l ks) : keysOf KL js = keysOf KM ks := by
  have : js = ks := by
    refine rises_one (key := K.key) (by rw [← hl.key]; exact h1.up) (by rw [← hm.key]; exact h2.up) fun j => ?_
    rw [h1.mem, h2.mem, hl.n, hm.n]
    constructor
    · rintro ⟨a, b⟩; exact ⟨a, by rw [dm j a]; rw [dl j a] at b; exact b⟩
    · rintro ⟨a, b⟩; exact ⟨a, by rw [dl j a]; rw [dm j a] at b; exact b⟩
  subst this
  unfold keysOf
  rw [hl.key, hm.key]

theorem ch_keepL {Lo : Nat → Prop} {w w' : World} (h : KeepL Lo w w') : Ch (fun b => ¬ Lo b) w w' := ⟨h.os, h.tape, h.output, h.size, fun k hk hn => h.low k hk (Classical.not_not.1 hn)⟩
theorem ext_keepL {Lo : Nat → Prop} {w w2 w' : World} (h : Ext w w2) (k : KeepL Lo w2 w') (hB : ∀ b, b < w.heap.size → Lo b) : Ext w w' :=
  h.trans ⟨k.os, k.tape, k.output, k.size, fun b hb => k.low b (Nat.lt_of_lt_of_le hb h.size) (hB b hb)⟩
theorem Rep.foot_lt {w : World} {L : Loc} {K : SK} (h : Rep w L K) {b : Nat} (hb : Foot L K.n b) : b < w.heap.size := by
  rcases h.foot hb with ⟨es, c, h1⟩ | ⟨cs, T, fr, h1, _⟩
  · exact blk_lt h1
  · exact blk_lt h1

theorem two_of {B lb mb : Nat} {w0 w3 w4 : World} {K : SK} {kv hv : Value} (hB : w0.heap.size ≤ B) (hB3 : B ≤ w3.heap.size) (he : Ext w0 w3) {M : Loc} (hM : Rep w3 M (SK.new 1000)) (hMlb : M.lb = mb) (hMf : ∀ b, Foot M 0 b → B ≤ b)
    (h4 : BegunL (fun b => b < B ∨ Foot M 0 b) lb w3 w4 K kv hv) :
    ∃ L4, ListL (fun b => b < B ∨ Foot L4 K.n b) mb w4 (SK.new 1000) ∧ (∀ b, (b < B ∨ Foot L4 K.n b) → b < w4.heap.size) ∧ Ext w0 w4 ∧
      ∀ w5 kv2 hv2, BegunL (fun b => b < B ∨ Foot L4 K.n b) mb w4 w5 K kv2 hv2 → Two B w3.heap.size lb mb w0 w5 K K K kv hv := by
  obtain ⟨hI, L4, hLlb, hL, hLf⟩ := h4.li
  have hM4 := hM.go (ch_keepL h4.kp) (fun k hk hn => hn (.inr hk))
  have hE4 := ext_keepL he h4.kp (fun b hb => .inl (by omega))
  refine ⟨L4, ⟨Inv.new 1000, M, hMlb, hM4, fun b hb hlo => ?_⟩, fun b hb => ?_, hE4, fun w5 kv2 hv2 h5 => ?_⟩
  · rcases hlo with h | h
    · have := hMf b hb; omega
    · exact hLf b h (.inr hb)
  · rcases hb with h | h
    · have := h4.kp.size; omega
    · exact hL.foot_lt h
  · obtain ⟨hI5, M5, hM5lb, hM5, hM5f⟩ := h5.li
    have hL5 := hL.go (ch_keepL h5.kp) (fun k hk hn => hn (.inr hk))
    refine ⟨⟨L4, M5, hLlb, hM5lb, hL5, hM5, fun b hb hb2 => hM5f b hb2 (.inr hb), fun b hb => ?_, fun b hb => ?_⟩, hI, hI5, Same.rfl K, Same.rfl K, owns_keepL h4.ks h5.kp (by simp [skipTy]), owns_keepL h4.hs h5.kp (by simp [skipTy]), ext_keepL hE4 h5.kp (fun b hb => .inl (by omega)), hB⟩
    · have := hLf b hb
      exact Nat.le_of_not_lt fun h => this (.inl h)
    · have := hM5f b hb
      exact Nat.le_of_not_lt fun h => this (.inl h)
end Go.Proofs.Yticmnmdokoonjaa
