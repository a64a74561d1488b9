/- Files that a crash cuts: the contracts once more, with the layout hidden: what is one's own since a world, and two that lie apart. -/
import Derived.Test.YtjekfifnhdoamaaSfC
import Derived.Test.YtjekfifnhdoamaaSf9
import Derived.Lib.SmallJoins
set_option linter.unusedSimpArgs false
set_option linter.unusedVariables false
set_option linter.unnecessarySimpa false
namespace Go.Proofs.Ytjekfifnhdoamaa
open Go.RowKit Go.Rg Go.St

/-- a file system of one's own at p: all its blocks are new since w0 -/
def Own (w0 w : World) (p : Nat) (M : FsM) : Prop := ∃ L : FL, L.fb = p ∧ FsAt w L M ∧ M.Ok ∧ Ext w0 w ∧ ∀ k, FsFoot L k → w0.heap.size ≤ k
theorem Own.go {w0 w w' : World} {p : Nat} {M : FsM} (h : Own w0 w p M) (he : Ext w w') : Own w0 w' p M := by
  obtain ⟨L, e, h1, h2, h3, h4⟩ := h
  exact ⟨L, e, h1.ext he, h2, h3.tr he, h4⟩
theorem Own.ext {w0 w : World} {p : Nat} {M : FsM} (h : Own w0 w p M) : Ext w0 w := by
  obtain ⟨L, e, h1, h2, h3, h4⟩ := h
  exact h3
theorem own_res {w0 w w' : World} {L : FL} {M M' : FsM} (h3 : Ext w0 w) (h4 : ∀ k, FsFoot L k → w0.heap.size ≤ k) (h : FsRes L w M' w') (ok : M'.Ok) : Own w0 w' L.fb M' := by
  obtain ⟨L', e1, g1, g2, g3⟩ := h
  exact ⟨L', e1, g1, ok, ext_chB h3 g2 h4, fun k hk => (g3 k hk).elim (h4 k) (Nat.le_trans h3.size)⟩
/-- new since w0, there at w -/
def Mid (w0 w : World) (k : Nat) : Prop := w0.heap.size ≤ k ∧ k < w.heap.size
def OwnP (w0 w wx : World) (p : Nat) (r : Value) (M' : FsM) (e : Ending) (w' : World) : Prop := e = .returned r ∧ Own w0 w' p M' ∧ Ch (Mid w0 w) wx w'
theorem own_fin {w0 w wx : World} {L : FL} {M M' : FsM} {r : Value} {e : Ending} {w' : World} (h1 : FsAt w L M) (h3 : Ext w0 w) (h4 : ∀ k, FsFoot L k → w0.heap.size ≤ k) (he : Ext w wx) (ok : M'.Ok) (h : FsPost L wx r M' e w') : OwnP w0 w wx L.fb r M' e w' :=
  ⟨h.1, own_res (M := M) (h3.tr he) h4 h.2 ok, by
    obtain ⟨L', e1, g1, g2, g3⟩ := h.2
    exact g2.mono fun k _ hk => ⟨h4 k hk, h1.foot_lt hk⟩⟩
theorem own_new {w0 w : World} (he : Ext w0 w) (q : Nat) (hq : q ≤ 1048576) : Calls Try.prog 25 #[.int .i64 (q : Nat)] w (fun e w' => ∃ p, e = .returned (.tuple #[.pointer (some ⟨p, 0, none⟩), .int .i64 0]) ∧ Own w0 w' p (FsM.new q)) := by
  refine (fsnew_in (q : Nat) w).mono ?_
  rintro e w' (⟨hq2, _⟩ | ⟨L, k, hk, hk2, rfl, h1, h2, h3⟩)
  · omega
  · obtain rfl : q = k := by omega
    exact ⟨L.fb, rfl, L, rfl, h1, fsNew_ok hk2, he.tr h2, fun b hb => Nat.le_trans he.size (h3 b hb)⟩
theorem own_create {w0 w wx : World} {p : Nat} {M : FsM} (h : Own w0 w p M) (he : Ext w wx) (n : ByteArray) (ho : M.ops < OpsMax) (hn : n.size ≤ 140737488355328) : Calls Try.prog 26 #[.pointer (some ⟨p, 0, none⟩), .string n] wx (OwnP w0 w wx p (.int .i64 (M.create n).1) (M.create n).2) := by
  obtain ⟨L, rfl, h1, h2, h3, h4⟩ := h
  exact (fsCreate_in L M n wx (h1.ext he) h2 ho hn).mono fun e w' hp => own_fin h1 h3 h4 he (create_ok h2 n) hp
theorem own_append {w0 w wx : World} {p : Nat} {M : FsM} (h : Own w0 w p M) (he : Ext w wx) (n : ByteArray) {vb : Value} {bs : List UInt8} (hs : SlB wx vb bs) (hb : bs.length ≤ 140737488355328) (ho : M.ops < OpsMax) : Calls Try.prog 28 #[.pointer (some ⟨p, 0, none⟩), .string n, vb] wx (OwnP w0 w wx p (.int .i64 (M.append n bs).1) (M.append n bs).2) := by
  obtain ⟨L, rfl, h1, h2, h3, h4⟩ := h
  exact (fsAppend_in L M n vb bs wx (h1.ext he) h2 ho hs hb).mono fun e w' hp => own_fin h1 h3 h4 he (append_ok h2 n bs) hp
theorem own_sync {w0 w wx : World} {p : Nat} {M : FsM} (h : Own w0 w p M) (he : Ext w wx) (n : ByteArray) (ho : M.ops < OpsMax) : Calls Try.prog 30 #[.pointer (some ⟨p, 0, none⟩), .string n] wx (OwnP w0 w wx p (.int .i64 (M.sync n).1) (M.sync n).2) := by
  obtain ⟨L, rfl, h1, h2, h3, h4⟩ := h
  exact (fsSync_in L M n wx (h1.ext he) h2 ho).mono fun e w' hp => own_fin h1 h3 h4 he (sync_ok h2 n) hp
theorem own_rename {w0 w wx : World} {p : Nat} {M : FsM} (h : Own w0 w p M) (he : Ext w wx) (n m : ByteArray) (ho : M.ops < OpsMax) (hm : m.size ≤ 140737488355328) : Calls Try.prog 32 #[.pointer (some ⟨p, 0, none⟩), .string n, .string m] wx (OwnP w0 w wx p (.int .i64 (M.rename n m).1) (M.rename n m).2) := by
  obtain ⟨L, rfl, h1, h2, h3, h4⟩ := h
  exact (fsRename_in L M n m wx (h1.ext he) h2 ho hm).mono fun e w' hp => own_fin h1 h3 h4 he (rename_ok h2 n m) hp
theorem own_remove {w0 w wx : World} {p : Nat} {M : FsM} (h : Own w0 w p M) (he : Ext w wx) (n : ByteArray) (ho : M.ops < OpsMax) : Calls Try.prog 42 #[.pointer (some ⟨p, 0, none⟩), .string n] wx (OwnP w0 w wx p (.int .i64 (M.remove n).1) (M.remove n).2) := by
  obtain ⟨L, rfl, h1, h2, h3, h4⟩ := h
  exact (fsRemove_in L M n wx (h1.ext he) h2 ho).mono fun e w' hp => own_fin h1 h3 h4 he (remove_ok h2 n) hp
theorem own_syncDir {w0 w wx : World} {p : Nat} {M : FsM} (h : Own w0 w p M) (he : Ext w wx) (ho : M.ops < OpsMax) : Calls Try.prog 31 #[.pointer (some ⟨p, 0, none⟩)] wx (OwnP w0 w wx p (.int .i64 M.syncDir.1) M.syncDir.2) := by
  obtain ⟨L, rfl, h1, h2, h3, h4⟩ := h
  exact (fsSyncDir_in L M wx (h1.ext he) h2 ho).mono fun e w' hp => own_fin h1 h3 h4 he (syncDir_ok h2) hp
theorem own_fuse {w0 w wx : World} {p : Nat} {M : FsM} (h : Own w0 w p M) (he : Ext w wx) (n : Int) (hn : n < 9223372036854775808) : Calls Try.prog 27 #[.pointer (some ⟨p, 0, none⟩), .int .i64 n] wx (OwnP w0 w wx p (.tuple #[]) (M.setFuse n)) := by
  obtain ⟨L, rfl, h1, h2, h3, h4⟩ := h
  exact (fsFuse_in L M n wx (h1.ext he)).mono fun e w' hp => own_fin h1 h3 h4 he (setFuse_ok h2 n hn) hp
theorem own_fail {w0 w wx : World} {p : Nat} {M : FsM} (h : Own w0 w p M) (he : Ext w wx) (n : Int) (hn : n < 9223372036854775808) : Calls Try.prog 41 #[.pointer (some ⟨p, 0, none⟩), .int .i64 n] wx (OwnP w0 w wx p (.tuple #[]) (M.setFail n)) := by
  obtain ⟨L, rfl, h1, h2, h3, h4⟩ := h
  exact (fsFail_in L M n wx (h1.ext he)).mono fun e w' hp => own_fin h1 h3 h4 he (setFail_ok h2 n hn) hp
theorem own_damage {w0 w wx : World} {p : Nat} {M : FsM} (h : Own w0 w p M) (he : Ext w wx) (n : ByteArray) (i : Int) (t : UInt8) : Calls Try.prog 43 #[.pointer (some ⟨p, 0, none⟩), .string n, .int .i64 i, .int .u8 t.toNat] wx (OwnP w0 w wx p (.int .i64 (M.damage n i t).1) (M.damage n i t).2) := by
  obtain ⟨L, rfl, h1, h2, h3, h4⟩ := h
  exact (fsDamage_in L M n i t wx (h1.ext he) h2).mono fun e w' hp => own_fin h1 h3 h4 he (damage_ok h2 n i t) hp
theorem own_crash {w0 w wx : World} {p : Nat} {M : FsM} (h : Own w0 w p M) (he : Ext w wx) {vp : Value} {picks : List Int} (hs : SlI wx vp picks) (hap : 0 < picks.length → ∀ k, vp.ownBlock = some k → w.heap.size ≤ k ∨ k < w0.heap.size) (ho : M.ops ≤ OpsMax) : Calls Try.prog 33 #[.pointer (some ⟨p, 0, none⟩), vp] wx (OwnP w0 w wx p (.tuple #[]) (M.crash picks)) := by
  obtain ⟨L, rfl, h1, h2, h3, h4⟩ := h
  exact (fsCrash_in L M vp picks wx (h1.ext he) h2 ho hs fun hpl k hk hf => by
    have a1 := h4 k hf
    have a2 := h1.foot_lt hf
    rcases hap hpl k hk with h | h <;> omega).mono fun e w' hp => own_fin h1 h3 h4 he (crash_ok h2 picks) hp
theorem own_read {w0 w : World} {p : Nat} {M : FsM} (h : Own w0 w p M) (n : ByteArray) : Calls Try.prog 29 #[.pointer (some ⟨p, 0, none⟩), .string n] w (ReadPost M n w) := by
  obtain ⟨L, rfl, h1, h2, h3, h4⟩ := h
  exact fsRead_in L M n w h1 h2
theorem own_list {w0 w : World} {p : Nat} {M : FsM} (h : Own w0 w p M) (ho : M.ops ≤ OpsMax) : Calls Try.prog 35 #[.pointer (some ⟨p, 0, none⟩)] w (ListPost M w) := by
  obtain ⟨L, rfl, h1, h2, h3, h4⟩ := h
  exact fsList_in L M w h1 h2 ho
theorem own_ops {w0 w : World} {p : Nat} {M : FsM} (h : Own w0 w p M) : Calls Try.prog 44 #[.pointer (some ⟨p, 0, none⟩)] w (fun e w' => e = .returned (.int .i64 (M.ops : Nat)) ∧ w = w') := by
  obtain ⟨L, rfl, h1, h2, h3, h4⟩ := h
  exact fsOps_in L M w h1
/-- two of one's own that lie apart -/
def Two (w0 w : World) (p : Nat) (M : FsM) (q : Nat) (N : FsM) : Prop :=
  ∃ L1 L2 : FL, L1.fb = p ∧ L2.fb = q ∧ FsAt w L1 M ∧ M.Ok ∧ FsAt w L2 N ∧ N.Ok ∧ Ext w0 w ∧ (∀ k, FsFoot L1 k → w0.heap.size ≤ k) ∧ (∀ k, FsFoot L2 k → w0.heap.size ≤ k) ∧ ∀ k, FsFoot L1 k → ¬ FsFoot L2 k
theorem Two.one {w0 w : World} {p q : Nat} {M N : FsM} (h : Two w0 w p M q N) : Own w0 w p M := by
  obtain ⟨L1, L2, e1, e2, h1, h2, h3, h4, h5, h6, h7, h8⟩ := h
  exact ⟨L1, e1, h1, h2, h5, h6⟩
theorem Two.swap {w0 w : World} {p q : Nat} {M N : FsM} (h : Two w0 w p M q N) : Two w0 w q N p M := by
  obtain ⟨L1, L2, e1, e2, h1, h2, h3, h4, h5, h6, h7, h8⟩ := h
  exact ⟨L2, L1, e2, e1, h3, h4, h1, h2, h5, h7, h6, fun k a b => h8 k b a⟩
theorem Two.go {w0 w w' : World} {p q : Nat} {M N : FsM} (h : Two w0 w p M q N) (he : Ext w w') : Two w0 w' p M q N := by
  obtain ⟨L1, L2, e1, e2, h1, h2, h3, h4, h5, h6, h7, h8⟩ := h
  exact ⟨L1, L2, e1, e2, h1.ext he, h2, h3.ext he, h4, h5.tr he, h6, h7, h8⟩
theorem two_res {w0 w w' : World} {L1 L2 : FL} {M' N : FsM} (h3 : FsAt w L2 N) (h4 : N.Ok) (h5 : Ext w0 w) (h6 : ∀ k, FsFoot L1 k → w0.heap.size ≤ k) (h7 : ∀ k, FsFoot L2 k → w0.heap.size ≤ k) (h8 : ∀ k, FsFoot L1 k → ¬ FsFoot L2 k) (h : FsRes L1 w M' w') (ok : M'.Ok) : Two w0 w' L1.fb M' L2.fb N := by
  obtain ⟨L', e1, g1, g2, g3⟩ := h
  refine ⟨L', L2, e1, rfl, g1, ok, h3.ch g2 fun k hk hf => h8 k hf hk, h4, ext_chB h5 g2 h6, fun k hk => (g3 k hk).elim (h6 k) (Nat.le_trans h5.size), h7, fun k hk hk2 => ?_⟩
  rcases g3 k hk with h | h
  · exact h8 k h hk2
  · have := h3.foot_lt hk2
    omega
def TwoP (w0 w wx : World) (p : Nat) (r : Value) (M' : FsM) (q : Nat) (N : FsM) (e : Ending) (w' : World) : Prop := e = .returned r ∧ Two w0 w' p M' q N ∧ Ch (Mid w0 w) wx w'
theorem own_copy {w0 w : World} {p : Nat} {M : FsM} (h : Own w0 w p M) (ho : M.ops ≤ OpsMax) : Calls Try.prog 34 #[.pointer (some ⟨p, 0, none⟩)] w (fun e w' => ∃ q, e = .returned (.pointer (some ⟨q, 0, none⟩)) ∧ Two w0 w' p M q M) := by
  obtain ⟨L, rfl, h1, h2, h3, h4⟩ := h
  refine (fsCopy_in L M w h1 h2 ho).mono ?_
  rintro e w' ⟨L2, rfl, g1, g2, g3⟩
  exact ⟨L2.fb, rfl, L, L2, rfl, rfl, h1.ext g2, h2, g1, h2, h3.tr g2, h4, fun k hk => Nat.le_trans h3.size (g3 k hk), fun k hk hk2 => by
    have a := h1.foot_lt hk
    have b := g3 k hk2
    omega⟩
theorem two_crash {w0 w wx : World} {p q : Nat} {M N : FsM} (h : Two w0 w p M q N) (he : Ext w wx) {vp : Value} {picks : List Int} (hs : SlI wx vp picks) (hap : 0 < picks.length → ∀ k, vp.ownBlock = some k → w.heap.size ≤ k ∨ k < w0.heap.size) (ho : M.ops ≤ OpsMax) : Calls Try.prog 33 #[.pointer (some ⟨p, 0, none⟩), vp] wx (TwoP w0 w wx p (.tuple #[]) (M.crash picks) q N) := by
  obtain ⟨L1, L2, rfl, rfl, h1, h2, h3, h4, h5, h6, h7, h8⟩ := h
  exact (fsCrash_in L1 M vp picks wx (h1.ext he) h2 ho hs fun hpl k hk hf => by
    have a1 := h6 k hf
    have a2 := h1.foot_lt hf
    rcases hap hpl k hk with h | h <;> omega).mono fun e w' hp => ⟨hp.1, two_res (h3.ext he) h4 (h5.tr he) h6 h7 h8 hp.2 (crash_ok h2 picks), by
    obtain ⟨L', e1, g1, g2, g3⟩ := hp.2
    exact g2.mono fun k _ hk => ⟨h6 k hk, h1.foot_lt hk⟩⟩
/-- a row of bytes written out -/
theorem slB_lit (w : World) (bs : List UInt8) (C : Array Value) (fr : Nat × Nat) (hC : C = (Lib.byteCells bs).toArray) (hl : bs.length ≤ 1000) : SlB (w.alloc (.cells C 5 fr)) (.slice (some ⟨w.heap.size, 0, none⟩) bs.length bs.length) bs := by
  subst hC
  refine ⟨_, _, rfl, Nat.le_refl _, by unfold maxLen; omega, fun _ => ⟨_, 0, rfl, fun i hi => ?_⟩⟩
  rw [Nat.zero_add, World.cell?_alloc_mark, List.getElem?_toArray, bc_nth, if_pos hi]
theorem slI_lit (w : World) (l : List Int) (C : Array Value) (ty : TypeId) (fr : Nat × Nat) (hC : C = (l.map (Value.int .i64)).toArray) (hl : l.length ≤ 1000) (hr : ∀ x, x ∈ l → -9223372036854775808 ≤ x ∧ x < 9223372036854775808) : SlI (w.alloc (.cells C ty fr)) (.slice (some ⟨w.heap.size, 0, none⟩) l.length l.length) l := by
  subst hC
  refine ⟨⟨_, _, rfl, Nat.le_refl _, by unfold maxLen; omega, fun _ => ⟨_, 0, rfl, fun i hi => ?_⟩⟩, hr⟩
  rw [Nat.zero_add, World.cell?_alloc_mark, List.getElem?_toArray]
  simp [nth, hi]
/-- string(b) -/
theorem conv_slB {w : World} {v : Value} {bs : List UInt8} (h : SlB w v bs) : (convert 53 9 v).run Try.prog w = .ok (.string ⟨bs.toArray⟩) w := by
  obtain ⟨a, cap, rfl, h1, h2, h3⟩ := h.ex
  cases bs with
  | nil =>
    cases a with
    | none => exact run_convert_bytes_nil w _ 5 Try.underlying53 Try.underlying5 _ _ _ Try.underlying9
    | some ad => exact run_convert_bytes_back w _ _ 5 ad cap [] Try.underlying53 Try.underlying5 Try.underlying9 (fun j hj => by cases hj)
  | cons b l =>
    obtain ⟨g, off, rfl, hc⟩ := h3 (Nat.succ_pos _)
    refine run_convert_bytes_back w _ _ 5 _ cap (b :: l) Try.underlying53 Try.underlying5 Try.underlying9 (fun j hj => ?_)
    have hx := hc j hj
    have e : (nth (b :: l) j) = (b :: l)[j] := by unfold nth; rw [List.getD_eq_getElem?_getD, List.getElem?_eq_getElem hj]; rfl
    rw [e] at hx
    have hp : (⟨g, off, none⟩ : Addr).add j = ⟨g, off + j, none⟩ := by unfold Addr.add; split <;> simp_all
    rw [hp]
    exact hx
/-- a row that is newer than w stays -/
theorem sl1_mid {w0 w wx w' : World} {v : Value} {n : Nat} {c : Nat → Value} (h : Sl1 wx v n c) (hc : Ch (Mid w0 w) wx w') (hv : ∀ k, v.ownBlock = some k → k < w0.heap.size ∨ w.heap.size ≤ k) : Sl1 w' v n c := by
  obtain ⟨a, cap, rfl, h1, h2, h3⟩ := h.ex
  refine ⟨a, cap, rfl, h1, h2, fun hn => ?_⟩
  obtain ⟨b, off, rfl, h4⟩ := h3 hn
  refine ⟨b, off, rfl, fun i hi => (World.cell?_of_block (a := ⟨b, off + i, none⟩) (hc.block b (cell_lt (h4 i hi)) ?_)).trans (h4 i hi)⟩
  rintro ⟨h5, h6⟩
  rcases hv b rfl with h | h <;> omega
theorem owns_mid {w0 w wx w' : World} {v : Value} {n base sz : Nat} {ty : TypeId} {xs : List Value} (h : wx.ownsRow base ty sz v n xs) (hb : w.heap.size ≤ base) : ∀ k, v.ownBlock = some k → k < w0.heap.size ∨ w.heap.size ≤ k := fun k hk => by
  rcases h.2 with ⟨rfl, _⟩ | ⟨g, c, cur, rfl, hg, _⟩
  · cases hk
  · cases hk
    exact .inr (Nat.le_trans hb hg)
/-- where a row of arguments lies -/
theorem sl1_lt {w : World} {v : Value} {n : Nat} {c : Nat → Value} (h : Sl1 w v n c) (hn : 0 < n) : ∀ k, v.ownBlock = some k → k < w.heap.size := fun k hk => by
  obtain ⟨a, cap, rfl, h1, h2, h3⟩ := h.ex
  obtain ⟨b, off, rfl, h4⟩ := h3 hn
  cases hk
  exact cell_lt (h4 0 hn)
theorem read_slB {w w' : World} {v : Value} {l : List UInt8} (h : BytesNew w l v w') : SlB w' v l := owns_slB h.1
end Go.Proofs.Ytjekfifnhdoamaa
