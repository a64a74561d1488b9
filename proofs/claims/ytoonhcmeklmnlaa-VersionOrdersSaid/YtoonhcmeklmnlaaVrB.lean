/- Files asked for; the calls at all statements' head. -/
import Derived.Test.YtoonhcmeklmnlaaVrA
set_option linter.unusedSimpArgs false
set_option linter.unusedVariables false
set_option linter.unnecessarySimpa false
namespace Go.Proofs.Ytoonhcmeklmnlaa
open Go.RowKit Go.Rg Go.St

theorem run_app_nil (a : Option Addr) (n c : Nat) (ty : TypeId) (w : World) (h : n ≤ c) :
    (Builtin.append_ #[64, 64] ty #[.slice a n c, .slice none 0 0]).run Try.prog w = .ok (.slice a n c) w := by
  obtain ⟨i, z, hi, hz, h2, h3, h4⟩ := elF_parts
  have ht := Try.underlying64
  cases a <;> simp [Builtin.append_, run_underlying ht, sizeOf, typeInfo, zeroValue, hi, hz, h2, h, Builtin.lenOf, Builtin.firstCells, storeCells]
theorem wpList_appF {w : World} {ops : Array Oper} {rest : List Oper} {o : Oper} {a : Act} {Q : Exit → Act → World → Prop} (hgd : o.guard = none) (d s : Operand) (t t' : TypeId)
    (ho : o.op = .call { callee := .builtin .append, args := #[d, s], argTypes := #[t, t'] }) (v u : Value) (hd : a.eval d = v) (hs : a.eval s = u) {v' : Value} {w' : World}
    (hr : (Builtin.append_ #[t, t'] o.type #[v, u]).run Try.prog w = .ok v' w') (h : wpList Try.prog ops Q rest (a.put o.dst v') w') : wpList Try.prog ops Q (o :: rest) a w :=
  wpList_plain hgd fun K hK => by
    unfold Oper.wp execOp
    simp only [ho, resolve, invoke, builtin, Sem.run_bind, Sem.run_pure, Result.andThen_ok, List.map_toArray, List.map_cons, List.map_nil, hd, hs, hr]
    exact hK _ _ h
def askTo (u : ByteArray) (V : Lv) : Nat → List File
  | 0 => []
  | n + 1 => askTo u V n ++ ovs u u (V n)
theorem askTo_len (u : ByteArray) (V : Lv) (hn : ∀ n, n < 4 → (V n).length ≤ 200000) : ∀ n, n ≤ 4 → (askTo u V n).length ≤ n * 200000
  | 0, _ => Nat.le_refl _
  | n + 1, h => by
    have h1 := askTo_len u V hn n (by omega)
    have h2 := hn n (by omega)
    have h3 : (ovs u u (V n)).length ≤ (V n).length := List.length_filter_le _ _
    show (askTo u V n ++ ovs u u (V n)).length ≤ _
    rw [List.length_append]
    omega
theorem own_news {w : World} {base : Nat} {v : Value} {xs : List File} (h : OwnFiles w base v xs) : (∃ ad c, v = .slice (some ad) xs.length c ∧ ∀ j u, (xs.flatMap eFile)[j]? = some u → w.cell? (ad.add j) = some u) ∨ (v = .slice none 0 0 ∧ xs = []) := by
  rcases h.2 with ⟨rfl, e2⟩ | ⟨g, cap, cur, rfl, hb, hg, hnc, hcm, hcs, htk⟩
  · exact .inr ⟨rfl, List.eq_nil_of_length_eq_zero e2⟩
  · refine .inl ⟨_, cap, rfl, fun j u hu => ?_⟩
    rw [← htk, List.getElem?_take] at hu
    split at hu
    · rw [Addr.add_lit, Nat.zero_add, cell_of_row _ _ _ _ _ _ hg, ← Array.getElem?_toList]; exact hu
    · cases hu
set_option maxRecDepth 100000 in
set_option maxHeartbeats 2000000 in
theorem ask_in (v0 v1 v2 v3 : Value) (V : Lv) (u : ByteArray) (w : World) (hV : Ver w v0 v1 v2 v3 V) (hn : ∀ n, n < 4 → (V n).length ≤ 200000) :
    Calls Try.prog 47 #[.agg #[v0, v1, v2, v3], .string u] w (FilesExt (askTo u V 4) w) := by
  have HV := hid hV
  have HN := hid hn
  clear hV hn
  go_enter Try.func47, Try.ntmps47
  go_wp2_with fail
  have B0 := hid (heap_alloc_new w (Obj.cells #[v0, v1, v2, v3] 67))
  obtain ⟨B, HBX, HB1⟩ : ∃ B, Hid (∀ w', Below B w w' → Ext w w') ∧ Hid (B = w.heap.size) := ⟨_, fun _ h => h, rfl⟩
  have E1 := hid (show Below B w (w.alloc (Obj.cells #[v0, v1, v2, v3] 67)) by rw [HB1.out]; exact (Ext.rfl w).al _)
  have hlt1 : w.heap.size < (w.alloc (Obj.cells #[v0, v1, v2, v3] 67)).heap.size := by rw [alloc_size]; omega
  generalize w.alloc (Obj.cells #[v0, v1, v2, v3] 67) = w1 at *
  generalize hgq : w.heap.size = g at *
  have HGQ := hid hgq
  clear hgq
  go_loopw [5, 7] (fun o t wr => ∃ n : Nat, n ≤ 4 ∧ t = .int .i64 n ∧ Ext w1 wr ∧ OwnFiles wr w1.heap.size o (askTo u V n)) (fun _ t _ => 4 - (intOf t).toNat)
  case atStart => exact ⟨0, by omega, rfl, Ext.rfl _, World.ownsRow_nil _ _ _ _⟩
  case round =>
    obtain ⟨n, hn, rfl, he, hown⟩ := hrel
    have HE := hid he
    have HO := hid hown
    clear he hown
    by_cases hlt : n < 4
    · have HVR := hid (HV.out.go (HBX.out _ (Below.trans E1.out (Below.mono HE.out (Nat.le_of_lt (by rw [HB1.out]; exact hlt1))))))
      obtain ⟨c0, c1, c2, c3⟩ := ver_cells ((HE.out.block _ hlt1).trans B0.out)
      have dn : decide ((n : Int) < 4) = true := decide_eq_true (by omega)
      have hal := askTo_len u V HN.out n (by omega)
      have hol := HN.out n hlt
      have hfl : (ovs u u (V n)).length ≤ (V n).length := List.length_filter_le _ _
      go_wp2_with fail
      refine (vover_in v0 v1 v2 v3 V n _ rfl hlt u u _ HVR.out (by omega)).mono ?_
      rintro e w2 ⟨v2', rfl, ho, he2⟩
      have E2 := hid (HE.out.tr he2)
      have O2 := hid (owns_ext HO.out he2)
      clear c0 c1 c2 c3 he2
      rcases own_news ho with ⟨ad, c, rfl, hnews⟩ | ⟨rfl, hnil⟩
      · have HNW := hid hnews
        clear hnews ho
        go_wp2_with (at_builtin; refine wpList_app el_file rfl O2.out rfl (flat_len _) HNW.out (one_files _) (by omega) E2.out.size ?_; intro v' w4 hown4 hg4 hb4; have O4 := hid hown4; have E4 := hid (Below.trans E2.out hb4); clear hown4 hg4 hb4)
        go_roundw
        case rel =>
          refine ⟨n + 1, by omega, by go_num, E4.out, ?_⟩
          have := O4.out
          unfold OwnFiles
          show World.ownsRow _ _ _ _ _ (askTo u V n ++ ovs u u (V n)).length ((askTo u V n ++ ovs u u (V n)).flatMap eFile)
          rw [List.length_append, List.flatMap_append]
          exact this
        case measure => simp [intOf]; omega
      · have hap : askTo u V (n + 1) = askTo u V n := by show _ ++ ovs u u (V n) = _; rw [hnil, List.append_nil]
        have HAP := hid hap
        clear ho hap hnil
        have hform : ∃ a cap, u5 = .slice a (askTo u V n).length cap ∧ (askTo u V n).length ≤ cap := by
          rcases O2.out.2 with ⟨e1, e2⟩ | ⟨g, cap, cur, e1, _, _, hnc, _⟩
          · exact ⟨none, 0, by rw [e1, e2], by omega⟩
          · exact ⟨_, cap, e1, hnc⟩
        obtain ⟨a, cap, rfl, hac⟩ := hform
        go_wp2_with (at_builtin; refine wpList_appF rfl _ _ _ _ rfl _ _ rfl rfl (run_app_nil _ _ _ _ _ hac) ?_)
        go_roundw
        case rel => exact ⟨n + 1, by omega, by go_num, E2.out, by rw [HAP.out]; exact O2.out⟩
        case measure => simp [intOf]; omega
    · obtain rfl : n = 4 := by omega
      go_wp2_with fail
      go_ret
      exact ⟨_, rfl, owns_base HO.out (by rw [HGQ.out]; exact Nat.le_of_lt hlt1), HBX.out _ (Below.trans E1.out (Below.mono HE.out (Nat.le_of_lt (by rw [HB1.out]; exact hlt1))))⟩

set_option maxRecDepth 100000 in
set_option maxHeartbeats 1000000 in
theorem lfile_in (l n : Int) (a b : ByteArray) (w : World) : Calls Try.prog 71 #[.int .i64 l, .int .u64 n, .string a, .string b] w (ValExt (aFile ⟨l, n, 1, ⟨a, 1, 1⟩, ⟨b, 1, 1⟩⟩) w) := by
  go_enter Try.func71, Try.ntmps71
  go_wp2_with fail
  refine bodyPost_ret (v := aFile ⟨l, n, 1, ⟨a, 1, 1⟩, ⟨b, 1, 1⟩⟩) (by simp [results, Try.results71, go_sem]) rfl ⟨rfl, ?_⟩
  exact (Ext.rfl w).al _

/-! ### awake -/
def F3 : File := ⟨1, 3, 1, ⟨⟨#[97]⟩, 1, 1⟩, ⟨⟨#[99]⟩, 1, 1⟩⟩
def F4 : File := ⟨1, 4, 1, ⟨⟨#[99]⟩, 1, 1⟩, ⟨⟨#[100]⟩, 1, 1⟩⟩
def F5 : File := ⟨1, 4, 1, ⟨⟨#[100]⟩, 1, 1⟩, ⟨⟨#[101]⟩, 1, 1⟩⟩
def S1 : Lv := upd noneV 1 [F3]
def S3 : Lv := upd S1 1 [F3, F5]
def edA (f : File) : Ed := ⟨0, 0, 0, [], [f]⟩
theorem verC_none : verC noneV = 0 := verC_ok fun n hn i hi => by simp [noneV] at hi
theorem fileC_3 : fileC F3 = 0 := by
  simp [fileC, placeC, keyC, cmpV, F3, kl, ByteArray.toList_eq, Op.bytesLess, ByteArray.size]
theorem fileC_4 : fileC F4 = 0 := by
  simp [fileC, placeC, keyC, cmpV, F4, kl, ByteArray.toList_eq, Op.bytesLess, ByteArray.size]
theorem fileC_5 : fileC F5 = 0 := by
  simp [fileC, placeC, keyC, cmpV, F5, kl, ByteArray.toList_eq, Op.bytesLess, ByteArray.size]
theorem verC_1 : verC S1 = 0 := verC_ok fun n hn i hi => by
  by_cases h : n = 1
  · subst h
    have : i = 0 := by simp [S1, upd] at hi; exact hi
    subst this
    exact ⟨rfl, by simp [seenL, S1, upd, noneV, List.range_succ], fileC_3, fun h => absurd h (Nat.lt_irrefl _)⟩
  · simp [S1, upd, h, noneV] at hi
theorem apply_1 : applyF noneV (edA F3) = (0, S1) := by
  unfold applyF edA
  rw [verC_none, edC_one, fileC_3]
  rfl
theorem apply_2 : applyF S1 (edA F4) = (143, noneV) := by
  unfold applyF edA
  rw [verC_1, edC_one, fileC_4]
  have h : addE S1 F4 = 143 := by
    unfold addE
    rw [if_neg (by decide), if_pos ⟨by decide, by rw [show S1 F4.level.toNat = [F3] from rfl]; simp [ovs, ov, F3, F4, mnB, mxB, kle, kl, ByteArray.toList_eq, Op.bytesLess]⟩]
  show addsF [F4] S1 = _
  unfold addsF
  rw [h]
  rfl
theorem apply_3 : applyF S1 (edA F5) = (0, S3) := by
  unfold applyF edA
  rw [verC_1, edC_one, fileC_5]
  have h : addE S1 F5 = 0 := by
    unfold addE
    rw [if_neg (by decide), if_neg]
    rintro ⟨_, h⟩
    apply h
    rw [show S1 F5.level.toNat = [F3] from rfl]
    simp [ovs, ov, F3, F5, mnB, mxB, kle, kl, ByteArray.toList_eq, Op.bytesLess]
  show addsF [F5] S1 = _
  unfold addsF
  rw [h]
  have hi : insF F5 [F3] = [F3, F5] := by simp [insF, aheadF, F3, F5, kl, ByteArray.toList_eq, Op.bytesLess]
  show (0, upd S1 1 (insF F5 [F3])) = _
  rw [hi]
  rfl
theorem over_3 : ovs ⟨#[98]⟩ ⟨#[122]⟩ (S3 1) = [F3, F5] := by
  rw [show S3 1 = [F3, F5] from rfl]
  simp [ovs, ov, F3, F5, mnB, mxB, kle, kl, ByteArray.toList_eq, Op.bytesLess]
theorem ask_3 : askTo ⟨#[100]⟩ S3 4 = [F5] := by
  show ((([] ++ ovs _ _ []) ++ ovs _ _ [F3, F5]) ++ ovs _ _ []) ++ ovs _ _ [] = _
  simp [ovs, ov, F3, F5, mnB, mxB, kle, kl, ByteArray.toList_eq, Op.bytesLess]
end Go.Proofs.Ytoonhcmeklmnlaa
