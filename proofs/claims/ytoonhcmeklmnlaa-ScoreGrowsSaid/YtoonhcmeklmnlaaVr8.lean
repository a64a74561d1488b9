/- A file laid into its place among a row's. -/
import Derived.Test.YtoonhcmeklmnlaaVr7
import Derived.Lib.Overlaps
import Derived.Laws.Externs
import Derived.Laws.CopyRow
import Derived.Laws.CopyOwn
import Derived.Lib.AppendZerosOnto
import Derived.Laws.IdiomCopy
set_option linter.unusedSimpArgs false
set_option linter.unusedVariables false
set_option linter.unnecessarySimpa false
namespace Go.Proofs.Ytoonhcmeklmnlaa
open Go.RowKit Go.Rg Go.St

theorem run_copyF (w : World) (ty : TypeId) (g o dLen dCap : Nat) (ad : Addr) (sLen sCap : Nat) (cur : Array Value) (cs : List Value) (n : Nat) (hg : w.heap[g]? = some (.cells cur 80 (0, 0))) (hn : n = Nat.min sLen dLen) (hcl : cs.length = n * 9)
    (hsrc : ∀ j v, cs[j]? = some v → w.cell? (ad.add j) = some v) (hfit : o + cs.length ≤ cur.size) (h1 : ∀ v ∈ cs, v.oneCell' = true) :
    (Builtin.copy_ #[64, 64] ty #[.slice (some ⟨g, o, none⟩) dLen dCap, .slice (some ad) sLen sCap]).run Try.prog w = .ok (goInt n) (w.setRow g (cur.toList.take o ++ cs ++ cur.toList.drop (o + cs.length)).toArray) := by
  have hl := run_loadCells_list (P := Try.prog) w ad cs hsrc
  have hst := run_storeCells_at Try.prog g o 80 cs 0 cur w hg (by simpa using hfit) h1
  have hs : (Try.prog.info? 80).map (·.size) = some 9 := by kernel_rfl
  cases hq : Try.prog.info? 80 with
  | none => simp [hq] at hs
  | some i =>
    have hi : i.size = 9 := by simpa [hq] using hs
    rw [hcl] at hl
    simp [Builtin.copy_, run_underlying Try.underlying64, Builtin.lenOf, Builtin.firstCells, sizeOf, typeInfo, hq, hi, ← hn, hl, hst]
theorem wpList_copyF (w : World) {ops : Array Oper} {rest : List Oper} {o : Oper} {a : Act} {Q : Exit → Act → World → Prop} (hgd : o.guard = none) (d s : Operand) (t t' : TypeId)
    (ho : o.op = .call { callee := .builtin .copy, args := #[d, s], argTypes := #[t, t'] }) (v u : Value) (hd : a.eval d = v) (hs : a.eval s = u) {v' : Value} {w' : World}
    (hr : (Builtin.copy_ #[t, t'] o.type #[v, u]).run Try.prog w = .ok v' w') (h : wpList Try.prog ops Q rest (a.put o.dst v') w') : wpList Try.prog ops Q (o :: rest) a w :=
  wpList_plain hgd fun K hK => by
    unfold Oper.wp execOp
    simp only [ho, resolve, invoke, builtin, Sem.run_bind, Sem.run_pure, Result.andThen_ok, List.map_toArray, List.map_cons, List.map_nil, hd, hs, hr]
    exact hK _ _ h
theorem step_copyF {ops : Array Oper} {o : Oper} {a : Act} {w : World} {K : Act → World → Prop} {Q : Exit → Act → World → Prop} {E : Prop}
    (hg : o.guard = none) (d x : Operand) (dT sT : TypeId) (hop : o.op = Op.call { callee := Callee.builtin Builtin.copy, args := #[d, x], argTypes := #[dT, sT] })
    (v u : Value) (hd : a.eval d = v) (hx : a.eval x = u) {v' : Value} {w' : World} (hr : (Builtin.copy_ #[dT, sT] o.type #[v, u]).run Try.prog w = .ok v' w') (hK : K (a.put o.dst v') w') :
    if Region.wanted o (yielded ops a.tmps) = true then Oper.wp Try.prog o a w K Q else E := by
  have hw : Region.wanted o (yielded ops a.tmps) = true := by simp [Region.wanted, hg]
  rw [if_pos hw]
  unfold Oper.wp
  simp [execOp, hop, resolve, invoke, builtin, hd, hx, hr, Result.andThen]
  exact hK

def InsP (base : Nat) (ys : List File) (w : World) (e : Ending) (w' : World) : Prop := ∃ v, e = .returned v ∧ OwnFiles w' base v ys ∧ Below base w w'
theorem take_flat (xs : List File) (i : Nat) (h : i ≤ xs.length) : (xs.flatMap eFile).take (i * 9) = (xs.take i).flatMap eFile := by
  have e := congrArg (fun l => (l.flatMap eFile).take (i * 9)) (List.take_append_drop i xs).symm
  simp only [List.flatMap_append] at e
  rw [e, List.take_append_of_le_length (by rw [flat_len, List.length_take]; omega), List.take_of_length_le (by rw [flat_len, List.length_take]; omega)]
theorem drop_flat (xs : List File) (i : Nat) (h : i ≤ xs.length) : (xs.flatMap eFile).drop (i * 9) = (xs.drop i).flatMap eFile := by
  have e := congrArg (fun l => (l.flatMap eFile).drop (i * 9)) (List.take_append_drop i xs).symm
  simp only [List.flatMap_append] at e
  rw [e, List.drop_append_of_le_length (by rw [flat_len, List.length_take]; omega), List.drop_of_length_le (by rw [flat_len, List.length_take]; omega), List.nil_append]
theorem row_ins {c : List Value} {xs : List File} {f : File} {i cap : Nat} (hi : i ≤ xs.length) (hroom : xs.length + 1 ≤ cap) (hc : c.length = cap * 9) (h : c.take (i * 9) = (xs.take i).flatMap eFile) {R1 R2 : List Value}
    (h1 : R1 = c.take ((i + 1) * 9) ++ (xs.drop i).flatMap eFile ++ c.drop ((i + 1) * 9 + ((xs.drop i).flatMap eFile).length)) (h2 : R2 = R1.take (i * 9) ++ eFile f ++ R1.drop (i * 9 + (eFile f).length)) :
    R2.length = cap * 9 ∧ R2.take ((xs.length + 1) * 9) = (xs.take i ++ f :: xs.drop i).flatMap eFile := by
  have hdl : ((xs.drop i).flatMap eFile).length = (xs.length - i) * 9 := by rw [flat_len, List.length_drop]
  have htl : ((xs.take i).flatMap eFile).length = i * 9 := by rw [flat_len, List.length_take]; congr 1; omega
  have hl1 : R1.length = cap * 9 := by
    rw [h1]
    simp only [List.length_append, List.length_take, List.length_drop, hdl, hc]
    omega
  have e1 : R1.take (i * 9) = (xs.take i).flatMap eFile := by
    rw [h1, List.append_assoc, List.take_append_of_le_length (by rw [List.length_take, hc]; omega), List.take_take, show min (i * 9) ((i + 1) * 9) = i * 9 by omega, h]
  have e2 : R1.drop (i * 9 + (eFile f).length) = (xs.drop i).flatMap eFile ++ c.drop ((i + 1) * 9 + ((xs.drop i).flatMap eFile).length) := by
    rw [h1, List.append_assoc, List.drop_append, List.drop_of_length_le (by rw [List.length_take, hc]; simp [eFile]; omega), List.nil_append, List.length_take, hc, show i * 9 + (eFile f).length - min ((i + 1) * 9) (cap * 9) = 0 by simp [eFile]; omega, List.drop_zero]
  rw [e1, e2] at h2
  have hfl : (eFile f).length = 9 := rfl
  refine ⟨by rw [h2]; simp only [List.length_append, htl, hdl, hfl, List.length_drop, hc]; omega, ?_⟩
  have e3 : R2 = ((xs.take i ++ f :: xs.drop i).flatMap eFile) ++ c.drop ((i + 1) * 9 + ((xs.drop i).flatMap eFile).length) := by
    rw [h2, List.flatMap_append, List.flatMap_cons, List.append_assoc, List.append_assoc, List.append_assoc]
  have e4 : ((xs.take i ++ f :: xs.drop i).flatMap eFile).length = (xs.length + 1) * 9 := by
    rw [flat_len]
    simp only [List.length_append, List.length_take, List.length_cons, List.length_drop]
    congr 1; omega
  rw [e3, List.take_append_of_le_length (by omega), List.take_of_length_le (by omega)]
set_option maxRecDepth 100000 in
set_option maxHeartbeats 4000000 in
theorem insert_room (w : World) (base g cap : Nat) (cur : Array Value) (xs : List File) (f : File) (i vb : Nat) (hi : i < xs.length) (hroom : xs.length + 1 ≤ cap) (hg : w.heap[g]? = some (.cells cur 80 (0, 0))) (hcs : cur.size = cap * 9)
    (htk : cur.toList.take (xs.length * 9) = xs.flatMap eFile) (hbg : base ≤ g) (hcm : cap ≤ maxLen) (hvb : w.heap[vb]? = some (.cells (fileCells f) 80 (0, 0))) (hne : vb ≠ g) :
    Calls Try.prog 100 #[.slice (some ⟨g, 0, none⟩) xs.length cap, .int .i64 (i : Nat), .slice (some ⟨vb, 0, none⟩) 1 1] w (InsP base (xs.take i ++ f :: xs.drop i) w) := by
  unfold maxLen at hcm
  have hov : ∀ lb cb, (callFunc 114 #[.slice (some ⟨vb, 0, none⟩) 1 1, .slice (some ⟨g, (i + 1) * 9, none⟩) lb cb]).run Try.prog w = .ok (.value (.bool false)) w := fun lb cb => by
    have hsa : w.shape? vb = some (80, 9) := by simp [World.shape?, hvb]
    have hsb : w.shape? g = some (80, cap * 9) := by simp [World.shape?, hg, hcs]
    have hz : ∀ w, (Go.sizeOf 80).run Try.prog w = .ok 9 w := fun w => by kernel_rfl
    rw [run_callFunc_extern Try.func114 (by kernel_rfl) (by kernel_rfl) (by kernel_rfl) (e := Extern.SlicesOverlaps.overlaps #[64, 64] #[4]) (by kernel_rfl),
      Lib.run_overlaps_apart w 64 4 80 Try.underlying64 9 hz ⟨vb, 0, none⟩ ⟨g, (i + 1) * 9, none⟩ 1 1 lb cb hne 80 80 9 (cap * 9) hsa hsb (by omega) (frozen_of_row _ _ _ _ _ hvb) (frozen_of_row _ _ _ _ _ hvb)]
    rfl
  have hdl : ((xs.drop i).flatMap eFile).length = (xs.length - i) * 9 := by rw [flat_len, List.length_drop]
  have hsrc : ∀ j v, ((xs.drop i).flatMap eFile)[j]? = some v → w.drew.cell? ((⟨g, i * 9, none⟩ : Addr).add j) = some v := fun j v hv => by
    rw [← drop_flat xs i (by omega), ← htk, List.getElem?_drop, List.getElem?_take] at hv
    split at hv
    · rw [Addr.add_lit]
      show w.cell? _ = _
      rw [cell_of_row _ _ _ _ _ _ hg, ← Array.getElem?_toList]; exact hv
    · cases hv
  have hcp1 : ∀ ty dc sc, (Builtin.copy_ #[64, 64] ty #[.slice (some ⟨g, (i + 1) * 9, none⟩) (xs.length - i) dc, .slice (some ⟨g, i * 9, none⟩) (xs.length + 1 - i) sc]).run Try.prog w.drew = .ok (goInt ((xs.length - i : Nat) : Int)) (w.drew.setRow g (cur.toList.take ((i + 1) * 9) ++ (xs.drop i).flatMap eFile ++ cur.toList.drop ((i + 1) * 9 + ((xs.drop i).flatMap eFile).length)).toArray) := fun ty dc sc =>
    run_copyF w.drew ty g ((i + 1) * 9) _ dc ⟨g, i * 9, none⟩ _ sc cur _ (xs.length - i) hg (by simp only [Nat.min_def]; split <;> omega) hdl hsrc (by rw [hdl, hcs]; omega) (one_files _)
  generalize hr1 : (cur.toList.take ((i + 1) * 9) ++ (xs.drop i).flatMap eFile ++ cur.toList.drop ((i + 1) * 9 + ((xs.drop i).flatMap eFile).length)).toArray = row1 at *
  have hs1 : row1.size = cap * 9 := by
    rw [← hr1]
    simp only [List.size_toArray, List.length_append, List.length_take, List.length_drop, hdl, Array.length_toList, hcs]
    omega
  have hg1 : (w.drew.setRow g row1).heap[g]? = some (.cells row1 80 (0, 0)) := setRow_heap w.drew g cur row1 _ _ hg
  have hsv : ∀ j v, (eFile f)[j]? = some v → (w.drew.setRow g row1).cell? ((⟨vb, 0, none⟩ : Addr).add j) = some v := fun j v hv => by
    rw [cell_setRow_other _ _ _ _ (by rw [Addr.add_lit]; exact hne)]
    show w.cell? _ = _
    rw [Addr.add_lit, Nat.zero_add, cell_of_row _ _ _ _ _ _ hvb, ← Array.getElem?_toList]
    exact hv
  have hcp2 : ∀ ty dc, (Builtin.copy_ #[64, 64] ty #[.slice (some ⟨g, i * 9, none⟩) (xs.length + 1 - i) dc, .slice (some ⟨vb, 0, none⟩) 1 1]).run Try.prog (w.drew.setRow g row1) = .ok (goInt 1) ((w.drew.setRow g row1).setRow g (row1.toList.take (i * 9) ++ eFile f ++ row1.toList.drop (i * 9 + (eFile f).length)).toArray) := fun ty dc =>
    run_copyF (w.drew.setRow g row1) ty g (i * 9) _ dc ⟨vb, 0, none⟩ 1 1 row1 _ 1 hg1 (by simp only [Nat.min_def]; split <;> omega) rfl hsv (by rw [hs1]; simp [eFile]; omega) (one_file _)
  have hfin : OwnFiles ((w.drew.setRow g row1).setRow g (row1.toList.take (i * 9) ++ eFile f ++ row1.toList.drop (i * 9 + (eFile f).length)).toArray) base (.slice (some ⟨g, 0, none⟩) (xs.length + 1) cap) (xs.take i ++ f :: xs.drop i) := by
    have hci : cur.toList.take (i * 9) = (xs.take i).flatMap eFile := by
      rw [← take_flat xs i (by omega), ← htk, List.take_take, show min (i * 9) (xs.length * 9) = i * 9 by omega]
    obtain ⟨q1, q2⟩ := row_ins (c := cur.toList) (f := f) (cap := cap) (by omega) hroom (by rw [Array.length_toList]; exact hcs) hci (R1 := row1.toList) (by rw [← hr1]) rfl
    have hn : (xs.take i ++ f :: xs.drop i).length = xs.length + 1 := by
      simp only [List.length_append, List.length_take, List.length_cons, List.length_drop]; omega
    refine ⟨by rw [flat_len], .inr ⟨g, cap, _, by rw [hn], hbg, setRow_heap _ g row1 _ _ _ hg1, by rw [hn]; exact hroom, hcm, by rw [List.size_toArray]; exact q1, by rw [hn]; exact q2⟩⟩
  have hbel : Below base w ((w.drew.setRow g row1).setRow g (row1.toList.take (i * 9) ++ eFile f ++ row1.toList.drop (i * 9 + (eFile f).length)).toArray) := below_setRow (below_setRow (below_drewN (Below.refl base w) 1) hbg _) hbg _
  have HF := hid hfin
  have HBL := hid hbel
  have H1 := hid hcp1
  have H2 := hid hcp2
  have hw1 : IntKind.i64.wrap ((i : Int) + 1) = (i : Int) + 1 := IntWalk.i64_in _ (by omega)
  have hk0 : (0 : Int) ≤ (i : Int) + 1 := by omega
  have hk1 : (i : Int) + 1 ≤ (xs.length : Int) + 1 := by omega
  have hk2 : ((i : Int) + 1).toNat = i + 1 := by omega
  have hk3 : (0 : Int) ≤ (i : Int) := by omega
  have hk4 : (i : Int) ≤ (xs.length : Int) + 1 := by omega
  have hk5 : ¬ cap = i + 1 := by omega
  have hk6 : ¬ cap = i := by omega
  clear hfin hbel hcp1 hcp2 hsv hg1 hs1 hr1 hsrc hdl
  go_enter Try.func100, Try.ntmps100
  go_wp2_with (simp only [hov])
  clear hov
  have hc1 := H1.out
  go_region
  clear hc1
  have hc2 := H2.out
  generalize (w.drew.setRow g row1).setRow g (row1.toList.take (i * 9) ++ eFile f ++ row1.toList.drop (i * 9 + (eFile f).length)).toArray = w9 at *
  go_wp2_with fail
  go_ret
  exact ⟨_, rfl, HF.out, HBL.out⟩
theorem news_vb {w : World} {vb : Nat} {f : File} (hvb : w.heap[vb]? = some (.cells (fileCells f) 80 (0, 0))) : ∀ j v, (eFile f)[j]? = some v → w.cell? ((⟨vb, 0, none⟩ : Addr).add j) = some v := fun j v hv => by
  rw [Addr.add_lit, Nat.zero_add, cell_of_row _ _ _ _ _ _ hvb, ← Array.getElem?_toList]
  exact hv
set_option maxRecDepth 100000 in
set_option maxHeartbeats 4000000 in
theorem insert_end (w : World) (base : Nat) (v : Value) (xs : List File) (f : File) (vb : Nat) (hown : OwnFiles w base v xs) (hb : base ≤ w.heap.size) (hl : xs.length ≤ 1000000) (hvb : w.heap[vb]? = some (.cells (fileCells f) 80 (0, 0))) :
    Calls Try.prog 100 #[v, .int .i64 (xs.length : Nat), .slice (some ⟨vb, 0, none⟩) 1 1] w (InsP base (xs ++ [f]) w) := by
  have HN := hid (news_vb hvb)
  have HO := hid hown
  have hsl : ∃ a cap, v = .slice a xs.length cap ∧ xs.length ≤ cap ∧ cap ≤ maxLen ∧ (a = none ∨ ∃ g, a = some ⟨g, 0, none⟩) := by
    rcases hown.2 with ⟨rfl, e2⟩ | ⟨g, cap, cur, rfl, _, _, hnc, hcm, _⟩
    · exact ⟨none, 0, by rw [e2], by omega, by decide, .inl rfl⟩
    · exact ⟨_, cap, rfl, hnc, hcm, .inr ⟨g, rfl⟩⟩
  obtain ⟨a, cap, rfl, hnc, hcm, ha⟩ := hsl
  unfold maxLen at hcm
  clear hown
  rcases ha with rfl | ⟨g, rfl⟩
  all_goals
    go_enter Try.func100, Try.ntmps100
    go_wp2_with (at_builtin; refine wpList_app el_file rfl HO.out rfl rfl HN.out (one_file f) (by omega) hb ?_; intro v' w1 hown1 hg1 hb1; have O1 := hid hown1; have B1 := hid hb1; clear hown1 hg1 hb1)
    all_goals (go_ret; exact ⟨_, rfl, OwnFiles.snoc O1.out, B1.out⟩)

theorem elF_parts : ∃ i z, Try.prog.info? 80 = some i ∧ i.zero = some z ∧ i.size = 9 ∧ i.bytes = 88 ∧ z.cells.size = 9 := el_file.parts
set_option maxRecDepth 100000 in
set_option maxHeartbeats 4000000 in
theorem insert_grow (w : World) (base g cap : Nat) (cur : Array Value) (xs : List File) (f : File) (i vb : Nat) (hi : i < xs.length) (hroom : cap < xs.length + 1) (hnc : xs.length ≤ cap) (hl : xs.length ≤ 1000000) (hg : w.heap[g]? = some (.cells cur 80 (0, 0))) (hcs : cur.size = cap * 9)
    (htk : cur.toList.take (xs.length * 9) = xs.flatMap eFile) (hbg : base ≤ g) (hvb : w.heap[vb]? = some (.cells (fileCells f) 80 (0, 0))) :
    Calls Try.prog 100 #[.slice (some ⟨g, 0, none⟩) xs.length cap, .int .i64 (i : Nat), .slice (some ⟨vb, 0, none⟩) 1 1] w (InsP base (xs.take i ++ f :: xs.drop i) w) := by
  obtain rfl : cap = xs.length := by omega
  obtain ⟨i0, z, hi0, hz0, hzs, hzb, hzc⟩ := elF_parts
  have hcell : ∀ j v, (xs.flatMap eFile)[j]? = some v → w.cell? ⟨g, j, none⟩ = some v := fun j v hv => by
    rw [← htk, List.getElem?_take] at hv
    split at hv
    · rw [cell_of_row _ _ _ _ _ _ hg, ← Array.getElem?_toList]; exact hv
    · cases hv
  have hold : (Builtin.firstCells i0.size i (.slice (some ⟨g, 0, none⟩) i xs.length)).run Try.prog w.drew = .ok ((xs.take i).flatMap eFile).toArray w.drew := by
    rw [hzs]
    exact run_firstCells_some w.drew 9 i ⟨g, 0, none⟩ i xs.length _ (by rw [flat_len, List.length_take]; congr 1; omega) (fun j v hj => by
      rw [Addr.add_lit, Nat.zero_add]
      rw [← take_flat xs i (by omega), List.getElem?_take] at hj
      split at hj
      · exact hcell j v hj
      · cases hj)
  have hik : i + (xs.length + 1 - i) = xs.length + 1 := by omega
  have hrz : ∀ ty, (Builtin.append_ #[64, 3] ty #[.slice (some ⟨g, 0, none⟩) i xs.length, .int .i64 ((xs.length : Int) + 1 - (i : Int))]).run Try.prog w = .ok (.slice (some ⟨w.heap.size, 0, none⟩) (xs.length + 1) (grownCap w (xs.length + 1) xs.length 80)) (w.drew.alloc (.cells (((xs.take i).flatMap eFile).toArray ++ Builtin.zeroCells z.cells (xs.length + 1 - i) ++ Builtin.zeroCells z.cells (grownCap w (xs.length + 1) xs.length 80 - (xs.length + 1))) 80)) := fun ty => by
    have h := Lib.run_append_grow_zeros w 64 3 ty 80 i0 z .i64 .i64 Try.underlying64 Try.underlying3 hi0 hz0 (some ⟨g, 0, none⟩) i xs.length _ hold (xs.length + 1 - i) (by omega) (by omega) (by omega) (by omega) (by rw [hzb]; omega) (by rw [hzb, hik]; exact growslice_fits (by omega) (by omega))
    rw [hik] at h
    rw [show (xs.length : Int) + 1 - (i : Int) = ((xs.length + 1 - i : Nat) : Int) by omega]
    exact h
  have hGn := grownCap_ge w (xs.length + 1) xs.length 80
  have hGm := grownCap_le_maxLen w (xs.length + 1) xs.length 80 (by unfold maxLen; omega)
  generalize grownCap w (xs.length + 1) xs.length 80 = G at *
  generalize hROW : ((xs.take i).flatMap eFile).toArray ++ Builtin.zeroCells z.cells (xs.length + 1 - i) ++ Builtin.zeroCells z.cells (G - (xs.length + 1)) = ROW at *
  have hzl : ∀ k, (Builtin.zeroCells z.cells k).size = k * 9 := fun k => by rw [size_zeroCells, hzc]
  have htl : ((xs.take i).flatMap eFile).length = i * 9 := by rw [flat_len, List.length_take]; congr 1; omega
  have hRs : ROW.size = G * 9 := by
    rw [← hROW]
    simp only [Array.size_append, hzl, List.size_toArray, htl]
    omega
  have hRt : ROW.toList.take (i * 9) = (xs.take i).flatMap eFile := by
    rw [← hROW]
    simp only [Array.toList_append]
    rw [List.append_assoc, List.take_append_of_le_length (by omega), List.take_of_length_le (by omega)]
  have hN1 : (w.drew.alloc (.cells ROW 80)).heap[w.heap.size]? = some (.cells ROW 80 (0, 0)) := heap_alloc_new w.drew _
  have hE1 : Ext w (w.drew.alloc (.cells ROW 80)) := ((Ext.rfl w).drN 1).al _
  generalize w.drew.alloc (.cells ROW 80) = W1 at *
  have hvb1 : W1.heap[vb]? = some (.cells (fileCells f) 80 (0, 0)) := (hE1.block _ (vblk_lt hvb)).trans hvb
  have hcA : ∀ ty dc, (Builtin.copy_ #[64, 64] ty #[.slice (some ⟨w.heap.size, i * 9, none⟩) (xs.length + 1 - i) dc, .slice (some ⟨vb, 0, none⟩) 1 1]).run Try.prog W1 = .ok (goInt 1) (W1.setRow w.heap.size (ROW.toList.take (i * 9) ++ eFile f ++ ROW.toList.drop (i * 9 + (eFile f).length)).toArray) := fun ty dc =>
    run_copyF W1 ty w.heap.size (i * 9) _ dc ⟨vb, 0, none⟩ 1 1 ROW _ 1 hN1 (by simp only [Nat.min_def]; split <;> omega) rfl (news_vb hvb1) (by rw [hRs]; simp [eFile]; omega) (one_file _)
  generalize hr1 : (ROW.toList.take (i * 9) ++ eFile f ++ ROW.toList.drop (i * 9 + (eFile f).length)).toArray = row1 at *
  have hs1 : row1.size = G * 9 := by
    rw [← hr1]
    simp only [List.size_toArray, List.length_append, List.length_take, List.length_drop, Array.length_toList, hRs, eFile_length]
    omega
  have hN2 : (W1.setRow w.heap.size row1).heap[w.heap.size]? = some (.cells row1 80 (0, 0)) := setRow_heap W1 _ ROW row1 _ _ hN1
  have hE2 : Ext w (W1.setRow w.heap.size row1) := below_setRow hE1 (Nat.le_refl _) _
  generalize W1.setRow w.heap.size row1 = W2 at *
  have hdl : ((xs.drop i).flatMap eFile).length = (xs.length - i) * 9 := by rw [flat_len, List.length_drop]
  have hsrc : ∀ j v, ((xs.drop i).flatMap eFile)[j]? = some v → W2.drew.cell? ((⟨g, i * 9, none⟩ : Addr).add j) = some v := fun j v hv => by
    rw [← drop_flat xs i (by omega), List.getElem?_drop] at hv
    rw [Addr.add_lit]
    exact ext_cell (hE2.drN 1) (hcell _ v hv)
  have hcB : ∀ ty dc sc, (Builtin.copy_ #[64, 64] ty #[.slice (some ⟨w.heap.size, (i + 1) * 9, none⟩) (xs.length - i) dc, .slice (some ⟨g, i * 9, none⟩) (xs.length - i) sc]).run Try.prog W2.drew = .ok (goInt ((xs.length - i : Nat) : Int)) (W2.drew.setRow w.heap.size (row1.toList.take ((i + 1) * 9) ++ (xs.drop i).flatMap eFile ++ row1.toList.drop ((i + 1) * 9 + ((xs.drop i).flatMap eFile).length)).toArray) := fun ty dc sc =>
    run_copyF W2.drew ty w.heap.size ((i + 1) * 9) _ dc ⟨g, i * 9, none⟩ _ sc row1 _ (xs.length - i) hN2 (by simp only [Nat.min_def]; split <;> omega) hdl hsrc (by rw [hdl, hs1]; omega) (one_files _)
  have hn : (xs.take i ++ f :: xs.drop i).length = xs.length + 1 := by
    simp only [List.length_append, List.length_take, List.length_cons, List.length_drop]; omega
  have hfin : OwnFiles (W2.drew.setRow w.heap.size (row1.toList.take ((i + 1) * 9) ++ (xs.drop i).flatMap eFile ++ row1.toList.drop ((i + 1) * 9 + ((xs.drop i).flatMap eFile).length)).toArray) base (.slice (some ⟨w.heap.size, 0, none⟩) (xs.length + 1) G) (xs.take i ++ f :: xs.drop i) := by
    have q0 : row1.toList.take ((i + 1) * 9) = (xs.take i).flatMap eFile ++ eFile f := by
      rw [← hr1, hRt, List.take_append_of_le_length (by rw [List.length_append, htl, eFile_length]; omega), List.take_of_length_le (by rw [List.length_append, htl, eFile_length]; omega)]
    have q3 : (xs.take i).flatMap eFile ++ eFile f ++ (xs.drop i).flatMap eFile = (xs.take i ++ f :: xs.drop i).flatMap eFile := by
      rw [List.flatMap_append, List.flatMap_cons, List.append_assoc]
    have hbw : base ≤ w.heap.size := Nat.le_trans hbg (Nat.le_of_lt (vblk_lt hg))
    refine ⟨by rw [flat_len], .inr ⟨w.heap.size, G, _, by rw [hn], hbw, setRow_heap _ _ row1 _ _ _ hN2, by rw [hn]; exact hGn, hGm, ?_, ?_⟩⟩
    · simp only [List.size_toArray, List.length_append, List.length_take, List.length_drop, Array.length_toList, hdl, hs1]
      omega
    · rw [q0, q3, hn]
      show List.take _ _ = _
      rw [List.take_append_of_le_length (by rw [flat_len, hn]; omega), List.take_of_length_le (by rw [flat_len, hn]; omega)]
  have hbel : Below base w (W2.drew.setRow w.heap.size (row1.toList.take ((i + 1) * 9) ++ (xs.drop i).flatMap eFile ++ row1.toList.drop ((i + 1) * 9 + ((xs.drop i).flatMap eFile).length)).toArray) := Below.mono (below_setRow (hE2.drN 1) (Nat.le_refl _) _) (Nat.le_trans hbg (Nat.le_of_lt (vblk_lt hg)))
  generalize W2.drew.setRow w.heap.size (row1.toList.take ((i + 1) * 9) ++ (xs.drop i).flatMap eFile ++ row1.toList.drop ((i + 1) * 9 + ((xs.drop i).flatMap eFile).length)).toArray = W3 at *
  have HF := hid hfin
  have HBL := hid hbel
  have hw1 : IntKind.i64.wrap ((i : Int) + 1) = (i : Int) + 1 := IntWalk.i64_in _ (by omega)
  have hk0 : (0 : Int) ≤ (i : Int) + 1 := by omega
  have hk1 : (i : Int) + 1 ≤ (xs.length : Int) + 1 := by omega
  have hk2 : ((i : Int) + 1).toNat = i + 1 := by omega
  have hk3 : (0 : Int) ≤ (i : Int) := by omega
  have hk4 : (i : Int) ≤ (xs.length : Int) + 1 := by omega
  have hk7 : (i : Int) ≤ (xs.length : Int) := by omega
  have hk5 : ¬ G = i + 1 := by omega
  have hk6 : ¬ G = i := by omega
  have hk8 : ¬ xs.length = i := by omega
  unfold maxLen at hGm
  clear hfin hbel hE2 hE1 hN1 hN2 hcell hold hik hn hsrc hdl hs1 hr1 hvb1 hRt hRs htl hzl hzc hzs hzb hz0 hi0 hROW htk hvb hcs hg
  have HRZ := hid hrz
  clear hrz
  go_enter Try.func100, Try.ntmps100
  go_wp2_with (at_builtin; refine Lib.wpList_append_run _ rfl _ _ _ _ rfl _ _ rfl rfl _ _ (HRZ.out _) ?_)
  go_region
  go_wp2_with fail
  go_ret
  exact ⟨_, rfl, HF.out, HBL.out⟩
theorem insert_in (w : World) (base : Nat) (v : Value) (xs : List File) (f : File) (i vb : Nat) (hown : OwnFiles w base v xs) (hb : base ≤ w.heap.size) (hl : xs.length ≤ 1000000) (hvb : w.heap[vb]? = some (.cells (fileCells f) 80 (0, 0)))
    (hne : ∀ g, v.ownBlock = some g → vb ≠ g) (hi : i ≤ xs.length) :
    Calls Try.prog 100 #[v, .int .i64 (i : Nat), .slice (some ⟨vb, 0, none⟩) 1 1] w (InsP base (xs.take i ++ f :: xs.drop i) w) := by
  rcases Nat.lt_or_ge i xs.length with h | h
  · rcases hown.2 with ⟨rfl, e2⟩ | ⟨g, cap, cur, rfl, hbg, hg, hnc, hcm, hcs, htk⟩
    · omega
    · rcases Nat.lt_or_ge cap (xs.length + 1) with hr | hr
      · exact insert_grow w base g cap cur xs f i vb h hr hnc hl hg hcs htk hbg hvb
      · exact insert_room w base g cap cur xs f i vb h hr hg hcs htk hbg hcm hvb (hne g rfl)
  · obtain rfl : i = xs.length := by omega
    rw [List.take_length, List.drop_length]
    exact insert_end w base v xs f vb hown hb hl hvb
end Go.Proofs.Ytoonhcmeklmnlaa
