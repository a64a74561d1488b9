/- Edits that are read. -/
import Derived.Test.YtoonhcmeklmnlaaRgJ
import Derived.Test.YtoonhcmeklmnlaaOpenVer
set_option linter.unusedSimpArgs false
set_option linter.unusedVariables false
set_option linter.unnecessarySimpa false
namespace Go.Proofs.Ytoonhcmeklmnlaa
open Go.ChangeShapes Go.WideShapes Go.ChangeAt Go.RowKit Go.Rg Go.St

variable {H : Type} {enc : TypeId × Value → H} {P : Program} {W : World}

theorem fit_of_good {f : File} (h : GoodFile f) : FitF f := by
  obtain ⟨_, _, _, h1, h2⟩ := h
  have a := h1.1
  have b := h2.1
  unfold maxLen at a b
  exact ⟨by omega, by omega⟩
theorem tells_gone {e ti tu : TypeId} {fs : Array Field} (h : P.underlying e = some (.struct fs)) (hf : (fs.toList.map fun f => (f.type, f.offset)) = [(ti, 0), (tu, 1)])
    (hc : P.cellsOf e = 2) (hi : P.underlying ti = some (.int .i64)) (hi1 : P.cellsOf ti = 1) (hu : P.underlying tu = some (.int .u64)) (hu1 : P.cellsOf tu = 1) : Tells enc P W e eGone (fun _ => True) := by
  intro fuel cs x hx
  obtain ⟨hl, hfl⟩ := trod_fields h hx
  rw [hc] at hl
  rw [hf] at hfl
  match cs, hl with
  | [c0, c1], _ =>
    obtain ⟨n0, y0, h0⟩ := hfl 0 _ _ rfl
    obtain ⟨n1, y1, h1⟩ := hfl 1 _ _ rfl
    rw [hi1] at h0
    rw [hu1] at h1
    obtain ⟨q, e0, _⟩ := tells_int hi _ _ _ h0
    obtain ⟨r, e1, _⟩ := tells_int hu _ _ _ h1
    simp at e0 e1
    subst e0; subst e1
    exact ⟨⟨q, r⟩, rfl, trivial⟩
theorem tells_edit {e tu td ta tg tf : TypeId} {fs : Array Field} (h : P.underlying e = some (.struct fs)) (hf : (fs.toList.map fun f => (f.type, f.offset)) = [(tu, 0), (tu, 1), (tu, 2), (td, 3), (ta, 4)])
    (hc : P.cellsOf e = 5) (hu : P.underlying tu = some (.int .u64)) (hu1 : P.cellsOf tu = 1) (hd : P.underlying td = some (.slice tg)) (hd1 : P.cellsOf td = 1) (ha : P.underlying ta = some (.slice tf)) (ha1 : P.cellsOf ta = 1)
    (hg : Tells enc P W tg eGone (fun _ => True)) (hg2 : P.cellsOf tg = 2) (hl : Tells enc P W tf eFile GoodFile) (hl9 : P.cellsOf tf = 9) : Tells enc P W e eEdS (GoodE W) := by
  intro fuel cs x hx
  obtain ⟨hlen, hfl⟩ := trod_fields h hx
  rw [hc] at hlen
  rw [hf] at hfl
  match cs, hlen with
  | [c0, c1, c2, c3, c4], _ =>
    obtain ⟨n0, y0, h0⟩ := hfl 0 _ _ rfl
    obtain ⟨n1, y1, h1⟩ := hfl 1 _ _ rfl
    obtain ⟨n2, y2, h2⟩ := hfl 2 _ _ rfl
    obtain ⟨n3, y3, h3⟩ := hfl 3 _ _ rfl
    obtain ⟨n4, y4, h4⟩ := hfl 4 _ _ rfl
    rw [hu1] at h0 h1 h2
    rw [hd1] at h3
    rw [ha1] at h4
    obtain ⟨p0, e0, _⟩ := tells_int hu _ _ _ h0
    obtain ⟨p1, e1, _⟩ := tells_int hu _ _ _ h1
    obtain ⟨p2, e2, _⟩ := tells_int hu _ _ _ h2
    obtain ⟨vd, ds, e3, s3, _, _⟩ := slS_of_trod hd hg2 (by omega) hg eGone_length h3
    obtain ⟨va, al, e4, s4, g4, _⟩ := slS_of_trod ha hl9 (by omega) hl eFile_length h4
    simp at e0 e1 e2 e3 e4
    subst e0; subst e1; subst e2; subst e3; subst e4
    exact ⟨⟨⟨p0, p1, p2, ds, al⟩, _, _⟩, rfl, s3, s4, fun f hf => fit_of_good (g4 f hf)⟩
end Go.Proofs.Ytoonhcmeklmnlaa
