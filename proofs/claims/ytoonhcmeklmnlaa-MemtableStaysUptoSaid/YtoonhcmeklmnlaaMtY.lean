/- What is known at a number: plain; the first so many of a slice. -/
import Derived.Test.YtoonhcmeklmnlaaMtX
set_option linter.unusedSimpArgs false
set_option linter.unusedVariables false
set_option linter.unnecessarySimpa false
namespace Go.Proofs.Ytoonhcmeklmnlaa
open Go.RowKit Go.Rg Go.St

theorem uniq_fst {l : List KVp} (h : (l.map Prod.fst).Nodup) {e x : KVp} (he : e ∈ l) (hx : x ∈ l) (hk : x.1 = e.1) : x = e := by
  induction l with
  | nil => cases he
  | cons a l ih =>
    rw [List.map_cons, List.nodup_cons] at h
    rcases List.mem_cons.1 he with rfl | he'
    · rcases List.mem_cons.1 hx with rfl | hx'
      · rfl
      · exact absurd (List.mem_map.2 ⟨x, hx', hk⟩) h.1
    · rcases List.mem_cons.1 hx with rfl | hx'
      · exact absurd (List.mem_map.2 ⟨e, he', hk.symm⟩) h.1
      · exact ih h.2 he' hx'
/-- what is known is one thing, and hangs on what the number sees alone -/
theorem getOf_one {es es' : List KVp} {u : ByteArray} {s : Int} (hS : ∀ e : KVp, e.1.seq ≤ s → (e ∈ es' ↔ e ∈ es)) (hg : ∀ e, e ∈ es → GoodE e.1) (hu : (es.map Prod.fst).Nodup) {v v' : ByteArray} {n n' : Int} (h : GetOf (mkT es) u s v n) (h' : GetOf (mkT es') u s v' n') : v = v' ∧ n = n' := by
  rcases h with ⟨h1, rfl, rfl⟩ | ⟨e, ⟨hm, hue, hse, hmax⟩, hk⟩
  · rcases h' with ⟨_, rfl, rfl⟩ | ⟨e, ⟨hm, hue, hse, hmax⟩, hk⟩
    · exact ⟨rfl, rfl⟩
    · have := h1 e ((hS e hse).1 hm) hue
      omega
  · rcases h' with ⟨h1, rfl, rfl⟩ | ⟨e', ⟨hm', hue', hse', hmax'⟩, hk'⟩
    · have := h1 e ((hS e hse).2 hm) hue
      omega
    · have h1 := hmax e' ((hS e' hse').1 hm') hue' hse'
      have h2 := hmax' e ((hS e hse).2 hm) hue hse
      have g1 := (hg e hm).2.2.2
      have g2 := (hg e' ((hS e' hse').1 hm')).2.2.2
      have hke : e'.1 = e.1 := by
        obtain ⟨⟨a, b, c⟩, d⟩ := e
        obtain ⟨⟨a', b', c'⟩, d'⟩ := e'
        simp only at *
        subst hue
        subst hue'
        have : b = b' := by omega
        subst this
        have : c = c' := by omega
        subst this
        rfl
      obtain rfl := uniq_fst hu hm ((hS e' hse').1 hm') hke
      rcases hk with ⟨k1, rfl, rfl⟩ | ⟨k1, rfl, rfl⟩ <;> rcases hk' with ⟨k2, rfl, rfl⟩ | ⟨k2, rfl, rfl⟩
      · exact ⟨rfl, rfl⟩
      · omega
      · omega
      · exact ⟨rfl, rfl⟩
theorem mem_addE {fr : Bool} {es : List KVp} {k : IKey} {v : ByteArray} {e : KVp} : e ∈ addE fr es k v ↔ e ∈ es ∨ (addC fr es k v = 0 ∧ e = (k, v)) := by
  unfold addE
  split
  · rename_i h
    simp [h]
  · rename_i h
    simp [h]
theorem slS_take {α : Type} [Inhabited α] {w : World} {a : Option Addr} {m cap sz : Nat} {enc : α → List Value} {xs : List α} (h : SlS w (.slice a m cap) sz enc xs) (n : Nat) (hn : n ≤ xs.length) : SlS w (.slice a n cap) sz enc (xs.take n) := by
  obtain ⟨a', c', e, h0, h1, h2⟩ := h.ex
  simp only [Value.slice.injEq] at e
  obtain ⟨rfl, rfl, rfl⟩ := e
  have hl : (xs.take n).length = n := by rw [List.length_take]; omega
  refine ⟨⟨a, cap, by rw [hl], by omega, h1, fun hp => ?_⟩⟩
  obtain ⟨b, off, e2, hc⟩ := h2 (by omega)
  refine ⟨b, off, e2, fun i hi j hj => ?_⟩
  rw [hc i (by omega) j hj]
  congr 2
  rw [nth_eq _ _ hi, nth_eq _ _ (by omega), List.getElem_take]
end Go.Proofs.Ytoonhcmeklmnlaa
