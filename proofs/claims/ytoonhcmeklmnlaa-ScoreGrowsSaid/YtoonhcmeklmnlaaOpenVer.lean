/- A Version that is read, with how long its levels may be. -/
import Derived.Test.YtoonhcmeklmnlaaLiftU
import Derived.SizedLaws
set_option linter.unusedSimpArgs false
set_option linter.unusedVariables false
set_option linter.unnecessarySimpa false
namespace Go.St
open Go.ChangeShapes Go.WideShapes Go.ChangeAt Go.RowKit Go.Rg

section
variable {H : Type} {enc : TypeId × Value → H} {P : Program} {W : World}

theorem weights_mem_all {e : TypeId} : ∀ {ds : List (DataW H)} {d : DataW H}, d ∈ ds → ∀ n, n ∈ d.weights P e → n ∈ DataW.weightsAll P e ds
  | [], d, h, _, _ => by cases h
  | x :: ds, d, h, n, hn => by
    unfold DataW.weightsAll
    rcases List.mem_cons.1 h with rfl | h
    · exact List.mem_append.2 (.inl hn)
    · exact List.mem_append.2 (.inr (weights_mem_all h n hn))

theorem ver_sized {t ta tl e : TypeId} {fs : Array Field} {fuel : Nat} {cs : List Value} {x : DataW H × List MemPlace} (h : P.underlying t = some (.struct fs)) (hf : (fs.toList.map fun f => (f.type, f.offset)) = [(ta, 0)])
    (hc : P.cellsOf t = 4) (ha : P.underlying ta = some (.array 4 tl)) (ha1 : P.cellsOf ta = 4) (hl1 : P.cellsOf tl = 1) (hl : P.underlying tl = some (.slice e)) (he : P.cellsOf e = 9) (hel : Tells enc P W e eFile GoodFile)
    (hx : DataW.trod enc P W 0 (fun _ => true) true fuel t cs = some x) :
    ∃ (v0 v1 v2 v3 : Value) (V : Nat → List File), cs = [v0, v1, v2, v3] ∧ SlFile W v0 (V 0) ∧ SlFile W v1 (V 1) ∧ SlFile W v2 (V 2) ∧ SlFile W v3 (V 3) ∧ (∀ i, i < 4 → ∀ f ∈ V i, GoodFile f) ∧
      ((x.1.weights P t).all (· ≤ reachBytes) = true → ∀ i, i < 4 → (V i).length * P.bytesOf e ≤ 140737488351232) := by
  obtain ⟨xs, n, _, hxx, hlen, hn, hxs⟩ := DataW.trod_struct h hx
  rw [hc] at hlen
  have hfs : fs.size = 1 := by
    have := congrArg List.length hf
    simpa using this
  rw [hfs] at hn
  match cs, hlen, xs, hn with
  | [c0, c1, c2, c3], _, [y], _ =>
    have hf0 : ∃ f, fs[0]? = some f ∧ f.type = ta ∧ f.offset = 0 := by
      refine ⟨fs[0]'(by omega), by simp [hfs], ?_⟩
      have h0 : (fs.toList.map fun f => (f.type, f.offset))[0]? = some (ta, 0) := by rw [hf]; rfl
      rw [List.getElem?_map] at h0
      simp [hfs] at h0
      exact h0
    obtain ⟨f, hf1, hft, hfo⟩ := hf0
    have h0 := hxs 0 f hf1
    rw [hft, hfo, ha1] at h0
    simp only [List.getElem?_cons_zero] at h0
    obtain ⟨zs, m, _, hyy, _, hzl, hat⟩ := DataW.trod_array ha h0
    rw [hl1] at hat
    match zs, hzl with
    | [z0, z1, z2, z3], _ =>
      obtain ⟨v0, x0, e0, s0, g0, w0⟩ := slS_of_trod hl he (by omega) hel eFile_length (hat 0 (by omega))
      obtain ⟨v1, x1, e1, s1, g1, w1⟩ := slS_of_trod hl he (by omega) hel eFile_length (hat 1 (by omega))
      obtain ⟨v2, x2, e2, s2, g2, w2⟩ := slS_of_trod hl he (by omega) hel eFile_length (hat 2 (by omega))
      obtain ⟨v3, x3, e3, s3, g3, w3⟩ := slS_of_trod hl he (by omega) hel eFile_length (hat 3 (by omega))
      simp at e0 e1 e2 e3
      subst e0; subst e1; subst e2; subst e3
      refine ⟨_, _, _, _, fun i => if i = 0 then x0 else if i = 1 then x1 else if i = 2 then x2 else x3, rfl, s0, s1, s2, s3, fun i hi f hf => ?_, fun hw i hi => ?_⟩
      · obtain rfl | rfl | rfl | rfl : i = 0 ∨ i = 1 ∨ i = 2 ∨ i = 3 := by omega
        · exact g0 f hf
        · exact g1 f hf
        · exact g2 f hf
        · exact g3 f hf
      · have key : ∀ z : DataW H, z ∈ [z0, z1, z2, z3].map (·.1) → (z.weights P tl).all (· ≤ reachBytes) = true := by
          intro z hz
          rw [List.all_eq_true] at hw ⊢
          intro q hq
          refine hw q ?_
          have e1 : x.1 = .agg [y.1] := by rw [hxx]; rfl
          have e2 : y.1 = .agg ([z0, z1, z2, z3].map (·.1)) := by rw [hyy]
          rw [e1]
          unfold DataW.weights
          rw [h]
          simp only
          have hts : fs.toList.map (·.type) = [ta] := by
            have := congrArg (List.map Prod.fst) hf
            simpa [List.map_map, Function.comp_def] using this
          rw [hts]
          unfold DataW.weightsEach
          refine List.mem_append.2 (.inl ?_)
          rw [e2]
          unfold DataW.weights
          rw [ha]
          exact weights_mem_all hz q hq
        obtain rfl | rfl | rfl | rfl : i = 0 ∨ i = 1 ∨ i = 2 ∨ i = 3 := by omega
        · exact w0 (key z0.1 (by simp))
        · exact w1 (key z1.1 (by simp))
        · exact w2 (key z2.1 (by simp))
        · exact w3 (key z3.1 (by simp))
end
end Go.St
