/- The arguments of SimfsPlays, opened: rows of calls, with what their texts and rows weigh. -/
import Derived.Test.YtjekfifnhdoamaaLawPl
set_option linter.unusedSimpArgs false
set_option linter.unusedVariables false
set_option linter.unnecessarySimpa false
namespace Go.Proofs.Ytjekfifnhdoamaa
open Go.ChangeShapes Go.WideShapes Go.ChangeAt Go.RowKit Go.Rg Go.St

variable {H : Type} {enc : TypeId × Value → H} {P : Program} {W : World}

def TellsW (enc : TypeId × Value → H) (P : Program) (W : World) (e : TypeId) {α : Type} (c : α → List Value) (good : α → Prop) : Prop :=
  ∀ (fuel : Nat) (cs : List Value) (x : DataW H × List MemPlace), DataW.trod enc P W 0 (fun _ => true) true fuel e cs = some x → (x.1.weights P e).all (· ≤ reachBytes) = true → ∃ a, cs = c a ∧ good a
theorem TellsW.of {e : TypeId} {α : Type} {c : α → List Value} {good : α → Prop} (h : Tells enc P W e c good) : TellsW enc P W e c good := fun fuel cs x hx _ => h fuel cs x hx
theorem tellsW_string {e : TypeId} (h : P.underlying e = some .string) : TellsW enc P W e (fun s : ByteArray => [Value.string s]) (fun s => s.size ≤ 140737488351232) := by
  intro fuel cs x hx hw
  cases fuel with
  | zero => simp [DataW.trod] at hx
  | succ fuel =>
    obtain ⟨s, hs, _⟩ := tells_string h _ _ _ hx
    subst hs
    refine ⟨s, rfl, ?_⟩
    unfold DataW.trod at hx
    simp only [h] at hx
    split at hx
    all_goals first
      | (cases hx; done)
      | (simp only [Option.some.injEq] at hx
         subst hx
         have hw2 : s.data.toList.length ≤ reachBytes := by simpa [DataW.weights] using hw
         unfold reachBytes at hw2
         rw [Array.length_toList] at hw2
         show s.data.size ≤ _
         omega)
theorem weights_all {e : TypeId} {d : DataW H} {n : Nat} : ∀ {l : List (DataW H)}, d ∈ l → n ∈ d.weights P e → n ∈ DataW.weightsAll P e l
  | q :: l, hd, hn => by
    unfold DataW.weightsAll
    rcases List.mem_cons.1 hd with rfl | hd
    · exact List.mem_append.2 (.inl hn)
    · exact List.mem_append.2 (.inr (weights_all hd hn))
theorem slS_of_trodW {t e : TypeId} {fuel : Nat} {cs : List Value} {x : DataW H × List MemPlace} {α : Type} [Inhabited α] {c : α → List Value} {good : α → Prop} {sz : Nat}
    (ht : P.underlying t = some (.slice e)) (hc : P.cellsOf e = sz) (hsz : 0 < sz) (hel : TellsW enc P W e c good) (hcl : ∀ x, (c x).length = sz)
    (hf : DataW.trod enc P W 0 (fun _ => true) true fuel t cs = some x) (hw : (x.1.weights P t).all (· ≤ reachBytes) = true) :
    ∃ (v : Value) (xs : List α), cs = [v] ∧ SlS W v sz c xs ∧ (∀ x ∈ xs, good x) ∧ xs.length * P.bytesOf e ≤ 140737488351232 := by
  rcases Deep.open_slice ht hf with ⟨h0, hx⟩ | ⟨a', len, m, m', n, D, Pl, h0, _, hl, hm, hmm, hx, hcell⟩
  · exact ⟨_, [], h0, SlS.nil _ _ _, (by intro x hx'; cases hx'), by simp⟩
  · simp only [if_true] at hmm
    subst hmm
    rw [hc] at hcell
    have hd' : x.1 = .slice ((List.range len).map D) ((List.range (m' - len)).map fun j => D (len + j)) := by rw [hx]
    have hch : ∀ i, i < len → ∃ x : α, W.cells? 0 (a'.add (i * sz)) sz = some (c x) ∧ good x := fun i hi => by
      obtain ⟨cs', h1, h2⟩ := hcell i (by omega)
      obtain ⟨x, rfl, hg⟩ := hel _ _ _ h2 (by
        rw [List.all_eq_true] at hw ⊢
        intro n hn
        refine hw n ?_
        rw [hd']
        unfold DataW.weights
        rw [ht]
        exact List.mem_cons_of_mem _ (List.mem_append.2 (.inl (weights_all (List.mem_map.2 ⟨i, List.mem_range.2 hi, rfl⟩) hn))))
      exact ⟨x, h1, hg⟩
    obtain ⟨f, hfx⟩ := Deep.choose_lt hch
    have hxs : ∀ i, i < len → nth ((List.range len).map f) i = f i := fun i hi => by simp [nth, hi]
    refine ⟨_, (List.range len).map f, h0, ⟨some a', m', by simp, by simpa using hl, hm, fun hpos => ?_⟩, ?_, ?_⟩
    · simp only [List.length_map, List.length_range] at hpos ⊢
      have h00 := (hfx 0 hpos).1
      obtain ⟨_, hlen, hat⟩ := World.cells?_some h00
      have hcell0 : ∃ u, W.cell? (a'.add 0) = some u := by
        have := hat 0 (by omega)
        simp [Deep.add_add] at this
        rw [List.getElem?_eq_getElem (by rw [hcl]; exact hsz)] at this
        exact ⟨_, this⟩
      obtain ⟨u, hu⟩ := hcell0
      have ha := addr_plain hu
      refine ⟨a'.block, a'.off, by rw [← ha], fun i hi j hj => ?_⟩
      obtain ⟨_, hlen', hat'⟩ := World.cells?_some (hfx i hi).1
      have h3 := hat' j (by omega)
      rw [hxs i hi]
      rw [Deep.add_add, ha, Addr.add_lit] at h3
      rw [Nat.add_assoc]
      exact h3
    · intro x hx'
      obtain ⟨i, hi, rfl⟩ := List.mem_map.1 hx'
      exact (hfx i (List.mem_range.1 hi)).2
    · rw [hd'] at hw
      have := sized_slice (H := H) (P := P) (ts := [t]) (ds := [_]) (by simpa [DataW.weightsEach] using hw) (j := 0) rfl rfl ht
      simp only [List.length_map, List.length_range, reachBytes] at this
      simp only [List.length_map, List.length_range]
      exact Nat.le_trans (Nat.mul_le_mul_right _ (by omega)) this
theorem trod_fieldsW {t : TypeId} {fs : Array Field} {fuel : Nat} {cs : List Value} {x : DataW H × List MemPlace} (ht : P.underlying t = some (.struct fs))
    (h : DataW.trod enc P W 0 (fun _ => true) true fuel t cs = some x) (hw : (x.1.weights P t).all (· ≤ reachBytes) = true) : cs.length = P.cellsOf t ∧
    ∀ (i : Nat) (ty off : Nat), (fs.toList.map fun f => (f.type, f.offset))[i]? = some (ty, off) → ∃ n y, DataW.trod enc P W 0 (fun _ => true) true n ty ((cs.drop off).take (P.cellsOf ty)) = some y ∧ (y.1.weights P ty).all (· ≤ reachBytes) = true := by
  obtain ⟨xs, n, _, hx0, hl, hn, hx⟩ := DataW.trod_struct ht h
  refine ⟨hl, fun i ty off hi => ?_⟩
  rw [List.getElem?_map] at hi
  cases hf : fs.toList[i]? with
  | none => rw [hf] at hi; cases hi
  | some f =>
    rw [hf] at hi
    simp only [Option.map_some, Option.some.injEq, Prod.mk.injEq] at hi
    obtain ⟨rfl, rfl⟩ := hi
    have hlt : i < xs.length := by
      rw [hn]
      have := (List.getElem?_eq_some_iff.1 hf).1
      simpa using this
    have h1 := hx i f (by simpa using hf)
    rw [List.getElem?_eq_getElem hlt] at h1
    refine ⟨n, _, h1, ?_⟩
    rw [List.all_eq_true] at hw ⊢
    intro z hz
    refine hw z ?_
    rw [hx0]
    unfold DataW.weights
    rw [ht]
    exact DataW.weights_mem_each (j := i) (by rw [List.getElem?_map, hf]; rfl) (by rw [List.getElem?_map, List.getElem?_eq_getElem hlt]; rfl) z hz
theorem slB_of {v : Value} {xs : List Int} (h : SlS W v 1 (fun n : Int => [Value.int .u8 n]) xs) (h2 : ∀ x ∈ xs, (Lit.int .u8 x).wf = true) : SlB W v (xs.map fun x => UInt8.ofNat x.toNat) := by
  have h1 := h.sl1
  unfold SlB
  rw [List.length_map]
  refine Sl1.cong h1 fun i hi => ?_
  have hx := h2 (nth xs i) (nth_mem xs i hi)
  have hb : 0 ≤ nth xs i ∧ nth xs i < 256 := by
    have hz := bounds_u8 hx
    omega
  have e : nth (xs.map fun x => UInt8.ofNat x.toNat) i = UInt8.ofNat (nth xs i).toNat := by
    unfold nth
    simp [hi]
  rw [e]
  have e2 : ((UInt8.ofNat (nth xs i).toNat).toNat : Int) = nth xs i := by
    rw [UInt8.toNat_ofNat']
    omega
  rw [e2]
theorem tellsW_fcall {e ti ts tb tp eb ei : TypeId} {fs : Array Field} (h : P.underlying e = some (.struct fs)) (hf : (fs.toList.map fun f => (f.type, f.offset)) = [(ti, 0), (ts, 1), (ts, 2), (tb, 3), (ti, 4), (tp, 5)])
    (hc : P.cellsOf e = 6) (hi : P.underlying ti = some (.int .i64)) (hi1 : P.cellsOf ti = 1) (hs : P.underlying ts = some .string) (hs1 : P.cellsOf ts = 1)
    (hb : P.underlying tb = some (.slice eb)) (hb1 : P.cellsOf tb = 1) (hb2 : P.underlying eb = some (.int .u8)) (hb3 : P.cellsOf eb = 1) (hb4 : P.bytesOf eb = 1)
    (hp : P.underlying tp = some (.slice ei)) (hp1 : P.cellsOf tp = 1) (hp2 : P.underlying ei = some (.int .i64)) (hp3 : P.cellsOf ei = 1) :
    TellsW enc P W e eFCall (GoodC W) := by
  intro fuel cs x hx hw
  obtain ⟨hl, hfl⟩ := trod_fieldsW h hx hw
  rw [hc] at hl
  rw [hf] at hfl
  match cs, hl with
  | [c0, c1, c2, c3, c4, c5], _ =>
    obtain ⟨n0, y0, h0, w0⟩ := hfl 0 _ _ rfl
    obtain ⟨n1, y1, h1, w1⟩ := hfl 1 _ _ rfl
    obtain ⟨n2, y2, h2, w2⟩ := hfl 2 _ _ rfl
    obtain ⟨n3, y3, h3, w3⟩ := hfl 3 _ _ rfl
    obtain ⟨n4, y4, h4, w4⟩ := hfl 4 _ _ rfl
    obtain ⟨n5, y5, h5, w5⟩ := hfl 5 _ _ rfl
    rw [hi1] at h0 h4
    rw [hs1] at h1 h2
    rw [hb1] at h3
    rw [hp1] at h5
    obtain ⟨k, e0, g0⟩ := tells_int hi _ _ _ h0
    obtain ⟨s1, e1, g1⟩ := tellsW_string hs _ _ _ h1 w1
    obtain ⟨s2, e2, g2⟩ := tellsW_string hs _ _ _ h2 w2
    obtain ⟨v3, l3, e3, g3, k3, b3⟩ := slS_of_trodW (α := Int) hb hb3 (by omega) (TellsW.of (tells_int hb2)) (fun _ => rfl) h3 w3
    obtain ⟨q, e4, g4⟩ := tells_int hi _ _ _ h4
    obtain ⟨v5, l5, e5, g5, k5, b5⟩ := slS_of_trodW (α := Int) hp hp3 (by omega) (TellsW.of (tells_int hp2)) (fun _ => rfl) h5 w5
    simp at e0 e1 e2 e3 e4 e5
    subst e0; subst e1; subst e2; subst e3; subst e4; subst e5
    have B := slB_of g3 k3
    have I : SlI W c5 l5 := ⟨g5.sl1, fun p hp => by have := bounds_i64 (k5 p hp); omega⟩
    obtain ⟨ab, zb, hvb, _⟩ := B.ex
    obtain ⟨ap, zp, hvp, _⟩ := I.1.ex
    rw [hb4, Nat.mul_one] at b3
    refine ⟨⟨k, s1, s2, c3, q, c5⟩, rfl, ab, zb, ap, zp, _, l5, hvb, hvp, B, I, Nat.le_trans g1 (by decide), Nat.le_trans g2 (by decide), by rw [List.length_map]; omega, (bounds_i64 g4).1, (bounds_i64 g4).2⟩
theorem open_fcalls {t e : TypeId} {v : Value} {d : DataW H} {ps : List MemPlace} {r : Reach} {b0 : Nat} (ht : P.underlying t = some (.slice e)) (hc : P.cellsOf e = 6) (hel : TellsW enc P W e eFCall (GoodC W))
    (hval : Value.okWide P W r b0 t v) (hd : DataW.Trod enc P W 0 (fun _ => true) true t v d ps) (hw : (d.weights P t).all (· ≤ reachBytes) = true) : ∃ l : List FCall, SlS W v 6 eFCall l ∧ ∀ c, c ∈ l → GoodC W c := by
  obtain ⟨a, len, cap, rfl⟩ := okWide_slice ht hval
  obtain ⟨fuel, hf⟩ := hd
  obtain ⟨v, xs, h0, h1, h2, h3⟩ := slS_of_trodW ht hc (by omega) hel (fun _ => rfl) hf hw
  simp [Value.cells] at h0
  subst h0
  exact ⟨xs, h1, h2⟩
end Go.Proofs.Ytjekfifnhdoamaa
