/- Appends to a row wherever it lies: what is turned is that row alone. -/
import Derived.Test.YtjekfifnhdoamaaCh
import Derived.Maps.AppendAt
import Derived.Deep.RegionLaw
import Derived.Laws.CopyRow
import Derived.OwnWalk
set_option linter.unusedSimpArgs false
set_option linter.unusedVariables false
set_option linter.unnecessarySimpa false
namespace Go.St
open Go.RowKit Go.Rg

theorem news_atG (w : World) (cs : Array Value) (T : TypeId) : ∀ j u, cs.toList[j]? = some u → (w.alloc (.cells cs T)).cell? ((⟨w.heap.size, 0, none⟩ : Addr).add j) = some u := by
  intro j u h
  have hr := heap_alloc_new w (.cells cs T)
  simp only [Addr.add]
  split
  · rename_i h0; subst h0; rw [cell_of_row _ _ _ _ _ _ hr]; simpa using h
  · rw [Nat.zero_add, cell_of_row _ _ _ _ _ _ hr]; simpa using h
theorem slice_ofG {w : World} {base : Nat} {e : TypeId} {sz : Nat} {v : Value} {n : Nat} {xs : List Value} (h : w.ownsRow base e sz v n xs) : ∃ a cap, v = .slice a n cap ∧ n ≤ maxLen := by
  rcases h.2 with ⟨rfl, rfl⟩ | ⟨g, cap, cur, rfl, _, hg, hnc, hcm, hcs, htk⟩
  · exact ⟨_, _, rfl, Nat.zero_le _⟩
  · exact ⟨_, _, rfl, Nat.le_trans hnc hcm⟩
/-- what an append leaves -/
structure AppP (w w' : World) (E : TypeId) (sz : Nat) (v v' : Value) (n : Nat) (xs : List Value) : Prop where
  own : w'.ownsRow 0 E sz v' n xs
  ch : Ch (fun k => v.ownBlock = some k) w w'
  blk : ∀ k, v'.ownBlock = some k → v.ownBlock = some k ∨ k = w.heap.size
theorem run_appG {P : Program} {w : World} {T E : TypeId} {sz bt : Nat} (hT : ElT P T E sz bt) (ty : TypeId) {v : Value} {n : Nat} {xs : List Value} (hown : w.ownsRow 0 E sz v n xs)
    {ad : Addr} {m c : Nat} {news : List Value} (hl : news.length = m * sz) (hnews : ∀ j u, news[j]? = some u → w.cell? (ad.add j) = some u) (h1 : ∀ u ∈ news, u.oneCell' = true)
    (hbytes : (n + m) * bt ≤ 140737488355328) :
    ∃ v' w', (Builtin.append_ #[T, T] ty #[v, .slice (some ad) m c]).run P w = .ok v' w' ∧ AppP w w' E sz v v' (n + m) (xs ++ news) := by
  obtain ⟨i, z, hi, hz, h2, h3, h4⟩ := hT.parts
  have hm : n + m ≤ maxLen := by
    have := Nat.le_trans (Nat.le_mul_of_pos_right (n + m) hT.bpos) hbytes
    simp only [maxLen]; omega
  obtain ⟨v', w', hrun, r1, r2, _, r4⟩ := run_append_own_at (P := P) w 0 T ty E i z sz bt hT.und hi hz h2 h3 h4 hT.pos v n xs hown ad m c news hl hnews h1 hm hbytes (Nat.zero_le _)
  refine ⟨v', w', hrun, r1, grown_ch r2, fun k hk => ?_⟩
  rcases r4 with e | e
  · exact .inl (by rw [← e]; exact hk)
  · exact .inr (by rw [e] at hk; exact (Option.some.inj hk).symm)
theorem step_appG {P : Program} {ops : Array Oper} {o : Oper} {a : Act} {w : World} {K : Act → World → Prop} {Q : Exit → Act → World → Prop} {C : Prop}
    (hg : o.guard = none) (s x : Operand) (T : TypeId) (hop : o.op = Op.call { callee := Callee.builtin Builtin.append, args := #[s, x], argTypes := #[T, T] })
    {E : TypeId} {sz bt : Nat} (hT : ElT P T E sz bt) {v : Value} {n : Nat} {xs : List Value} (hs : a.eval s = v) (hown : w.ownsRow 0 E sz v n xs)
    {ad : Addr} {m c : Nat} {news : List Value} (hx : a.eval x = .slice (some ad) m c) (hl : news.length = m * sz) (hnews : ∀ j u, news[j]? = some u → w.cell? (ad.add j) = some u) (h1 : ∀ u ∈ news, u.oneCell' = true)
    (hbytes : (n + m) * bt ≤ 140737488355328)
    (hK : ∀ v' w', AppP w w' E sz v v' (n + m) (xs ++ news) → K (a.put o.dst v') w') :
    if Region.wanted o (yielded ops a.tmps) = true then Oper.wp P o a w K Q else C := by
  have hw : Region.wanted o (yielded ops a.tmps) = true := by simp [Region.wanted, hg]
  rw [if_pos hw]
  obtain ⟨v', w', hrun, hp⟩ := run_appG (P := P) hT o.type hown hl hnews h1 hbytes
  unfold Oper.wp
  simp [execOp, hop, resolve, invoke, builtin, hs, hx, Result.andThen]
  rw [hrun]
  exact hK _ _ hp
section
variable {P : Program} {ops : Array Oper} {Q : Exit → Act → World → Prop} {rest : List Oper} {a : Act} {w : World} {d : Option Tmp} {ty : TypeId} {pos : String} {aft : Array Edge}
theorem wpList_appG {s x : Operand} {T E : TypeId} {sz bt : Nat} (hT : ElT P T E sz bt) {v : Value} {n : Nat} {xs : List Value} (hs : a.eval s = v) (hown : w.ownsRow 0 E sz v n xs)
    {ad : Addr} {m c : Nat} {news : List Value} (hx : a.eval x = .slice (some ad) m c) (hl : news.length = m * sz) (hnews : ∀ j u, news[j]? = some u → w.cell? (ad.add j) = some u) (h1 : ∀ u ∈ news, u.oneCell' = true)
    (hbytes : (n + m) * bt ≤ 140737488355328)
    (h : ∀ v' w', AppP w w' E sz v v' (n + m) (xs ++ news) → wpList P ops Q rest (a.put d v') w') :
    wpList P ops Q (⟨d, .call ⟨.builtin .append, #[s, x], #[T, T]⟩, ty, pos, aft, none⟩ :: rest) a w := by
  obtain ⟨i, z, hi, hz, h2, h3, h4⟩ := hT.parts
  have hm : n + m ≤ maxLen := by
    have := Nat.le_trans (Nat.le_mul_of_pos_right (n + m) hT.bpos) hbytes
    simp only [maxLen]; omega
  refine wpList_append_own_at w rfl s x T rfl 0 E i z sz bt hT.und hi hz h2 h3 h4 hT.pos v n xs hs hown ad m c news hx hl hnews h1 hm hbytes (Nat.zero_le _) fun v' w' r1 r2 _ r4 => h v' w' ⟨r1, grown_ch r2, fun k hk => ?_⟩
  rcases r4 with e | e
  · exact .inl (by rw [← e]; exact hk)
  · exact .inr (by rw [e] at hk; exact (Option.some.inj hk).symm)
end
section
variable {P : Program} {ops : Array Oper} {Q : Exit → Act → World → Prop} {rest : List Oper} {a : Act} {w : World} {d : Option Tmp} {ty : TypeId} {pos : String} {aft : Array Edge}
theorem wpList_app_eq {s x : Operand} {T : TypeId} {v u v' : Value} {w' : World} (hs : a.eval s = v) (hx : a.eval x = u) (hrun : (Builtin.append_ #[T, T] ty #[v, u]).run P w = .ok v' w')
    (h : wpList P ops Q rest (a.put d v') w') : wpList P ops Q (⟨d, .call ⟨.builtin .append, #[s, x], #[T, T]⟩, ty, pos, aft, none⟩ :: rest) a w :=
  wpList_plain rfl fun K hK => by
    unfold Oper.wp
    simp [execOp, resolve, invoke, builtin, hs, hx, Result.andThen]
    rw [hrun]
    exact hK _ _ h
end
theorem run_app0 {P : Program} {w : World} {T E : TypeId} {sz bt : Nat} (hT : ElT P T E sz bt) (ty : TypeId) (a b : Option Addr) (n c c' : Nat) (h : n ≤ c) :
    (Builtin.append_ #[T, T] ty #[.slice a n c, .slice b 0 c']).run P w = .ok (.slice a n c) w := by
  obtain ⟨i, z, hi, hz, h2, h3, h4⟩ := hT.parts
  cases a <;> cases b <;> simp [Builtin.append_, run_underlying hT.und, sizeOf, typeInfo, zeroValue, hi, hz, h2, h, Builtin.lenOf, Builtin.firstCells, storeCells, loadCells, loadCellsFrom]
/-! ### copies -/
theorem run_copyG {P : Program} (w : World) (dT sT ty elem : TypeId) (g dLen dCap : Nat) (a : Addr) (sLen sCap : Nat) (cur : Array Value) (t : TypeId) (cs : List Value) (n sz : Nat)
    (hu : P.underlying dT = some (.slice elem)) (hs : (P.info? elem).map (·.size) = some sz) (hg : w.heap[g]? = some (.cells cur t (0, 0))) (hn : n = Nat.min sLen dLen) (hcl : cs.length = n * sz)
    (hsrc : ∀ j v, cs[j]? = some v → w.cell? (a.add j) = some v) (hfit : cs.length ≤ cur.size) (h1 : ∀ v ∈ cs, v.oneCell' = true) :
    (Builtin.copy_ #[dT, sT] ty #[.slice (some ⟨g, 0, none⟩) dLen dCap, .slice (some a) sLen sCap]).run P w = .ok (goInt n) (w.setRow g (cs ++ cur.toList.drop cs.length).toArray) := by
  have hl := run_loadCells_list (P := P) w a cs hsrc
  have hst := run_storeCells_at P g 0 t cs 0 cur w hg (by simpa using hfit) h1
  cases hq : P.info? elem with
  | none => simp [hq] at hs
  | some i =>
    have hi : i.size = sz := by simpa [hq] using hs
    rw [hcl] at hl
    simp [Builtin.copy_, run_underlying hu, Builtin.lenOf, Builtin.firstCells, sizeOf, typeInfo, hq, hi, ← hn, hl, hst]
theorem wpList_copyG {P : Program} {w : World} {ops : Array Oper} {rest : List Oper} {o : Oper} {a : Act} {Q : Exit → Act → World → Prop} (hgd : o.guard = none) (d s : Operand) (dT sT : TypeId)
    (ho : o.op = .call { callee := .builtin .copy, args := #[d, s], argTypes := #[dT, sT] }) (elem : TypeId) (sz : Nat) (hu : P.underlying dT = some (.slice elem)) (hsz : (P.info? elem).map (·.size) = some sz)
    (g dLen dCap : Nat) (ad : Addr) (sLen sCap : Nat) (hd : a.eval d = .slice (some ⟨g, 0, none⟩) dLen dCap) (hs : a.eval s = .slice (some ad) sLen sCap)
    (cur : Array Value) (t : TypeId) (hg : w.heap[g]? = some (.cells cur t (0, 0))) (cs : List Value) (n : Nat) (hn : n = Nat.min sLen dLen) (hcl : cs.length = n * sz)
    (hsrc : ∀ j v, cs[j]? = some v → w.cell? (ad.add j) = some v) (hfit : cs.length ≤ cur.size) (h1 : ∀ v ∈ cs, v.oneCell' = true)
    (h : wpList P ops Q rest (a.put o.dst (goInt n)) (w.setRow g (cs ++ cur.toList.drop cs.length).toArray)) : wpList P ops Q (o :: rest) a w := by
  refine wpList_plain hgd fun K hK => ?_
  have hrun := run_copyG (P := P) w dT sT o.type elem g dLen dCap ad sLen sCap cur t cs n sz hu hsz hg hn hcl hsrc hfit h1
  unfold Oper.wp
  simp [execOp, ho, resolve, invoke, builtin, hd, hs, hrun, Result.andThen]
  exact hK _ _ h
theorem owns_atG {w : World} {base : Nat} {e : TypeId} {sz g n cap : Nat} {xs : List Value} (h : w.ownsRow base e sz (.slice (some ⟨g, 0, none⟩) n cap) n xs) : ∃ cur, w.heap[g]? = some (.cells cur e (0, 0)) ∧ cur.size = cap * sz ∧ cur.toList.take (n * sz) = xs ∧ base ≤ g ∧ n ≤ cap ∧ cap ≤ maxLen := by
  rcases h.2 with ⟨h1, _⟩ | ⟨g', cap', cur, h1, hb, hg, hn, hm, hcs, htk⟩
  · cases h1
  · simp only [Value.slice.injEq, Option.some.injEq, Addr.mk.injEq] at h1
    obtain ⟨⟨rfl, _, _⟩, _, rfl⟩ := h1
    exact ⟨cur, hg, hcs, htk, hb, hn, hm⟩
theorem owns_srcG {w : World} {base : Nat} {e : TypeId} {sz g n cap : Nat} {xs : List Value} (h : w.ownsRow base e sz (.slice (some ⟨g, 0, none⟩) n cap) n xs) : ∀ j v, xs[j]? = some v → w.cell? ((⟨g, 0, none⟩ : Addr).add j) = some v := by
  obtain ⟨cur, hg, _, htk, _⟩ := owns_atG h
  intro j v hv
  rw [← htk, List.getElem?_take] at hv
  split at hv
  · rw [Addr.add_lit, Nat.zero_add, cell_of_row _ _ _ _ _ _ hg, ← Array.getElem?_toList]; exact hv
  · cases hv
theorem copy_ownsG {w : World} {base : Nat} {e : TypeId} {g N sz : Nat} {cs : List Value} {cur : Array Value} (hb : base ≤ g) (hg : w.heap[g]? = some (.cells cur e (0, 0))) (hcl : cs.length = N * sz) (hcur : cur.size = N * sz) (hm : N ≤ maxLen) :
    (w.setRow g (cs ++ cur.toList.drop cs.length).toArray).ownsRow base e sz (.slice (some ⟨g, 0, none⟩) N N) N cs ∧ Ch (· = g) w (w.setRow g (cs ++ cur.toList.drop cs.length).toArray) := by
  refine ⟨⟨by rw [hcl], .inr ⟨g, N, _, rfl, hb, setRow_heap w g cur _ e _ hg, Nat.le_refl _, hm, ?_, ?_⟩⟩, ⟨rfl, rfl, rfl, by simp [World.setRow], fun b _ hb => setRow_other w g b _ hb⟩⟩
  · simp [hcl, hcur]
  · rw [← hcl]; simp
/-! ### a row read as a slice -/
theorem flat_getG {α : Type} [Inhabited α] {sz : Nat} {enc : α → List Value} (hl : ∀ x, (enc x).length = sz) : ∀ (xs : List α) (i j : Nat), i < xs.length → j < sz → (xs.flatMap enc)[i * sz + j]? = (enc (nth xs i))[j]?
  | [], i, j, hi, _ => absurd hi (Nat.not_lt_zero _)
  | x :: xs, 0, j, _, hj => by
    rw [List.flatMap_cons, Nat.zero_mul, Nat.zero_add, List.getElem?_append_left (by rw [hl]; exact hj)]
    rfl
  | x :: xs, i + 1, j, hi, hj => by
    rw [List.flatMap_cons, List.getElem?_append_right (by rw [hl, Nat.succ_mul]; omega), hl, show (i + 1) * sz + j - sz = i * sz + j by rw [Nat.succ_mul]; omega]
    rw [flat_getG hl xs i j (by simpa using hi) hj]
    rfl
theorem owns_slG {α : Type} [Inhabited α] {w : World} {base : Nat} {e : TypeId} {sz : Nat} {v : Value} {enc : α → List Value} {xs : List α} {n : Nat} (h : w.ownsRow base e sz v n (xs.flatMap enc)) (hn : n = xs.length) (hl : ∀ x, (enc x).length = sz) (hsz : 0 < sz) : SlS w v sz enc xs := by
  subst hn
  rcases h.2 with ⟨rfl, hx⟩ | ⟨g, cap, cur, rfl, _, hg, hnc, hcm, hcs, htk⟩
  · obtain rfl := List.eq_nil_of_length_eq_zero hx
    exact SlS.nil _ _ _
  · refine ⟨_, cap, rfl, hnc, hcm, fun _ => ⟨g, 0, rfl, fun i hi j hj => ?_⟩⟩
    have hlt : i * sz + j < xs.length * sz := by
      have : (i + 1) * sz ≤ xs.length * sz := Nat.mul_le_mul_right _ hi
      rw [Nat.succ_mul] at this
      omega
    rw [← flat_getG hl xs i j hi hj, ← htk, List.getElem?_take, if_pos hlt, Nat.zero_add, cell_of_row _ _ _ cur e (0, 0) hg, Array.getElem?_toList]
end Go.St
