/- The walk of a table's Get. -/
import Derived.Test.YtoonhcmeklmnlaaMtG
set_option linter.unusedSimpArgs false
set_option linter.unusedVariables false
set_option linter.unnecessarySimpa false
namespace Go.Proofs.Ytoonhcmeklmnlaa
open Go.RowKit Go.Rg Go.St

theorem fnd_some {α : Type} [BEq α] [LawfulBEq α] {l : List (α × Value)} {k : α} {i : Nat} {v : Value} (h : fnd l k = some (i, v)) : ∃ p, p ∈ l ∧ p.1 = k ∧ p.2 = v := by
  unfold fnd at h
  cases hf : l.findIdx? (fun p => p.1 == k) with
  | none => rw [hf] at h; cases h
  | some j =>
    rw [hf] at h
    simp only [Option.map_some, Option.some.injEq, Prod.mk.injEq] at h
    obtain ⟨rfl, h2⟩ := h
    obtain ⟨hj, h3, _⟩ := List.findIdx?_eq_some_iff_getElem.1 hf
    rw [List.getElem?_eq_getElem hj] at h2
    exact ⟨l[j], List.getElem_mem hj, by simpa using h3, by simpa using h2⟩
theorem fnd_none {α : Type} [BEq α] [LawfulBEq α] {l : List (α × Value)} {k : α} (h : fnd l k = none) : ∀ p, p ∈ l → p.1 ≠ k := by
  unfold fnd at h
  rw [Option.map_eq_none_iff, List.findIdx?_eq_none_iff] at h
  intro p hp e
  have := h p hp
  rw [e] at this
  simp at this
theorem fnd_absent {α : Type} [BEq α] [LawfulBEq α] {l : List (α × Value)} {k : α} (h : ∀ p, p ∈ l → p.1 ≠ k) : fnd l k = none := by
  unfold fnd
  rw [Option.map_eq_none_iff, List.findIdx?_eq_none_iff]
  intro p hp
  simpa using h p hp
def zKey : IKey := ⟨ByteArray.empty, 0, 0⟩
theorem kmap_any {M : MT} (t : ByteArray) : ∃ k, (lk1 (kmap M) t).getD (aKey zKey) = aKey k := by
  unfold lk1
  cases hf : fnd (kmap M) t with
  | none => exact ⟨zKey, rfl⟩
  | some p =>
    obtain ⟨q, hq, _, e⟩ := fnd_some (i := p.1) (v := p.2) hf
    obtain ⟨x, _, rfl⟩ := List.mem_map.1 hq
    exact ⟨x.1, by simp [← e]⟩
theorem kmap_has {M : MT} (hM : MInv M) {e : IKey × ByteArray} (he : e ∈ M.es) : (lk1 (kmap M) (keyT e.1)).getD (aKey zKey) = aKey e.1 := by
  unfold lk1
  cases hf : fnd (kmap M) (keyT e.1) with
  | none => exact absurd rfl (fnd_none hf (keyT e.1, aKey e.1) (List.mem_map.2 ⟨e, he, rfl⟩))
  | some p =>
    obtain ⟨q, hq, e1, e2⟩ := fnd_some (i := p.1) (v := p.2) hf
    obtain ⟨x, hx, rfl⟩ := List.mem_map.1 hq
    have := keyT_inj (hM.good x hx) (hM.good e he) e1
    show p.2 = aKey e.1
    rw [← e2, this]
theorem uniq_es {M : MT} (hM : MInv M) {e x : IKey × ByteArray} (he : e ∈ M.es) (hx : x ∈ M.es) (h : x.1 = e.1) : x = e := by
  have := hM.uniq
  generalize M.es = l at *
  induction l with
  | nil => cases he
  | cons a l ih =>
    rw [List.map_cons, List.nodup_cons] at this
    rcases List.mem_cons.1 he with rfl | he'
    · rcases List.mem_cons.1 hx with rfl | hx'
      · rfl
      · exact absurd (List.mem_map.2 ⟨x, hx', h⟩) this.1
    · rcases List.mem_cons.1 hx with rfl | hx'
      · exact absurd (List.mem_map.2 ⟨e, he', h.symm⟩) this.1
      · exact ih he' hx' this.2
theorem vmap_has {M : MT} (hM : MInv M) {e : IKey × ByteArray} (he : e ∈ M.es) : (lk1 (vmap M) e.1).getD (.string ByteArray.empty) = .string e.2 := by
  unfold lk1
  cases hf : fnd (vmap M) e.1 with
  | none => exact absurd rfl (fnd_none hf (e.1, .string e.2) (List.mem_map.2 ⟨e, he, rfl⟩))
  | some p =>
    obtain ⟨q, hq, e1, e2⟩ := fnd_some (i := p.1) (v := p.2) hf
    obtain ⟨x, hx, rfl⟩ := List.mem_map.1 hq
    have := uniq_es hM he hx e1
    show p.2 = .string e.2
    rw [← e2, this]
theorem kmapT : Try.prog.underlying 118 = some (.map 9 42) := by kernel_rfl
theorem vmapT : Try.prog.underlying 119 = some (.map 42 9) := by kernel_rfl
theorem ikeyZ : ∃ i, Try.prog.info? 42 = some i ∧ i.zero = some (aKey zKey) := by
  have h : (Try.prog.info? 42).map (·.zero) = some (some (aKey zKey)) := by kernel_rfl
  obtain ⟨i, h1, h2⟩ := Option.map_eq_some_iff.1 h
  exact ⟨i, h1, h2⟩
theorem strZ : ∃ i, Try.prog.info? 9 = some i ∧ i.zero = some (.string ByteArray.empty) := by
  have h : (Try.prog.info? 9).map (·.zero) = some (some (.string ByteArray.empty)) := by kernel_rfl
  obtain ⟨i, h1, h2⟩ := Option.map_eq_some_iff.1 h
  exact ⟨i, h1, h2⟩
theorem strK : KeyF Try.prog 9 strEnc := keyF_of (keyT_string Try.underlying9)
theorem look_keys {w : World} {T : TLoc} {M : MT} (h : MapB w T.kb strEnc (kmap M)) (t : ByteArray) : (Instr.lookup 118 (.map (some T.kb)) (.string t) false).run Try.prog w = .ok ((lk1 (kmap M) t).getD (aKey zKey)) w := by
  obtain ⟨i, hi, hz⟩ := ikeyZ
  have := run_lookupB (w := w) kmapT strK h t hi hz false
  simpa [strEnc] using this
theorem look_vals {w : World} {T : TLoc} {M : MT} (h : MapB w T.vb aKey (vmap M)) (k : IKey) : (Instr.lookup 119 (.map (some T.vb)) (aKey k) false).run Try.prog w = .ok ((lk1 (vmap M) k).getD (.string ByteArray.empty)) w := by
  obtain ⟨i, hi, hz⟩ := strZ
  have := run_lookupB (w := w) vmapT keyF_ikey h k hi hz false
  simpa using this

theorem TRep.ext {w w' : World} {T : TLoc} {M : MT} (h : TRep w T M) (he : Ext w w') : TRep w' T M :=
  ⟨(he.block _ (blk_lt h.tb)).trans h.tb, owns_ext h.row he, h.km.go (he.block _ h.km.lt), h.vm.go (he.block _ h.vm.lt), fun i hi => (h.ls i hi).ext he, h.ap, h.kv, h.mo⟩
def GetOf (M : MT) (u : ByteArray) (s : Int) (v : ByteArray) (n : Int) : Prop := (NoneOf M u s ∧ v = ByteArray.empty ∧ n = 0) ∨ ∃ e, Newest M u s e ∧ ((e.1.kind = 0 ∧ v = ByteArray.empty ∧ n = 1) ∨ (e.1.kind = 1 ∧ v = e.2 ∧ n = 2))
def GetPost (M : MT) (u : ByteArray) (s : Int) (w : World) (e : Ending) (w' : World) : Prop := ∃ v n, e = .returned (.tuple #[.string v, .int .i64 n]) ∧ GetOf M u s v n ∧ Ext w w'

theorem getOf_min {M : MT} (hM : MInv M) {u : ByteArray} {s s' : Int} (h : s' = s ∨ (72057594037927935 ≤ s' ∧ 72057594037927935 ≤ s)) {v : ByteArray} {n : Int} (hg : GetOf M u s' v n) : GetOf M u s v n := by
  rcases h with rfl | ⟨h1, h2⟩
  · exact hg
  · have hle : ∀ e, e ∈ M.es → e.1.seq ≤ 72057594037927935 := fun e he => (hM.good e he).2.2.1
    rcases hg with ⟨a, b, c⟩ | ⟨e, ⟨a1, a2, a3, a4⟩, b⟩
    · exact .inl ⟨fun e he hu => by have := a e he hu; have := hle e he; omega, b, c⟩
    · exact .inr ⟨e, ⟨a1, a2, by have := hle e a1; omega, fun e' he' hu' _ => a4 e' he' hu' (by have := hle e' he'; omega)⟩, b⟩

set_option maxRecDepth 100000 in
set_option maxHeartbeats 2000000 in
theorem get_in {w : World} {T : TLoc} {M : MT} (h : TRep w T M) (hM : MInv M) (u : ByteArray) (s : Nat) (hu : u.size ≤ 1099511627776) :
    Calls Try.prog 25 #[.pointer (some ⟨T.tb, 0, none⟩), .string u, .int .u64 s] w (GetPost M u s w) := by
  have c1 : w.cell? ⟨T.tb, 1, none⟩ = some (.map (some T.kb)) := cell_of_row _ _ _ _ _ _ h.tb
  have c2 : w.cell? ⟨T.tb, 2, none⟩ = some (.map (some T.vb)) := cell_of_row _ _ _ _ _ _ h.tb
  have H := hid h
  have HM := hid hM
  clear h hM
  obtain ⟨s', hs', hss⟩ : ∃ s' : Nat, s' < 72057594037927936 ∧ ((72057594037927935 < s ∧ s' = 72057594037927935) ∨ (¬ 72057594037927935 < s ∧ s' = s)) := by
    by_cases h : 72057594037927935 < s
    · exact ⟨72057594037927935, by omega, .inl ⟨h, rfl⟩⟩
    · exact ⟨s, by omega, .inr ⟨h, rfl⟩⟩
  have hconv : (s' : Int) = s ∨ ((72057594037927935 : Int) ≤ s' ∧ (72057594037927935 : Int) ≤ s) := by omega
  have hmin : ∀ (ts : Array TypeId) (t : TypeId) (w : World), (Builtin.min_ ts t #[.int .u64 (s : Int), .int .u64 72057594037927935]).run Try.prog w = .ok (.int .u64 (s' : Int)) w := by
    intro ts t w
    rw [run_min_int2]
    congr 2
    split <;> omega
  have HC := hid hconv
  clear hconv hss
  go_enter Try.func25, Try.ntmps25
  go_wp2_with fail
  refine (ordered_in u s' 255 hs' (by decide) hu w).mono ?_
  rintro e w1 ⟨rfl, he1⟩
  have H1 := hid he1
  clear he1
  go_wp2_with fail
  refine (first_in (H.out.ext H1.out) HM.out.toMDone _).mono ?_
  rintro e w2 ⟨t, ok, rfl, hf, he2⟩
  have H2 := hid (H1.out.tr he2)
  have HF : Hid (FirstOf (tkeys M M.ls.length) (seekT u s') t ok) := hid hf
  clear hf he2 H1
  have R2 := hid (H.out.ext H2.out)
  have hlk := look_keys R2.out.km t
  have c1 := ext_cell H2.out c1
  have c2 := ext_cell H2.out c2
  cases ok
  · obtain ⟨ht, hno⟩ := first_none HM.out hs' HF.out
    obtain ⟨k0, hk0⟩ := kmap_any (M := M) t
    rw [hk0] at hlk
    have HNO := hid hno
    clear hk0 ht hno
    go_wp2
    go_ret2
    exact ⟨_, _, rfl, getOf_min HM.out HC.out (.inl ⟨HNO.out, rfl, rfl⟩), H2.out.al _⟩
  · obtain ⟨e, he, hk, hy, hn⟩ := first_some HM.out hs' HF.out
    subst hk
    rw [kmap_has HM.out he] at hlk
    have hlv := fun n => look_vals (w := w2.drewN n) (T := T) (M := M) R2.out.vm e.1
    have hge := HM.out.good e he
    have hlv2 := fun o n => look_vals (w := (w2.alloc o).drewN n) (T := T) (M := M) (R2.out.vm.go (((Ext.rfl w2).al o).block _ R2.out.vm.lt)) e.1
    rw [vmap_has HM.out he] at hlv hlv2
    have HE := hid he
    have HY := hid hy
    have HNO := hid hn
    have HG := hid hge
    have HLV := hid hlv2
    clear he hy hn hlv hlv2
    by_cases heu : e.1.user = u
    · have hb1 : (e.1.user.toList == u.toList) = true := by rw [heu]; simp
      have hb2 : (!(e.1.user.toList == u.toList)) = false := by rw [hb1]; rfl
      have HN := hid (HY.out heu)
      have HU := hid heu
      clear heu
      rcases hge.2.2.2 with h0 | h1
      · have hk0 : (e.1.kind == 0) = true := by rw [h0]; rfl
        have HK := hid h0
        clear h0 hge
        go_wp2
        go_ret2
        exact ⟨_, _, rfl, getOf_min HM.out HC.out (.inr ⟨e, HN.out, .inl ⟨HK.out, rfl, rfl⟩⟩), H2.out.al _⟩
      · have hk0 : (e.1.kind == 0) = false := by rw [h1]; rfl
        have HK := hid h1
        clear h1 hge
        have hq := HLV.out (.cells #[.string e.1.user, .int .u64 e.1.seq, .int .i64 e.1.kind] 42)
        have hlt2 := cell_lt c2
        go_wp2_with fail
        go_quiet (fail)
        go_wp2
        go_ret2
        exact ⟨_, _, rfl, getOf_min HM.out HC.out (.inr ⟨e, HN.out, .inr ⟨HK.out, rfl, rfl⟩⟩), (H2.out.al _).drN _⟩
    · have hb1 : (e.1.user.toList == u.toList) = false := str_ne heu
      have hb2 : (!(e.1.user.toList == u.toList)) = true := by rw [hb1]; rfl
      have HN := hid (HNO.out heu)
      have HU := hid heu
      clear heu hge
      go_wp2
      go_ret2
      exact ⟨_, _, rfl, getOf_min HM.out HC.out (.inl ⟨HN.out, rfl, rfl⟩), H2.out.al _⟩
end Go.Proofs.Ytoonhcmeklmnlaa
