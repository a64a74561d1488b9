/- Files that a crash cuts, told plainly. -/
import Derived.Test.YtjekfifnhdoamaaSkP
import Derived.Test.YtjekfifnhdoamaaNm
set_option linter.unusedSimpArgs false
set_option linter.unusedVariables false
set_option linter.unnecessarySimpa false
namespace Go.St

/-- a file: its bytes, of which the first ones last -/
structure Fl where
  b : List UInt8
  last : Nat
instance : Inhabited Fl := ⟨⟨[], 0⟩⟩
/-- names and the files' places, rising -/
abbrev Nm := List (ByteArray × Nat)
/-- a change of names: gone from one (none where it is empty), there by another one -/
structure Chg where
  frm : ByteArray
  to_ : ByteArray
  x : Nat
instance : Inhabited Chg := ⟨⟨ByteArray.empty, ByteArray.empty, 0⟩⟩
def fndN (l : Nm) (k : ByteArray) : Option Nat := (l.find? (fun p => p.1 == k)).map (·.2)
def nmIns (n : ByteArray × Nat) : Nm → Nm
  | [] => [n]
  | p :: l => if kl n.1 p.1 = true then n :: p :: l else p :: nmIns n l
def putN (l : Nm) (n : ByteArray × Nat) : Nm := nmIns n (offK n.1 l)
def doneC (c : Chg) (l : Nm) : Nm :=
  let m := if c.frm.size = 0 then l else offK c.frm l
  if c.to_.size = 0 then m else putN m (c.to_, c.x)
structure FsM where
  files : Nat → Fl
  nf : Nat
  names : Nm
  lasts : Nm
  since : List Chg
  quota : Nat
  ops : Nat
  fuse : Int
  fail : Int
def FsM.new (q : Nat) : FsM := ⟨fun _ => default, 0, [], [], [], q, 0, -1, -1⟩
def updF (f : Nat → Fl) (i : Nat) (x : Fl) : Nat → Fl := fun j => if j = i then x else f j
theorem updF_same (f : Nat → Fl) (i : Nat) (x : Fl) : updF f i x i = x := by simp [updF]
theorem updF_other (f : Nat → Fl) {i j : Nat} (x : Fl) (h : j ≠ i) : updF f i x j = f j := by simp [updF, h]

def FsM.ask (M : FsM) : Int × FsM :=
  if M.fuse = 0 then (44, { M with ops := M.ops + 1 })
  else
    let M2 : FsM := { M with ops := M.ops + 1, fuse := if 0 < M.fuse then M.fuse - 1 else M.fuse }
    if 0 ≤ M.fail then (if M.fail = 0 then (45, { M2 with fail := -1 }) else (0, { M2 with fail := M.fail - 1 })) else (0, M2)
def goodN (n : ByteArray) : Bool := decide (0 < n.size) && decide (n.size ≤ 32)
def FsM.doC (M : FsM) (c : Chg) : FsM := { M with names := doneC c M.names, since := M.since ++ [c] }
def FsM.create (M : FsM) (n : ByteArray) : Int × FsM :=
  if M.ask.1 ≠ 0 then M.ask else
    if goodN n = false then (40, M.ask.2) else
      if (fndN M.ask.2.names n).isSome then (41, M.ask.2) else
        (0, ({ M.ask.2 with files := updF M.files M.nf ⟨[], 0⟩, nf := M.nf + 1 } : FsM).doC ⟨ByteArray.empty, n, M.nf⟩)
def FsM.total (M : FsM) : Nat := (M.names.map fun p => (M.files p.2).b.length).sum
def FsM.append (M : FsM) (n : ByteArray) (b : List UInt8) : Int × FsM :=
  if M.ask.1 ≠ 0 then M.ask else
    match fndN M.ask.2.names n with
    | none => (42, M.ask.2)
    | some i => if M.quota < b.length + M.ask.2.total then (43, M.ask.2) else (0, { M.ask.2 with files := updF M.files i ⟨(M.files i).b ++ b, (M.files i).last⟩ })
def FsM.sync (M : FsM) (n : ByteArray) : Int × FsM :=
  if M.ask.1 ≠ 0 then M.ask else
    match fndN M.ask.2.names n with
    | none => (42, M.ask.2)
    | some i => (0, { M.ask.2 with files := updF M.files i ⟨(M.files i).b, (M.files i).b.length⟩ })
def FsM.rename (M : FsM) (n m : ByteArray) : Int × FsM :=
  if M.ask.1 ≠ 0 then M.ask else
    match fndN M.ask.2.names n with
    | none => (42, M.ask.2)
    | some i => if goodN m = false then (40, M.ask.2) else (0, M.ask.2.doC ⟨n, m, i⟩)
def FsM.remove (M : FsM) (n : ByteArray) : Int × FsM :=
  if M.ask.1 ≠ 0 then M.ask else
    match fndN M.ask.2.names n with
    | none => (42, M.ask.2)
    | some i => (0, M.ask.2.doC ⟨n, ByteArray.empty, 0⟩)
def FsM.syncDir (M : FsM) : Int × FsM :=
  if M.ask.1 ≠ 0 then M.ask else (0, { M.ask.2 with lasts := M.names, since := [] })
def FsM.read (M : FsM) (n : ByteArray) : List UInt8 × Int :=
  if M.fuse = 0 then ([], 44) else
    match fndN M.names n with
    | none => ([], 42)
    | some i => ((M.files i).b, 0)
def FsM.list (M : FsM) : List ByteArray × Int := if M.fuse = 0 then ([], 44) else (M.names.map (·.1), 0)
def FsM.setFuse (M : FsM) (n : Int) : FsM := { M with fuse := if n < -1 then -1 else n }
def FsM.setFail (M : FsM) (n : Int) : FsM := { M with fail := if n < -1 then -1 else n }
def FsM.damage (M : FsM) (n : ByteArray) (i : Int) (t : UInt8) : Int × FsM :=
  match fndN M.names n with
  | none => (42, M)
  | some k => if i < 0 ∨ ((M.files k).b.length : Int) ≤ i then (1, M) else (0, { M with files := updF M.files k ⟨(M.files k).b.set i.toNat ((M.files k).b.getD i.toNat 0 ^^^ t), (M.files k).last⟩ })
/-- one of picks, by its remainder -/
def pickN (l : List Int) (i most : Nat) : Nat :=
  let n := l.getD i 0
  (if n < 0 then -1 - n else n).toNat % (most + 1)
/-- what a loss of power leaves of files: those of the names from the i-th on -/
def cutF (picks : List Int) : Nm → Nat → (Nat → Fl) → (Nat → Fl)
  | [], _, f => f
  | p :: l, i, f =>
    let x := f p.2
    let n := x.last + pickN picks (i + 1) (x.b.length - x.last)
    cutF picks l (i + 1) (updF f p.2 ⟨x.b.take n, n⟩)
def applyC (l : Nm) (cs : List Chg) : Nm := cs.foldl (fun l c => doneC c l) l
def FsM.crash (M : FsM) (picks : List Int) : FsM :=
  let l := applyC M.lasts (M.since.take (pickN picks 0 M.since.length))
  { M with files := cutF picks l 0 M.files, names := l, lasts := l, since := [], fuse := -1, fail := -1 }

/-! ### what holds of all -/
def Rising (l : Nm) : Prop := l.Pairwise fun p q => kl p.1 q.1 = true
theorem Rising.nodup {l : Nm} (h : Rising l) : (l.map (·.1)).Nodup := by
  rw [List.Nodup, List.pairwise_map]
  refine List.Pairwise.imp (fun {a b} hab e => ?_) h
  rw [e, kl_irrefl] at hab
  cases hab
theorem Rising.off {l : Nm} (h : Rising l) (k : ByteArray) : Rising (offK k l) := List.Pairwise.sublist List.filter_sublist h
theorem mem_nmIns {n p : ByteArray × Nat} {l : Nm} : p ∈ nmIns n l ↔ p = n ∨ p ∈ l := by
  induction l with
  | nil => simp [nmIns]
  | cons q l ih =>
    unfold nmIns
    split
    · simp
    · simp [ih]
      constructor
      · rintro (h | h | h)
        · exact .inr (.inl h)
        · exact .inl h
        · exact .inr (.inr h)
      · rintro (h | h | h)
        · exact .inr (.inl h)
        · exact .inl h
        · exact .inr (.inr h)
theorem nmIns_perm (n : ByteArray × Nat) : ∀ l : Nm, (nmIns n l).Perm (n :: l)
  | [] => List.Perm.refl _
  | q :: l => by
    unfold nmIns
    split
    · exact List.Perm.refl _
    · exact ((nmIns_perm n l).cons q).trans (List.Perm.swap _ _ _)
theorem nmIns_rising {n : ByteArray × Nat} : ∀ {l : Nm}, Rising l → (∀ p, p ∈ l → p.1 ≠ n.1) → Rising (nmIns n l)
  | [], _, _ => List.pairwise_singleton _ _
  | q :: l, h, hn => by
    unfold Rising at h
    rw [List.pairwise_cons] at h
    unfold nmIns
    split
    · rename_i hlt
      refine List.pairwise_cons.2 ⟨fun p hp => ?_, List.pairwise_cons.2 h⟩
      rcases List.mem_cons.1 hp with rfl | hp
      · exact hlt
      · exact kl_trans hlt (h.1 p hp)
    · rename_i hlt
      refine List.pairwise_cons.2 ⟨fun p hp => ?_, nmIns_rising h.2 (fun p hp => hn p (List.mem_cons_of_mem _ hp))⟩
      rcases mem_nmIns.1 hp with rfl | hp
      · rcases kl_total q.1 p.1 with h1 | h1 | h1
        · exact h1
        · exact absurd h1 (hn q List.mem_cons_self)
        · exact absurd h1 hlt
      · exact h.1 p hp
theorem mem_offK {k : ByteArray} {p : ByteArray × Nat} {l : Nm} : p ∈ offK k l ↔ p ∈ l ∧ p.1 ≠ k := by
  unfold offK
  rw [List.mem_filter]
  simp
theorem putN_rising {l : Nm} (h : Rising l) (n : ByteArray × Nat) : Rising (putN l n) := nmIns_rising (h.off _) fun p hp => (mem_offK.1 hp).2
theorem mem_putN {l : Nm} {n p : ByteArray × Nat} : p ∈ putN l n ↔ p = n ∨ (p ∈ l ∧ p.1 ≠ n.1) := by
  unfold putN
  rw [mem_nmIns, mem_offK]
theorem doneC_rising {l : Nm} (h : Rising l) (c : Chg) : Rising (doneC c l) := by
  unfold doneC
  simp only
  have h1 : Rising (if c.frm.size = 0 then l else offK c.frm l) := by split; exact h; exact h.off _
  split
  · exact h1
  · exact putN_rising h1 _
theorem mem_doneC {l : Nm} {c : Chg} {p : ByteArray × Nat} (h : p ∈ doneC c l) : p ∈ l ∨ (c.to_.size ≠ 0 ∧ p = (c.to_, c.x)) := by
  unfold doneC at h
  simp only at h
  have h1 : ∀ {q}, q ∈ (if c.frm.size = 0 then l else offK c.frm l) → q ∈ l := fun {q} hq => by
    split at hq
    · exact hq
    · exact (mem_offK.1 hq).1
  split at h
  · exact .inl (h1 h)
  · rename_i h2
    rcases mem_putN.1 h with h | h
    · exact .inr ⟨h2, h⟩
    · exact .inl (h1 h.1)
theorem doneC_len (l : Nm) (c : Chg) : (doneC c l).length ≤ l.length + 1 := by
  unfold doneC
  simp only
  have h1 : (if c.frm.size = 0 then l else offK c.frm l).length ≤ l.length := by
    split
    · exact Nat.le_refl _
    · exact List.length_filter_le _ _
  split
  · omega
  · unfold putN
    rw [(nmIns_perm _ _).length_eq, List.length_cons]
    have := List.length_filter_le (fun p : ByteArray × Nat => !(p.1 == (c.to_, c.x).1)) (if c.frm.size = 0 then l else offK c.frm l)
    unfold offK at *
    omega
/-- a name's bytes and its file's place may be -/
def OkN (nf : Nat) (l : Nm) : Prop := ∀ p, p ∈ l → goodN p.1 = true ∧ p.2 < nf
def OkC (nf : Nat) (c : Chg) : Prop := c.frm.size ≤ 32 ∧ (c.to_.size ≠ 0 → goodN c.to_ = true ∧ c.x < nf)
theorem OkN.mono {a b : Nat} {l : Nm} (h : OkN a l) (hab : a ≤ b) : OkN b l := fun p hp => ⟨(h p hp).1, Nat.lt_of_lt_of_le (h p hp).2 hab⟩
theorem OkC.mono {a b : Nat} {c : Chg} (h : OkC a c) (hab : a ≤ b) : OkC b c := ⟨h.1, fun hc => ⟨(h.2 hc).1, Nat.lt_of_lt_of_le (h.2 hc).2 hab⟩⟩
theorem OkN.done {nf : Nat} {l : Nm} (h : OkN nf l) {c : Chg} (hc : OkC nf c) : OkN nf (doneC c l) := fun p hp => by
  rcases mem_doneC hp with h1 | ⟨h1, rfl⟩
  · exact h p h1
  · exact hc.2 h1
structure FsM.Ok (M : FsM) : Prop where
  rn : Rising M.names
  rl : Rising M.lasts
  on : OkN M.nf M.names
  ol : OkN M.nf M.lasts
  os : ∀ c, c ∈ M.since → OkC M.nf c
  fl : ∀ i, (M.files i).last ≤ (M.files i).b.length ∧ (M.files i).b.length ≤ 1048576
  ln : M.names.length ≤ M.ops
  ll : M.lasts.length + M.since.length ≤ M.ops
  lf : M.nf ≤ M.ops
  q : M.quota ≤ 1048576
  fu : -1 ≤ M.fuse ∧ M.fuse < 9223372036854775808
  fa : -1 ≤ M.fail ∧ M.fail < 9223372036854775808
theorem fsNew_ok {q : Nat} (h : q ≤ 1048576) : (FsM.new q).Ok :=
  ⟨List.Pairwise.nil, List.Pairwise.nil, fun p hp => (by cases hp), fun p hp => (by cases hp), fun c hc => (by cases hc), fun i => ⟨Nat.le_refl _, Nat.zero_le _⟩, Nat.le_refl _, Nat.le_refl _, Nat.le_refl _, h, ⟨Int.le_refl _, by show (-1 : Int) < _; decide⟩, ⟨Int.le_refl _, by show (-1 : Int) < _; decide⟩⟩
/-- what an Ask leaves as it is -/
structure Asked (M M' : FsM) : Prop where
  files : M'.files = M.files
  nf : M'.nf = M.nf
  names : M'.names = M.names
  lasts : M'.lasts = M.lasts
  since : M'.since = M.since
  quota : M'.quota = M.quota
  ops : M'.ops = M.ops + 1
theorem ask_asked (M : FsM) : Asked M M.ask.2 := by
  unfold FsM.ask
  split
  · exact ⟨rfl, rfl, rfl, rfl, rfl, rfl, rfl⟩
  · simp only
    split
    · split <;> exact ⟨rfl, rfl, rfl, rfl, rfl, rfl, rfl⟩
    · exact ⟨rfl, rfl, rfl, rfl, rfl, rfl, rfl⟩
theorem ask_ok {M : FsM} (h : M.Ok) : M.ask.2.Ok := by
  have a := ask_asked M
  have hf : (-1 ≤ M.ask.2.fuse ∧ M.ask.2.fuse < 9223372036854775808) ∧ (-1 ≤ M.ask.2.fail ∧ M.ask.2.fail < 9223372036854775808) := by
    have := h.fu
    have := h.fa
    unfold FsM.ask
    split
    · exact ⟨h.fu, h.fa⟩
    · simp only
      have h1 : -1 ≤ (if 0 < M.fuse then M.fuse - 1 else M.fuse) ∧ (if 0 < M.fuse then M.fuse - 1 else M.fuse) < 9223372036854775808 := by split <;> omega
      split
      · split
        · exact ⟨h1, ⟨Int.le_refl _, by show (-1 : Int) < _; decide⟩⟩
        · exact ⟨h1, by simp only; omega⟩
      · exact ⟨h1, h.fa⟩
  refine ⟨?_, ?_, ?_, ?_, ?_, ?_, ?_, ?_, ?_, ?_, hf.1, hf.2⟩
  · rw [a.names]; exact h.rn
  · rw [a.lasts]; exact h.rl
  · rw [a.names, a.nf]; exact h.on
  · rw [a.lasts, a.nf]; exact h.ol
  · rw [a.since, a.nf]; exact h.os
  · rw [a.files]; exact h.fl
  · rw [a.names, a.ops]; have := h.ln; omega
  · rw [a.lasts, a.since, a.ops]; have := h.ll; omega
  · rw [a.nf, a.ops]; have := h.lf; omega
  · rw [a.quota]; exact h.q
theorem fndN_mem {l : Nm} {n : ByteArray} {i : Nat} (h : fndN l n = some i) : (n, i) ∈ l := by
  unfold fndN at h
  rw [Option.map_eq_some_iff] at h
  obtain ⟨p, hp, rfl⟩ := h
  have h1 := List.find?_some hp
  have h2 := List.mem_of_find?_eq_some hp
  have e : p.1 = n := by simpa using h1
  rw [← e]
  exact h2
theorem fndN_none {l : Nm} {n : ByteArray} (h : fndN l n = none) : ∀ p, p ∈ l → p.1 ≠ n := by
  unfold fndN at h
  rw [Option.map_eq_none_iff, List.find?_eq_none] at h
  intro p hp e
  exact h p hp (by simp [e])
theorem doC_ok {M : FsM} (h : M.Ok) {c : Chg} (hc : OkC M.nf c) (hops : M.names.length + 1 ≤ M.ops) (hl : M.lasts.length + M.since.length + 1 ≤ M.ops) : (M.doC c).Ok := by
  refine ⟨doneC_rising h.rn c, h.rl, h.on.done hc, h.ol, fun d hd => ?_, h.fl, ?_, ?_, h.lf, h.q, h.fu, h.fa⟩
  · rcases List.mem_append.1 hd with hd | hd
    · exact h.os d hd
    · rw [List.mem_singleton.1 hd]; exact hc
  · have := doneC_len M.names c
    show (doneC c M.names).length ≤ M.ops
    omega
  · show M.lasts.length + (M.since ++ [c]).length ≤ M.ops
    rw [List.length_append]
    simp
    omega
theorem ask_room {M : FsM} (h : M.Ok) : M.ask.2.names.length + 1 ≤ M.ask.2.ops ∧ M.ask.2.lasts.length + M.ask.2.since.length + 1 ≤ M.ask.2.ops ∧ M.ask.2.nf + 1 ≤ M.ask.2.ops := by
  have a := ask_asked M
  rw [a.names, a.lasts, a.since, a.ops, a.nf]
  have := h.ln
  have := h.ll
  have := h.lf
  omega
theorem good_size {n : ByteArray} (h : goodN n = true) : 0 < n.size ∧ n.size ≤ 32 := by
  unfold goodN at h
  simpa using h
theorem create_ok {M : FsM} (h : M.Ok) (n : ByteArray) : (M.create n).2.Ok := by
  unfold FsM.create
  have ha := ask_ok h
  have hr := ask_room h
  have a := ask_asked M
  split
  · exact ha
  · split
    · exact ha
    · split
      · exact ha
      · rename_i h1 h2 h3
        have hg : goodN n = true := by cases hq : goodN n with | false => exact absurd hq h2 | true => rfl
        have hnf : M.ask.2.nf = M.nf := a.nf
        have hk : FsM.Ok { M.ask.2 with files := updF M.files M.nf ⟨[], 0⟩, nf := M.nf + 1 } :=
          ⟨ha.rn, ha.rl, ha.on.mono (by simp only [hnf]; omega), ha.ol.mono (by simp only [hnf]; omega), fun c hc => (ha.os c hc).mono (by simp only [hnf]; omega), fun i => by
            by_cases e : i = M.nf
            · simp only [e, updF_same]; exact ⟨Nat.le_refl _, Nat.zero_le _⟩
            · simp only [updF_other _ _ e]; exact h.fl i, ha.ln, ha.ll, by have := hr.2.2; simp only [hnf] at this ⊢; exact this, ha.q, ha.fu, ha.fa⟩
        exact doC_ok hk ⟨Nat.zero_le _, fun _ => ⟨hg, Nat.lt_succ_self _⟩⟩ hr.1 hr.2.1
theorem files_ok {M : FsM} (h : M.Ok) (i : Nat) (x : Fl) (hx : x.last ≤ x.b.length ∧ x.b.length ≤ 1048576) : FsM.Ok { M with files := updF M.files i x } :=
  ⟨h.rn, h.rl, h.on, h.ol, h.os, fun j => by
    by_cases e : j = i
    · simp only [e, updF_same]; exact hx
    · simp only [updF_other _ _ e]; exact h.fl j, h.ln, h.ll, h.lf, h.q, h.fu, h.fa⟩
theorem le_sum {α : Type} (f : α → Nat) {l : List α} {p : α} (h : p ∈ l) : f p ≤ (l.map f).sum := by
  induction l with
  | nil => cases h
  | cons q l ih =>
    rw [List.map_cons, List.sum_cons]
    rcases List.mem_cons.1 h with rfl | h
    · omega
    · have := ih h; omega
theorem total_ge {M : FsM} {n : ByteArray} {i : Nat} (h : fndN M.names n = some i) : (M.files i).b.length ≤ M.total :=
  le_sum (fun p : ByteArray × Nat => (M.files p.2).b.length) (fndN_mem h)
theorem append_ok {M : FsM} (h : M.Ok) (n : ByteArray) (b : List UInt8) : (M.append n b).2.Ok := by
  unfold FsM.append
  have ha := ask_ok h
  have a := ask_asked M
  split
  · exact ha
  · cases hf : fndN M.ask.2.names n with
    | none => exact ha
    | some i =>
      simp only
      split
      · exact ha
      · rename_i hq
        have h1 := total_ge hf
        have h2 := h.q
        have h3 := (h.fl i).1
        rw [a.files] at h1
        have := files_ok ha i ⟨(M.files i).b ++ b, (M.files i).last⟩ ⟨by simp only [List.length_append]; omega, by simp only [List.length_append]; omega⟩
        rw [a.files] at this
        exact this
theorem sync_ok {M : FsM} (h : M.Ok) (n : ByteArray) : (M.sync n).2.Ok := by
  unfold FsM.sync
  have ha := ask_ok h
  have a := ask_asked M
  split
  · exact ha
  · cases hf : fndN M.ask.2.names n with
    | none => exact ha
    | some i =>
      have := files_ok ha i ⟨(M.files i).b, (M.files i).b.length⟩ ⟨Nat.le_refl _, (h.fl i).2⟩
      rw [a.files] at this
      exact this
theorem rename_ok {M : FsM} (h : M.Ok) (n m : ByteArray) : (M.rename n m).2.Ok := by
  unfold FsM.rename
  have ha := ask_ok h
  have hr := ask_room h
  split
  · exact ha
  · cases hf : fndN M.ask.2.names n with
    | none => exact ha
    | some i =>
      simp only
      split
      · exact ha
      · rename_i h2
        have hm := ha.on _ (fndN_mem hf)
        have hg : goodN m = true := by cases hq : goodN m with | false => exact absurd hq h2 | true => rfl
        exact doC_ok ha ⟨(good_size hm.1).2, fun _ => ⟨hg, hm.2⟩⟩ hr.1 hr.2.1
theorem remove_ok {M : FsM} (h : M.Ok) (n : ByteArray) : (M.remove n).2.Ok := by
  unfold FsM.remove
  have ha := ask_ok h
  have hr := ask_room h
  split
  · exact ha
  · cases hf : fndN M.ask.2.names n with
    | none => exact ha
    | some i =>
      have hm := ha.on _ (fndN_mem hf)
      exact doC_ok ha ⟨(good_size hm.1).2, fun hc => absurd rfl hc⟩ hr.1 hr.2.1
theorem syncDir_ok {M : FsM} (h : M.Ok) : M.syncDir.2.Ok := by
  unfold FsM.syncDir
  have ha := ask_ok h
  have a := ask_asked M
  split
  · exact ha
  · exact ⟨ha.rn, h.rn, ha.on, by have := h.on; rw [← a.nf] at this; exact this, fun c hc => (by cases hc), ha.fl, ha.ln, by have := h.ln; have := a.ops; simp only [List.length_nil]; omega, ha.lf, ha.q, ha.fu, ha.fa⟩
theorem setFuse_ok {M : FsM} (h : M.Ok) (n : Int) (hn : n < 9223372036854775808) : (M.setFuse n).Ok :=
  ⟨h.rn, h.rl, h.on, h.ol, h.os, h.fl, h.ln, h.ll, h.lf, h.q, by unfold FsM.setFuse; simp only; split <;> omega, h.fa⟩
theorem setFail_ok {M : FsM} (h : M.Ok) (n : Int) (hn : n < 9223372036854775808) : (M.setFail n).Ok :=
  ⟨h.rn, h.rl, h.on, h.ol, h.os, h.fl, h.ln, h.ll, h.lf, h.q, h.fu, by unfold FsM.setFail; simp only; split <;> omega⟩
theorem damage_ok {M : FsM} (h : M.Ok) (n : ByteArray) (i : Int) (t : UInt8) : (M.damage n i t).2.Ok := by
  unfold FsM.damage
  cases hf : fndN M.names n with
  | none => exact h
  | some k =>
    simp only
    split
    · exact h
    · exact files_ok h k _ ⟨by rw [List.length_set]; exact (h.fl k).1, by rw [List.length_set]; exact (h.fl k).2⟩
theorem pickN_le (l : List Int) (i most : Nat) : pickN l i most ≤ most := by
  unfold pickN
  exact Nat.le_of_lt_succ (Nat.mod_lt _ (Nat.succ_pos _))
theorem cutF_ok (picks : List Int) : ∀ (l : Nm) (i : Nat) (f : Nat → Fl), (∀ j, (f j).last ≤ (f j).b.length ∧ (f j).b.length ≤ 1048576) → ∀ j, (cutF picks l i f j).last ≤ (cutF picks l i f j).b.length ∧ (cutF picks l i f j).b.length ≤ 1048576
  | [], _, _, h => h
  | p :: l, i, f, h => by
    unfold cutF
    refine cutF_ok picks l (i + 1) _ fun j => ?_
    by_cases e : j = p.2
    · subst e
      rw [updF_same]
      have h1 := h p.2
      have h2 := pickN_le picks (i + 1) ((f p.2).b.length - (f p.2).last)
      refine ⟨?_, ?_⟩
      · simp only [List.length_take]; omega
      · simp only [List.length_take]; omega
    · rw [updF_other _ _ e]; exact h j
theorem applyC_rising {l : Nm} (cs : List Chg) (h : Rising l) : Rising (applyC l cs) := by
  induction cs generalizing l with
  | nil => exact h
  | cons c cs ih => exact ih (doneC_rising h c)
theorem applyC_ok {nf : Nat} {l : Nm} {cs : List Chg} (h : OkN nf l) (hc : ∀ c, c ∈ cs → OkC nf c) : OkN nf (applyC l cs) := by
  induction cs generalizing l with
  | nil => exact h
  | cons c cs ih => exact ih (h.done (hc c List.mem_cons_self)) (fun d hd => hc d (List.mem_cons_of_mem _ hd))
theorem applyC_len (cs : List Chg) (l : Nm) : (applyC l cs).length ≤ l.length + cs.length := by
  induction cs generalizing l with
  | nil => exact Nat.le_refl _
  | cons c cs ih =>
    have h1 := ih (doneC c l)
    have h2 := doneC_len l c
    rw [List.length_cons]
    show (applyC (doneC c l) cs).length ≤ _
    omega
theorem crash_ok {M : FsM} (h : M.Ok) (picks : List Int) : (M.crash picks).Ok := by
  have hr := applyC_rising (M.since.take (pickN picks 0 M.since.length)) h.rl
  have ho : OkN M.nf (applyC M.lasts (M.since.take (pickN picks 0 M.since.length))) := applyC_ok h.ol (fun c hc => h.os c (List.mem_of_mem_take hc))
  have hlen := applyC_len (M.since.take (pickN picks 0 M.since.length)) M.lasts
  have ht : (M.since.take (pickN picks 0 M.since.length)).length ≤ M.since.length := by rw [List.length_take]; omega
  have := h.ll
  exact ⟨hr, hr, ho, ho, fun c hc => (by cases hc), cutF_ok picks _ 0 _ h.fl, by show (applyC _ _).length ≤ M.ops; omega, by show (applyC _ _).length + 0 ≤ M.ops; omega, h.lf, h.q, ⟨Int.le_refl _, by show (-1 : Int) < _; decide⟩, ⟨Int.le_refl _, by show (-1 : Int) < _; decide⟩⟩
end Go.St
