/- An operation that alone does steps is done in time: the plain part. -/
import Derived.Test.YtoonhcmeklmnlaaSkP
set_option linter.unusedSimpArgs false
set_option linter.unusedVariables false
set_option linter.unnecessarySimpa false
namespace Go.St

def runK (K : SK) (i : Nat) : Nat → SK
  | 0 => K
  | m + 1 => stepK (runK K i m) i
theorem runK_inv {K : SK} (h : Inv K) {i : Nat} (hi : i < K.n) : ∀ m, Inv (runK K i m) ∧ (runK K i m).n = K.n ∧ (runK K i m).key = K.key ∧ (runK K i m).ht = K.ht ∧ (runK K i m).room = K.room
  | 0 => ⟨h, rfl, rfl, rfl, rfl⟩
  | m + 1 => by
    obtain ⟨h1, h2, h3, h4, h5⟩ := runK_inv h hi m
    obtain ⟨k2, k3, k4, k5⟩ := stepK_n (runK K i m) i
    exact ⟨h1.step (by rw [h2]; exact hi), k2.trans h2, k3.trans h3, k4.trans h4, k5.trans h5⟩

theorem stepK_lv (K : SK) (i : Nat) : (∀ j, j ≠ i → (stepK K i).lv j = K.lv j) ∧ ((stepK K i).lv i = K.lv i ∨ (K.lv i ≠ K.ht i ∧ (stepK K i).lv i = K.lv i + 1)) := by
  unfold stepK
  split
  · exact ⟨fun _ _ => rfl, .inl rfl⟩
  · rename_i hne
    split
    · dsimp only
      split
      · exact ⟨fun _ _ => rfl, .inl rfl⟩
      · split <;> exact ⟨fun _ _ => rfl, .inl rfl⟩
    · split
      · exact ⟨fun _ _ => rfl, .inl rfl⟩
      · split
        · exact ⟨fun j hj => upd_other _ _ _ hj, .inr ⟨hne, upd_same _ _ _⟩⟩
        · exact ⟨fun _ _ => rfl, .inl rfl⟩
theorem stepK_done {K : SK} {i : Nat} (h : K.lv i = K.ht i) : stepK K i = K := by unfold stepK; rw [if_pos h]

/-- the links of a level rise -/
theorem chain_rises {key : Nat → ByteArray} {f : Option Nat → Nat → Option Nat} {l a j : Nat} : ∀ {r : Option Nat} {js : List Nat}, Chain f l r js → Rises key js → a ∈ js → f (some a) l = some j → kl (key a) (key j) = true
  | r, [], _, _, ha, _ => by cases ha
  | r, b :: js, hc, hr, ha, hj => by
    rcases List.mem_cons.1 ha with rfl | ha
    · cases js with
      | nil => have := hc.2; rw [show Chain f l (some a) [] = (f (some a) l = none) from rfl] at this; rw [this] at hj; cases hj
      | cons c js =>
        have := hc.2.1
        rw [this] at hj; cases hj
        exact (List.pairwise_cons.1 hr).1 j (List.mem_cons_self ..)
    · exact chain_rises hc.2 (List.pairwise_cons.1 hr).2 ha hj

theorem Inv.rise {K : SK} (h : Inv K) {l a j : Nat} (hl : l < 8) (ha : a < K.n) (hla : l < K.lv a) (hj : K.nxt (some a) l = some j) : kl (K.key a) (K.key j) = true := by
  obtain ⟨js, hc, hr, hm⟩ := h.ch l hl
  exact chain_rises hc hr ((hm a).2 ⟨ha, hla⟩) hj

/-- those that stand between where an operation looks and its own key -/
def ahead (K : SK) (i : Nat) (r : Option Nat) : List Nat := (List.range K.n).filter fun j => kl (K.key j) (K.key i) && (match r with | some a => kl (K.key a) (K.key j) | none => true)
theorem ahead_le (K : SK) (i : Nat) (r : Option Nat) : (ahead K i r).length ≤ K.n := by
  have := List.length_filter_le (fun j => kl (K.key j) (K.key i) && (match r with | some a => kl (K.key a) (K.key j) | none => true)) (List.range K.n)
  simpa [ahead] using this

theorem filter_lt {α : Type} {p q : α → Bool} : ∀ {l : List α}, (∀ x, x ∈ l → p x = true → q x = true) → (∃ x, x ∈ l ∧ q x = true ∧ p x = false) → (l.filter p).length < (l.filter q).length
  | [], _, ⟨x, hx, _⟩ => by cases hx
  | a :: l, hs, ⟨x, hx, hq, hp⟩ => by
    have hle : (l.filter p).length ≤ (l.filter q).length := by
      have : ∀ m : List α, (∀ x, x ∈ m → p x = true → q x = true) → (m.filter p).length ≤ (m.filter q).length := by
        intro m
        induction m with
        | nil => intro _; exact Nat.le_refl _
        | cons b m ih =>
          intro hb
          have := ih fun x hx => hb x (List.mem_cons_of_mem _ hx)
          rw [List.filter_cons, List.filter_cons]
          cases hpb : p b with
          | false => cases q b <;> simp <;> omega
          | true => rw [hb b (List.mem_cons_self ..) hpb]; simpa using this
      exact this l fun x hx => hs x (List.mem_cons_of_mem _ hx)
    rw [List.filter_cons, List.filter_cons]
    rcases List.mem_cons.1 hx with rfl | hx
    · rw [hq, hp]; simp; omega
    · have ih := filter_lt (l := l) (fun x hx => hs x (List.mem_cons_of_mem _ hx)) ⟨x, hx, hq, hp⟩
      cases hpa : p a with
      | false => cases q a <;> simp <;> omega
      | true => rw [hs a (List.mem_cons_self ..) hpa]; simpa using ih

theorem ahead_lt {K : SK} {i j : Nat} {r : Option Nat} (hj : j < K.n) (hji : kl (K.key j) (K.key i) = true) (hr : ∀ a, r = some a → kl (K.key a) (K.key j) = true) : (ahead K i (some j)).length < (ahead K i r).length := by
  refine filter_lt (fun x _ hx => ?_) ⟨j, List.mem_range.2 hj, ?_, ?_⟩
  · simp only [Bool.and_eq_true] at hx ⊢
    refine ⟨hx.1, ?_⟩
    cases r with
    | none => rfl
    | some a => exact kl_trans (hr a rfl) hx.2
  · simp only [Bool.and_eq_true]
    refine ⟨hji, ?_⟩
    cases r with
    | none => rfl
    | some a => exact hr a rfl
  · simp [kl_irrefl]

/-- so many steps are left at most -/
def left (K : SK) (i : Nat) : Nat :=
  if K.lv i = K.ht i then 0
  else if K.ph i = 0 then (ahead K i (K.at_ i)).length + (K.dn i - K.lv i) + 3 + (K.ht i - K.lv i - 1) * (K.n + 10)
  else (if K.ph i = 1 then 2 else 1) + (if K.nxt (K.at_ i) (K.lv i) = K.nx i then (K.ht i - K.lv i - 1) * (K.n + 10) else (K.ht i - K.lv i) * (K.n + 10))

theorem left_le {K : SK} (h : Inv K) {i : Nat} (hi : i < K.n) : left K i ≤ K.ht i * (K.n + 10) + 2 := by
  have h1 := ahead_le K i (K.at_ i)
  have hlv := h.lv i hi
  unfold left
  split
  · omega
  · rename_i hne
    have hdn := h.dn i hi (by omega)
    have e : (K.ht i - K.lv i - 1) * (K.n + 10) + (K.n + 10) ≤ K.ht i * (K.n + 10) := by
      have : (K.ht i - K.lv i - 1) * (K.n + 10) + (K.n + 10) = (K.ht i - K.lv i - 1 + 1) * (K.n + 10) := by rw [Nat.add_mul, Nat.one_mul]
      rw [this]
      exact Nat.mul_le_mul_right _ (by omega)
    have e2 : (K.ht i - K.lv i) * (K.n + 10) ≤ K.ht i * (K.n + 10) := Nat.mul_le_mul_right _ (by omega)
    split
    · omega
    · split <;> split <;> omega

theorem left_step {K : SK} (h : Inv K) {i : Nat} (hi : i < K.n) (hne : K.lv i ≠ K.ht i) : left (stepK K i) i < left K i := by
  have hlv := h.lv i hi
  have hdn := h.dn i hi (by omega)
  have hph := h.ph i hi
  have hht := h.ht i hi
  have hsplit : (K.ht i - K.lv i - 1) * (K.n + 10) + (K.n + 10) = (K.ht i - K.lv i) * (K.n + 10) := by
    have : (K.ht i - K.lv i - 1) * (K.n + 10) + (K.n + 10) = (K.ht i - K.lv i - 1 + 1) * (K.n + 10) := by rw [Nat.add_mul, Nat.one_mul]
    rw [this, show K.ht i - K.lv i - 1 + 1 = K.ht i - K.lv i by omega]
  obtain hp | hp | hp : K.ph i = 0 ∨ K.ph i = 1 ∨ K.ph i = 2 := by omega
  · have e0 : left K i = (ahead K i (K.at_ i)).length + (K.dn i - K.lv i) + 3 + (K.ht i - K.lv i - 1) * (K.n + 10) := by unfold left; rw [if_neg hne, if_pos hp]
    rw [e0]
    have est : stepK K i = (let x := K.nxt (K.at_ i) (K.dn i)
      if K.sees i = true then { K with nx := upd K.nx i x, at_ := upd K.at_ i x }
      else if K.lv i < K.dn i then { K with nx := upd K.nx i x, dn := upd K.dn i (K.dn i - 1) }
      else { K with nx := upd K.nx i x, ph := upd K.ph i 1 }) := by
      unfold stepK
      rw [if_neg hne, if_pos hp]
    rw [est]
    dsimp only
    cases hse : K.sees i with
    | true =>
      rw [if_pos rfl]
      unfold SK.sees at hse
      cases hx : K.nxt (K.at_ i) (K.dn i) with
      | none => rw [hx] at hse; cases hse
      | some j =>
        rw [hx] at hse
        obtain ⟨hj, _⟩ := h.link (by omega) (h.place hi) hx
        have hlt := ahead_lt (K := K) (i := i) (j := j) (r := K.at_ i) hj hse fun a ha => by
          rw [ha] at hx
          obtain ⟨ha1, ha2⟩ := h.place hi a ha
          exact h.rise (by omega) ha1 ha2 hx
        unfold left
        dsimp only
        rw [if_neg hne, if_pos hp, upd_same]
        show (ahead K i (some j)).length + _ + 3 + _ < _
        omega
    | false =>
      rw [if_neg (by simp)]
      split
      · rename_i hd
        unfold left
        dsimp only
        rw [if_neg hne, if_pos hp, upd_same]
        show (ahead K i (K.at_ i)).length + _ + 3 + _ < _
        omega
      · rename_i hd
        unfold left
        simp only [upd_same]
        rw [if_neg hne, if_neg (by omega), if_pos trivial, if_pos (by rw [show K.lv i = K.dn i by omega])]
        omega
  · have est : stepK K i = { K with nxt := upd K.nxt (some i) (upd (K.nxt (some i)) (K.lv i) (K.nx i)), ph := upd K.ph i 2 } := by
      unfold stepK
      rw [if_neg hne, if_neg (by omega), if_pos hp]
    have hat : K.at_ i ≠ some i := fun e => by
      have := (h.at_ i hi i e).2.1
      rw [kl_irrefl] at this; cases this
    rw [est]
    unfold left
    simp [upd_same, upd_other _ _ _ hat, hne, hp]
  · have hfresh : ∀ r, (ahead K i r).length ≤ K.n := ahead_le K i
    by_cases heq : K.nxt (K.at_ i) (K.lv i) = K.nx i
    · have est : stepK K i = { K with nxt := upd K.nxt (K.at_ i) (upd (K.nxt (K.at_ i)) (K.lv i) (some i)), lv := upd K.lv i (K.lv i + 1), at_ := upd K.at_ i none, dn := upd K.dn i 7, ph := upd K.ph i 0 } := by
        unfold stepK
        rw [if_neg hne, if_neg (by omega), if_neg (by omega), if_pos heq]
      have e0 : left K i = 1 + (K.ht i - K.lv i - 1) * (K.n + 10) := by unfold left; rw [if_neg hne, if_neg (by omega), if_neg (by omega), if_pos heq]
      rw [e0, est]
      unfold left
      simp only [upd_same]
      split
      · omega
      · rename_i hn2
        rw [if_pos trivial]
        show (ahead K i none).length + _ + 3 + _ < _
        have := hfresh none
        have e3 : (K.ht i - (K.lv i + 1) - 1) * (K.n + 10) + (K.n + 10) = (K.ht i - K.lv i - 1) * (K.n + 10) := by
          have : (K.ht i - (K.lv i + 1) - 1) * (K.n + 10) + (K.n + 10) = (K.ht i - (K.lv i + 1) - 1 + 1) * (K.n + 10) := by rw [Nat.add_mul, Nat.one_mul]
          rw [this, show K.ht i - (K.lv i + 1) - 1 + 1 = K.ht i - K.lv i - 1 by omega]
        omega
    · have est : stepK K i = { K with at_ := upd K.at_ i none, dn := upd K.dn i 7, ph := upd K.ph i 0 } := by
        unfold stepK
        rw [if_neg hne, if_neg (by omega), if_neg (by omega), if_neg heq]
      have e0 : left K i = 1 + (K.ht i - K.lv i) * (K.n + 10) := by unfold left; rw [if_neg hne, if_neg (by omega), if_neg (by omega), if_neg heq]
      rw [e0, est]
      unfold left
      simp only [upd_same]
      rw [if_neg hne, if_pos trivial]
      show (ahead K i none).length + _ + 3 + _ < _
      have := hfresh none
      omega

/-- the first number of steps behind which it is done: there is one, and in time -/
theorem first_done {K : SK} (h : Inv K) {i : Nat} (hi : i < K.n) : ∃ d, d ≤ K.ht i * (K.n + 10) + 2 ∧ (runK K i (d + 1)).lv i = K.ht i ∧ ∀ m, m < d → (runK K i (m + 1)).lv i ≠ K.ht i := by
  have key : ∀ b m, left (runK K i (m + 1)) i ≤ b → (∀ m', m' < m → (runK K i (m' + 1)).lv i ≠ K.ht i) → ∃ d, d ≤ m + b ∧ (runK K i (d + 1)).lv i = K.ht i ∧ ∀ m', m' < d → (runK K i (m' + 1)).lv i ≠ K.ht i := by
    intro b
    induction b with
    | zero =>
      intro m hb hno
      refine ⟨m, by omega, ?_, hno⟩
      obtain ⟨h1, h2, h3, h4, h5⟩ := runK_inv h hi (m + 1)
      by_cases he : (runK K i (m + 1)).lv i = K.ht i
      · exact he
      · have := left_step h1 (by rw [h2]; exact hi) (by rw [h4]; exact he)
        omega
    | succ b ih =>
      intro m hb hno
      by_cases he : (runK K i (m + 1)).lv i = K.ht i
      · exact ⟨m, by omega, he, hno⟩
      · obtain ⟨h1, h2, h3, h4, h5⟩ := runK_inv h hi (m + 1)
        have := left_step h1 (by rw [h2]; exact hi) (by rw [h4]; exact he)
        obtain ⟨d, hd, h6, h7⟩ := ih (m + 1) (show left (runK K i (m + 2)) i ≤ b from by show left (stepK (runK K i (m + 1)) i) i ≤ b; omega) (fun m' hm' => by
          by_cases e : m' = m
          · rw [e]; exact he
          · exact hno m' (by omega))
        exact ⟨d, by omega, h6, h7⟩
  have hl : left (runK K i 1) i ≤ K.ht i * (K.n + 10) + 2 := by
    obtain ⟨h1, h2, h3, h4, h5⟩ := runK_inv h hi 1
    have := left_le h1 (by rw [h2]; exact hi)
    rw [h2, h4] at this
    exact this
  obtain ⟨d, hd, h1, h2⟩ := key _ 0 hl (fun m' hm' => absurd hm' (Nat.not_lt_zero _))
  exact ⟨d, by omega, h1, h2⟩
end Go.St
