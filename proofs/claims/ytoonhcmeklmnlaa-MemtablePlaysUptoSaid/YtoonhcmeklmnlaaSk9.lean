/- The walks of package skip: what is sought. -/
import Derived.Test.YtoonhcmeklmnlaaSk8
set_option linter.unusedSimpArgs false
set_option linter.unusedVariables false
set_option linter.unnecessarySimpa false
namespace Go.Proofs.Ytoonhcmeklmnlaa
open Go.RowKit Go.Rg Go.St

def TextPost (s : ByteArray) (b : Bool) (w : World) (e : Ending) (w' : World) : Prop := e = .returned (.tuple #[.string s, .bool b]) ∧ w = w'
def TextExt (s : ByteArray) (b : Bool) (w : World) (e : Ending) (w' : World) : Prop := e = .returned (.tuple #[.string s, .bool b]) ∧ Ext w w'

theorem told_none (lb : Nat) (w : World) : Calls Try.prog 60 #[.pointer (some ⟨lb, 0, none⟩), .pointer none] w (TextPost ByteArray.empty false w) := by
  go_enter Try.func60, Try.ntmps60
  go_wp2
  go_ret2
  exact ⟨rfl, rfl⟩
theorem told_head (lb : Nat) (w : World) : Calls Try.prog 60 #[.pointer (some ⟨lb, 0, none⟩), .pointer (some ⟨lb, 0, none⟩)] w (TextPost ByteArray.empty false w) := by
  obtain ⟨ji, hte, hsz⟩ := node_info
  have he := run_eql_ptr_same (P := Try.prog) w ⟨lb, 0, none⟩ Try.underlying102 hte
  have hn := eql_nil_right w ⟨lb, 0, none⟩
  go_enter Try.func60, Try.ntmps60
  go_wp2
  go_ret2
  exact ⟨rfl, rfl⟩
theorem told_node {w : World} {L : Loc} {K : SK} (h : Rep w L K) {a : Nat} (ha : a < K.n) : Calls Try.prog 60 #[.pointer (some ⟨L.lb, 0, none⟩), .pointer (some ⟨L.nb a, 0, none⟩)] w (TextPost (K.key a) true w) := by
  obtain ⟨ji, hte, hsz⟩ := node_info
  have he := run_eql_ptr_other (P := Try.prog) (a := ⟨L.nb a, 0, none⟩) (b := ⟨L.lb, 0, none⟩) w Try.underlying102 hte hsz (fun e => cells_ne (h.nd a ha) h.hd (by decide) (congrArg Addr.block e)) (h.nd a ha) h.hd
  have c := h.key_at ha
  have hn := eql_nil_right w ⟨L.nb a, 0, none⟩
  clear h
  go_enter Try.func60, Try.ntmps60
  go_wp2
  go_ret2
  exact ⟨rfl, rfl⟩

/-- a place's block, back to the place -/
def dec (L : Loc) (n : Nat) (b : Nat) : Option Nat := (List.range n).find? fun j => L.nb j == b
theorem dec_ref {w : World} {L : Loc} {K : SK} (h : Rep w L K) {r : Option Nat} (hr : ∀ a, r = some a → a < K.n) : dec L K.n (refB L r) = r := by
  unfold dec
  cases r with
  | none =>
    rw [List.find?_eq_none]
    intro j hj e
    rw [List.mem_range] at hj
    exact cells_ne (h.nd j hj) h.hd (by decide) (by simpa [refB] using e)
  | some a =>
    have ha := hr a rfl
    cases hf : (List.range K.n).find? (fun j => L.nb j == refB L (some a)) with
    | none =>
      rw [List.find?_eq_none] at hf
      exact absurd (by simp [refB]) (hf a (List.mem_range.2 ha))
    | some j =>
      have h1 := List.find?_some hf
      have h2 := List.mem_range.1 (List.mem_of_find?_eq_some hf)
      rw [h.im j a h2 ha (by simpa [refB] using h1)]
def ptB : Value → Nat
  | .pointer (some a) => a.block
  | _ => 0
/-- those behind a place -/
def behind (K : SK) (r : Option Nat) : List Nat := (List.range K.n).filter fun j => match r with | some a => kl (K.key a) (K.key j) | none => true
theorem behind_lt {K : SK} {j : Nat} {r : Option Nat} (hj : j < K.n) (hr : ∀ a, r = some a → kl (K.key a) (K.key j) = true) : (behind K (some j)).length < (behind K r).length := by
  refine Go.St.filter_lt (fun x _ hx => ?_) ⟨j, List.mem_range.2 hj, ?_, ?_⟩
  · cases r with
    | none => rfl
    | some a => exact kl_trans (hr a rfl) hx
  · cases r with
    | none => rfl
    | some a => exact hr a rfl
  · exact kl_irrefl _

def BefPost (L : Loc) (K : SK) (p : ByteArray → Bool) (w : World) (e : Ending) (w' : World) : Prop :=
  ∃ r, e = .returned (.pointer (some ⟨refB L r, 0, none⟩)) ∧ (∀ a, r = some a → a < K.n ∧ 0 < K.lv a ∧ p (K.key a) = true) ∧ (∀ j, K.nxt r 0 = some j → p (K.key j) = false) ∧ w = w'

/-- what holds at a place of a level -/
structure At (K : SK) (p : ByteArray → Bool) (l : Nat) (r : Option Nat) : Prop where
  ok : ∀ a, r = some a → a < K.n ∧ l < K.lv a ∧ p (K.key a) = true

set_option maxHeartbeats 1000000 in
theorem before_rep {w : World} {L : Loc} {K : SK} (h : Rep w L K) (hI : Inv K) (p : ByteArray → Bool) (f : FuncId) (cap : List Value) (hf : f = 62 ∨ f = 63 ∨ f = 64)
    (hcall : ∀ k, Calls Try.prog f (.string k :: cap).toArray w (BoolPost (p k) w)) :
    Calls Try.prog 61 #[.pointer (some ⟨L.lb, 0, none⟩), .func (.func f) #[] cap.toArray] w (BefPost L K p w) := by
  have hst : ∀ r, (∀ a, r = some a → a < K.n) → ∀ l, l < 8 → w.cell? ⟨refB L r, 1 + l, none⟩ = some (.pointer (adr L (K.nxt r l))) := fun r hr l hl => by
    obtain ⟨cs, T, h1, _, h3⟩ := h.ref hr
    rw [cell_of_row _ _ _ _ _ _ h1]; exact h3 l hl
  have HH := hid h
  have HI := hid hI
  have HST := hid hst
  have HC := hid hcall
  clear h hI hst hcall
  go_enter Try.func61, Try.ntmps61
  go_wp2
  go_loopw [5, 6] (fun q t wr => ∃ (r : Option Nat) (l : Nat), l ≤ 8 ∧ t = .int .i64 ((l : Int) - 1) ∧ q = .pointer (some ⟨refB L r, 0, none⟩) ∧ At K p (l - 1) r ∧ (l = 0 → ∀ j, K.nxt r 0 = some j → p (K.key j) = false) ∧ Hid (w = wr)) (fun _ t _ => (intOf t + 1).toNat)
  case atStart => exact ⟨none, 8, Nat.le_refl _, rfl, rfl, ⟨fun a ha => (by cases ha)⟩, fun h => absurd h (by decide), hid (by trivial)⟩
  case round =>
    obtain ⟨r, l, hl8, rfl, rfl, hat, hz, hw⟩ := hrel
    cases hw.out
    by_cases hl0 : l = 0
    · subst hl0
      go_wp2
      go_ret
      exact ⟨r, rfl, hat.ok, hz trivial, rfl⟩
    · obtain ⟨m, rfl⟩ : ∃ m, l = m + 1 := ⟨l - 1, by omega⟩
      rw [show ((m + 1 : Nat) : Int) - 1 = (m : Int) by omega]
      rw [show m + 1 - 1 = m by omega] at hat
      clear hz hl0
      go_wp2
      go_loopw [5] (fun q wr => ∃ (r : Option Nat), q = .pointer (some ⟨refB L r, 0, none⟩) ∧ At K p m r ∧ Hid (w = wr)) (fun q _ => (behind K (dec L K.n (ptB q))).length)
      case atStart => exact ⟨r, rfl, hat, hid (by trivial)⟩
      case round =>
        clear hat
        obtain ⟨r, rfl, hat, hw⟩ := hrel
        cases hw.out
        have c1 := HST.out r (fun a ha => (hat.ok a ha).1) m (by omega)
        have HA := hid hat
        clear hat
        cases hx : K.nxt r m with
        | none =>
          rw [hx, show adr L none = none from rfl] at c1
          have HX := hid hx
          clear hx
          go_wp2
          go_roundw
          case rel =>
            refine ⟨r, m, by omega, rfl, rfl, ⟨fun a ha => ?_⟩, fun h0 j hj => ?_, hid (by trivial)⟩
            · have := HA.out.ok a ha; exact ⟨this.1, by omega, this.2.2⟩
            · subst h0; rw [HX.out] at hj; cases hj
          case measure => simp [intOf]
        | some j =>
          rw [hx, show adr L (some j) = some ⟨L.nb j, 0, none⟩ from rfl] at c1
          have hj := (HI.out.link (by omega) (fun i hi => ⟨(HA.out.ok i hi).1, (HA.out.ok i hi).2.1⟩) hx)
          have c2 := HH.out.key_at hj.1
          have hn := eql_nil_right w ⟨L.nb j, 0, none⟩
          have HX := hid hx
          have HJ := hid hj
          clear hx hj
          rcases hf with rfl | rfl | rfl
          all_goals
            cases hp : p (K.key j) with
            | true =>
              have HP := hid hp
              clear hp
              go_wp2_with fail
              refine (HC.out _).mono ?_
              rintro e w2 ⟨rfl, rfl⟩
              rw [HP.out]
              go_wp2
              go_roundw
              case rel => exact ⟨some j, rfl, ⟨fun a ha => (by cases ha; exact ⟨HJ.out.1, HJ.out.2, HP.out⟩)⟩, hid (by trivial)⟩
              case measure =>
                show (behind K (dec L K.n (refB L (some j)))).length < (behind K (dec L K.n (refB L r))).length
                rw [dec_ref HH.out (fun a ha => by cases ha; exact HJ.out.1), dec_ref HH.out (fun a ha => (HA.out.ok a ha).1)]
                refine behind_lt HJ.out.1 fun a ha => ?_
                have hx := HX.out
                rw [ha] at hx
                exact HI.out.rise (by omega) (HA.out.ok a ha).1 (HA.out.ok a ha).2.1 hx
            | false =>
              have HP := hid hp
              clear hp
              go_wp2_with fail
              refine (HC.out _).mono ?_
              rintro e w2 ⟨rfl, rfl⟩
              rw [HP.out]
              go_wp2
              go_roundw
              case rel =>
                refine ⟨r, m, by omega, rfl, rfl, ⟨fun a ha => ?_⟩, fun h0 j' hj' => ?_, hid (by trivial)⟩
                · have := HA.out.ok a ha; exact ⟨this.1, by omega, this.2.2⟩
                · subst h0; rw [HX.out] at hj'; cases hj'; exact HP.out
              case measure => simp [intOf]
end Go.Proofs.Ytoonhcmeklmnlaa
