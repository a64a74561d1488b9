/- The walk of a table's first key that is not less. -/
import Derived.Test.YtoonhcmeklmnlaaMt7
import Derived.Test.YtoonhcmeklmnlaaSkS
set_option linter.unusedSimpArgs false
set_option linter.unusedVariables false
set_option linter.unnecessarySimpa false
namespace Go.Proofs.Ytoonhcmeklmnlaa
open Go.RowKit Go.Rg Go.St

/-- the keys of so many lists -/
def tkeys (M : MT) (m : Nat) (k : ByteArray) : Prop := ∃ i, i < m ∧ ∃ j, j < (nthK M i).n ∧ (nthK M i).key j = k
structure MDone (M : MT) : Prop where
  inv : ∀ i, i < M.ls.length → Inv (nthK M i)
  dn : ∀ i, i < M.ls.length → ∀ j, j < (nthK M i).n → (nthK M i).lv j = (nthK M i).ht j
theorem first_cong {ks ks' : ByteArray → Prop} {from_ s : ByteArray} {ok : Bool} (h : FirstOf ks from_ s ok) (he : ∀ k, ks k ↔ ks' k) : FirstOf ks' from_ s ok := by
  rcases h with ⟨a, b, c, d⟩ | ⟨a, b, c⟩
  · exact .inl ⟨a, (he s).1 b, c, fun k hk => d k ((he k).2 hk)⟩
  · exact .inr ⟨a, b, fun k hk => c k ((he k).2 hk)⟩
theorem tkeys_succ (M : MT) (m : Nat) (k : ByteArray) : (tkeys M m k ∨ ∃ j, j < (nthK M m).n ∧ (nthK M m).key j = k) ↔ tkeys M (m + 1) k := by
  constructor
  · rintro (⟨i, hi, h⟩ | h)
    · exact ⟨i, by omega, h⟩
    · exact ⟨m, by omega, h⟩
  · rintro ⟨i, hi, h⟩
    by_cases e : i = m
    · subst e; exact .inr h
    · exact .inl ⟨i, by omega, h⟩
def FirstPost (M : MT) (from_ : ByteArray) (w : World) (e : Ending) (w' : World) : Prop := ∃ s ok, e = .returned (.tuple #[.string s, .bool ok]) ∧ FirstOf (tkeys M M.ls.length) from_ s ok ∧ Ext w w'

set_option maxRecDepth 100000 in
set_option maxHeartbeats 2000000 in
theorem first_in {w : World} {T : TLoc} {M : MT} (h : TRep w T M) (hd : MDone M) (from_ : ByteArray) : Calls Try.prog 65 #[.pointer (some ⟨T.tb, 0, none⟩), .string from_] w (FirstPost M from_ w) := by
  have c0 : w.cell? ⟨T.tb, 0, none⟩ = some T.lv := cell_of_row _ _ _ _ _ _ h.tb
  have hrow := h.row
  obtain ⟨al, cl, hlv, hmx⟩ := slice_of hrow
  rw [hlv] at c0 hrow
  have HR := hid (owns_sl1 hrow)
  have H := hid h
  have HD := hid hd
  unfold maxLen at hmx
  clear h hd hlv hrow
  go_enter Try.func65, Try.ntmps65
  go_wp2
  go_loopw [6, 7, 17] (fun b f t wr => ∃ i : Nat, i ≤ M.ls.length ∧ t = .int .i64 i ∧ ∃ s ok, b = .string s ∧ f = .bool ok ∧ FirstOf (tkeys M i) from_ s ok ∧ Ext w wr) (fun _ _ t _ => M.ls.length - (intOf t).toNat)
  case atStart => exact ⟨0, Nat.zero_le _, rfl, _, _, rfl, rfl, .inr ⟨rfl, rfl, fun k hk => by obtain ⟨i, hi, _⟩ := hk; omega⟩, Ext.rfl w⟩
  case round =>
    obtain ⟨i, hi, rfl, s, ok, rfl, rfl, hf, he⟩ := hrel
    have HF := hid hf
    have HE := hid he
    clear hf he
    by_cases hlt : i < M.ls.length
    · obtain ⟨a', c', hes, _, _, hc⟩ := (HR.out.go HE.out).ex
      simp only [Value.slice.injEq] at hes
      obtain ⟨rfl, _, rfl⟩ := hes
      obtain ⟨b1, off, rfl, hcell⟩ := hc (by omega)
      have k0 := hcell i hlt
      simp [hlt] at k0
      clear hc hcell
      go_wp2_with fail
      refine (seek_rep ((H.out.ls i hlt).ext HE.out) (HD.out.inv i hlt) from_).mono ?_
      rintro e w2 ⟨r, hs, rfl, he2⟩
      have hfl := first_list (HD.out.inv i hlt) (HD.out.dn i hlt) hs
      have hb := first_both HF.out hfl
      have E2 := hid (HE.out.tr he2)
      clear hs he2 hfl
      generalize (tellO (nthK M i) ((nthK M i).nxt r 0)).1 = s' at *
      generalize (tellO (nthK M i) ((nthK M i).nxt r 0)).2 = ok' at *
      cases ok'
      · rw [if_neg (by simp)] at hb
        have HB := hid (first_cong hb (tkeys_succ M i))
        clear hb
        go_wp2
        go_roundw
        case rel => exact ⟨i + 1, by omega, by go_num, _, _, rfl, rfl, HB.out, E2.out⟩
        case measure => simp [intOf]; omega
      · cases ok
        · rw [if_pos ⟨rfl, .inl rfl⟩] at hb
          have HB := hid (first_cong hb (tkeys_succ M i))
          clear hb
          go_wp2
          go_roundw
          case rel => exact ⟨i + 1, by omega, by go_num, _, _, rfl, rfl, HB.out, E2.out⟩
          case measure => simp [intOf]; omega
        · rcases hk : kl s' s with _ | _
          · rw [if_neg (by simp [hk])] at hb
            have HB := hid (first_cong hb (tkeys_succ M i))
            have hk' : Op.bytesLess s'.toList s.toList = false := hk
            clear hb hk
            go_wp2
            go_roundw
            case rel => exact ⟨i + 1, by omega, by go_num, _, _, rfl, rfl, HB.out, E2.out⟩
            case measure => simp [intOf]; omega
          · rw [if_pos ⟨rfl, .inr hk⟩] at hb
            have HB := hid (first_cong hb (tkeys_succ M i))
            have hk' : Op.bytesLess s'.toList s.toList = true := hk
            clear hb hk
            go_wp2
            go_roundw
            case rel => exact ⟨i + 1, by omega, by go_num, _, _, rfl, rfl, HB.out, E2.out⟩
            case measure => simp [intOf]; omega
    · have : i = M.ls.length := by omega
      subst this
      go_wp2
      go_ret2
      exact ⟨_, _, rfl, HF.out, HE.out⟩
end Go.Proofs.Ytoonhcmeklmnlaa
