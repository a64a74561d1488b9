/- The walks of package skip: Keys, and what is sought. -/
import Derived.Test.YtoonhcmeklmnlaaSk6
set_option linter.unusedSimpArgs false
set_option linter.unusedVariables false
set_option linter.unnecessarySimpa false
namespace Go.Proofs.Ytoonhcmeklmnlaa
open Go.RowKit Go.Rg Go.St

theorem strE : ElT Try.prog 32 9 1 16 := ⟨by kernel_rfl, by kernel_rfl, by decide, by decide⟩

theorem owns_str {w : World} {base : Nat} {e : TypeId} {v : Value} {xs : List ByteArray} {n : Nat} (h : w.ownsRow base e 1 v n (xs.map .string)) (hn : n = xs.length) : SlStr w v xs := by
  subst hn
  exact Sl1.cong (owns_sl1 h) fun i hi => (by
    rw [nth_eq xs i hi]
    simp [hi])

/-- the keys of nodes -/
def keysOf (K : SK) (js : List Nat) : List ByteArray := js.map K.key
def KeysPost (w : World) (xs : List ByteArray) (e : Ending) (w' : World) : Prop := ∃ v, e = .returned v ∧ w'.ownsRow w.heap.size 9 1 v xs.length (xs.map .string) ∧ Ext w w'

theorem keys_nil (l : Int) (w : World) : Calls Try.prog 22 #[.pointer none, .int .i64 l] w (KeysPost w []) := by
  go_enter Try.func22, Try.ntmps22
  go_wp2
  go_ret
  exact ⟨_, rfl, World.ownsRow_nil _ _ _ _, Ext.rfl w⟩
theorem keys_bad (b : Nat) (l : Int) (hl : l < 0 ∨ 8 ≤ l) (w : World) : Calls Try.prog 22 #[.pointer (some ⟨b, 0, none⟩), .int .i64 l] w (KeysPost w []) := by
  rcases hl with h | h
  all_goals
    go_enter Try.func22, Try.ntmps22
    go_wp2
    go_ret
    exact ⟨_, rfl, World.ownsRow_nil _ _ _ _, Ext.rfl w⟩

/-- what stands behind a place of a chain -/
theorem Chain.nxt_at {f : Option Nat → Nat → Option Nat} {l : Nat} : ∀ {r : Option Nat} {js : List Nat}, Chain f l r js → ∀ k, k < js.length → f (some (nth js k)) l = js[k + 1]?
  | r, j :: js, h, 0, _ => by
    have := Chain.head h.2
    rw [show nth (j :: js) 0 = j from rfl, this]
    simp [List.head?_eq_getElem?]
  | r, j :: js, h, k + 1, hk => by
    have := Chain.nxt_at h.2 k (by simpa using hk)
    rw [show nth (j :: js) (k + 1) = nth js k by simp [nth], this]
    simp

def slen : Value → Nat
  | .slice _ n _ => n
  | _ => 0
theorem slen_owns {w : World} {base : Nat} {e : TypeId} {sz : Nat} {v : Value} {n : Nat} {xs : List Value} (h : w.ownsRow base e sz v n xs) : slen v = n := by
  rcases h.2 with ⟨h1, h0⟩ | ⟨g, cap, cur, h1, _⟩
  · rw [h1, h0]; rfl
  · rw [h1]; rfl

set_option maxHeartbeats 1000000 in
theorem keys_rep {w : World} {L : Loc} {K : SK} (h : Rep w L K) {l : Nat} (hl : l < 8) {js : List Nat} (hc : Chain K.nxt l none js) (hj : ∀ j, j ∈ js → j < K.n) (hn : js.length ≤ 1000) :
    Calls Try.prog 22 #[.pointer (some ⟨L.lb, 0, none⟩), .int .i64 l] w (KeysPost w (keysOf K js)) := by
  have h0 : w.cell? ⟨L.lb, 1 + l, none⟩ = some (.pointer (adr L js[0]?)) := by
    rw [cell_of_row _ _ _ _ _ _ h.hd, head_at L _ _ hl]
    unfold lnk
    rw [Chain.head hc, List.head?_eq_getElem?]
  have hk : ∀ k, k < js.length → w.cell? ⟨L.nb (nth js k), 0, none⟩ = some (.string (K.key (nth js k))) ∧ w.cell? ⟨L.nb (nth js k), 1 + l, none⟩ = some (.pointer (adr L js[k + 1]?)) := fun k hk => by
    have hd := h.nd _ (hj _ (nth_mem js k hk))
    refine ⟨cell_of_row _ _ _ _ _ _ hd, ?_⟩
    rw [cell_of_row _ _ _ _ _ _ hd, node_at L _ _ hl]
    unfold lnk
    rw [Chain.nxt_at hc k hk]
  clear h hc hj
  go_enter Try.func22, Try.ntmps22
  go_wp2
  go_loopw [5, 6] (fun t p wr => ∃ k : Nat, k ≤ js.length ∧ p = .pointer (adr L js[k]?) ∧ Ext w wr ∧ wr.ownsRow w.heap.size 9 1 t k ((keysOf K (js.take k)).map .string)) (fun t p wr => js.length - slen t)
  case atStart => exact ⟨0, Nat.zero_le _, rfl, Ext.rfl _, World.ownsRow_nil _ _ _ _⟩
  case round =>
    obtain ⟨k, hkl, rfl, he, ho⟩ := hrel
    have HL := hid (slen_owns ho)
    have HE := hid he
    have HO := hid ho
    clear he ho
    by_cases hlt : k < js.length
    · have e : js[k]? = some (nth js k) := by rw [nth_eq js k hlt]; exact List.getElem?_eq_getElem hlt
      rw [e, show adr L (some (nth js k)) = some ⟨L.nb (nth js k), 0, none⟩ from rfl]
      obtain ⟨c1, c2⟩ := hk k hlt
      have c1 := ext_cell HE.out c1
      have HC := hid c2
      have HX := hid e
      clear hk c2 e h0
      go_wp2_with (at_builtin; refine wpList_app strE rfl (owns_ext HO.out ((Ext.rfl _).al _)) rfl rfl (news_one _ _ _) (by simp [Value.oneCell']) (by omega) (HE.out.al _).size ?_; intro v' w4 hown4 hg4 hb4; have hx : Ext w w4 := ext_via HE.out ((Ext.rfl _).al _) hb4; have c2 := ext_cell hx HC.out; have M1 := hid hown4; have M2 := hid hx; have M3 := hid (slen_owns hown4); clear hown4 hg4 hb4 hx)
      go_roundw
      case rel =>
        refine ⟨k + 1, by omega, rfl, M2.out, ?_⟩
        have e2 : keysOf K (js.take (k + 1)) = keysOf K (js.take k) ++ [K.key (nth js k)] := by rw [take_succ_nth js k hlt]; simp [keysOf]
        rw [e2, List.map_append]
        exact M1.out
      case measure => rw [HL.out, M3.out]; omega
    · have : k = js.length := by omega
      subst this
      have e : js[js.length]? = none := by simp
      rw [e, show adr L none = none from rfl]
      go_wp2
      go_ret
      refine ⟨_, rfl, ?_, HE.out⟩
      have := HO.out
      rw [List.take_length] at this
      rw [show (keysOf K js).length = js.length by simp [keysOf]]
      exact this
end Go.Proofs.Ytoonhcmeklmnlaa
