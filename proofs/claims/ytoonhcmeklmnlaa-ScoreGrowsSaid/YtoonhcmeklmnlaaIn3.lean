/- The walks of files over a span, of the program. -/
import Derived.Test.YtoonhcmeklmnlaaIn2
set_option linter.unusedSimpArgs false
set_option linter.unusedVariables false
set_option linter.unnecessarySimpa false
namespace Go.Proofs.Ytoonhcmeklmnlaa
open Go.RowKit Go.Rg Go.St

def ovs (a b : ByteArray) (l : List File) : List File := l.filter (ov a b)
theorem ovs_succ (a b : ByteArray) (l : List File) (k : Nat) (h : k < l.length) : ovs a b (l.take (k + 1)) = ovs a b (l.take k) ++ (if ov a b (nth l k) = true then [nth l k] else []) := by
  unfold ovs
  rw [take_succ_nth l k h, List.filter_append]
  by_cases e : ov a b (nth l k) = true
  · simp [e]
  · simp [e]
theorem ovs_le (a b : ByteArray) (l : List File) (k : Nat) : (ovs a b (l.take k)).length ≤ k := by
  have := List.length_filter_le (ov a b) (l.take k)
  have h2 := List.length_take_le k l
  unfold ovs; omega
theorem OwnFiles.snoc {w : World} {base : Nat} {v : Value} {xs : List File} {f : File} (h : w.ownsRow base 80 9 v (xs.length + 1) (xs.flatMap eFile ++ eFile f)) : OwnFiles w base v (xs ++ [f]) := by
  unfold OwnFiles
  rw [List.length_append, List.flatMap_append]
  simpa using h

set_option maxHeartbeats 1000000 in
theorem vover_in (v0 v1 v2 v3 : Value) (V : Nat → List File) (k : Nat) (kk : Int) (hkk : kk = k) (hk : k < 4) (a b : ByteArray) (w : World) (hV : Ver w v0 v1 v2 v3 V) (hn : (V k).length ≤ 1000000) :
    Calls Try.prog 45 #[.agg #[v0, v1, v2, v3], .int .i64 kk, .string a, .string b] w (FilesExt (ovs a b (V k)) w) := by
  have hs := hV.at hk
  clear hV
  generalize V k = l at *
  obtain ⟨rfl, rfl⟩ | ⟨rfl, rfl⟩ | ⟨rfl, rfl⟩ | ⟨rfl, rfl⟩ : (k = 0 ∧ kk = 0) ∨ (k = 1 ∧ kk = 1) ∨ (k = 2 ∧ kk = 2) ∨ (k = 3 ∧ kk = 3) := by omega
  all_goals
    simp only [pick4] at hs
    clear hkk
    obtain ⟨ad, cap, rfl, hcap, hm, hc⟩ := hs.ex
    have HC := hid hc
    clear hs hc
    unfold maxLen at hm
    have hx0 : ∀ o, Ext w (w.alloc o) := fun o => (Ext.rfl w).al o
    have HX0 := hid hx0
    clear hx0
    go_enter Try.func45, Try.ntmps45
    go_wp2
    go_loopw [9, 23] (fun o t wr => ∃ j : Nat, j ≤ l.length ∧ t = .int .i64 j ∧ Ext w wr ∧ OwnFiles wr w.heap.size o (ovs a b (l.take j))) (fun _ t _ => l.length - (intOf t).toNat)
    case atStart => exact ⟨0, Nat.zero_le _, rfl, HX0.out _, World.ownsRow_nil _ _ _ _⟩
    case round =>
      obtain ⟨j, hj, rfl, he, hown⟩ := hrel
      have HE := hid he
      have HO := hid hown
      clear he hown
      by_cases hlt : j < l.length
      · obtain ⟨b1, off, rfl, hcell⟩ := HC.out (by omega)
        obtain ⟨c0, c1, c2, c3, c4, c5, c6, c7, c8⟩ := SlS.at9 (w := wr) (enc := eFile) (xs := l) (k := j) (fun i hi => ext_cellq HE.out (hcell j hlt i hi) hi rfl) rfl
        have hsucc := hid (ovs_succ a b l j hlt)
        have hle := ovs_le a b l j
        clear hcell
        cases hov : ov a b (nth l j)
        · have HV := hid hov
          clear hov
          go_wp2_with fail
          refine (vhas_in (nth l j) a b _).mono ?_
          rintro e w1 ⟨rfl, he1⟩
          rw [HV.out]
          have E1 := hid ((HE.out.al _).tr he1)
          have O1 := hid (owns_ext HO.out (((Ext.rfl wr).al _).tr he1))
          clear he1
          go_wp2
          go_roundw
          case rel => exact ⟨j + 1, by omega, by go_num, E1.out, by rw [hsucc.out, if_neg (by rw [HV.out]; decide), List.append_nil]; exact O1.out⟩
          case measure => simp [intOf]; omega
        · have HV := hid hov
          clear hov
          go_wp2_with fail
          refine (vhas_in (nth l j) a b _).mono ?_
          rintro e w1 ⟨rfl, he1⟩
          rw [HV.out]
          have E1 := hid ((HE.out.al _).tr he1)
          have O1 := hid (owns_ext HO.out (((Ext.rfl wr).al _).tr he1))
          have d0 := ext_new he1 0 rfl
          have d1 := ext_new he1 1 rfl
          have d2 := ext_new he1 2 rfl
          have d3 := ext_new he1 3 rfl
          have d4 := ext_new he1 4 rfl
          have d5 := ext_new he1 5 rfl
          have d6 := ext_new he1 6 rfl
          have d7 := ext_new he1 7 rfl
          have d8 := ext_new he1 8 rfl
          clear he1 c0 c1 c2 c3 c4 c5 c6 c7 c8
          go_wp2_with (at_builtin; refine wpList_app el_file rfl (owns_ext O1.out ((Ext.rfl w1).al _)) rfl rfl (news_block w1 (eFile (nth l j)).toArray _) (one_file _) (by omega) (E1.out.al _).size ?_; intro v' w4 hown4 hg4 hb4; have O4 := hid (OwnFiles.snoc hown4); have E4 := hid (Below.trans (E1.out.al _) hb4); clear hown4 hg4 hb4)
          go_roundw
          case rel => exact ⟨j + 1, by omega, by go_num, E4.out, by rw [hsucc.out, if_pos HV.out]; exact O4.out⟩
          case measure => simp [intOf]; omega
      · have : j = l.length := by omega
        subst this
        rw [List.take_length] at HO
        go_wp2
        go_ret
        exact ⟨_, rfl, HO.out, HE.out⟩
end Go.Proofs.Ytoonhcmeklmnlaa
