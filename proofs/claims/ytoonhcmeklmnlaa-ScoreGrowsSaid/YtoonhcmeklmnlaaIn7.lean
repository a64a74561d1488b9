/- The walk of the program's Inputs of the other levels, and of none. -/
import Derived.Test.YtoonhcmeklmnlaaIn5
set_option linter.unusedSimpArgs false
set_option linter.unusedVariables false
set_option linter.unnecessarySimpa false

/-! ## (In6) The walks of many and of the program's Inputs. -/
namespace Go.Proofs.Ytoonhcmeklmnlaa
open Go.RowKit Go.Rg Go.St

theorem news_at {w : World} {cs : Array Value} {T : TypeId} {n : Nat} (h : w.heap.size = n) : ∀ j u, cs.toList[j]? = some u → (w.alloc (.cells cs T)).cell? ((⟨n, 0, none⟩ : Addr).add j) = some u := by subst h; exact news_block w cs T
theorem ret_bb {a b : Bool} (h : a = b) : Ending.returned (.bool a) = Ending.returned (.bool b) := by rw [h]
def sumLen (V : Nat → List File) : Nat → Nat
  | 0 => 0
  | k + 1 => sumLen V k + (V k).length
theorem sumLen_le {V : Nat → List File} (h : ∀ i, i < 4 → (V i).length ≤ 140737488351232) : ∀ k, k ≤ 4 → sumLen V k ≤ k * 140737488351232
  | 0, _ => by simp [sumLen]
  | k + 1, hk => by
    have h1 := sumLen_le h k (by omega)
    have h2 := h k (by omega)
    unfold sumLen; omega
theorem pick4_at (v0 v1 v2 v3 : Value) {k : Nat} (hk : k < 4) : (#[v0, v1, v2, v3] : Array Value)[k]? = some (pick4 v0 v1 v2 v3 k) := by
  obtain rfl | rfl | rfl | rfl : k = 0 ∨ k = 1 ∨ k = 2 ∨ k = 3 := by omega
  all_goals rfl

theorem tl_iff (a b : ByteArray) : (a.toList = b.toList) = (a = b) := propext ⟨ba_ext, fun e => by rw [e]⟩
theorem span_eq (s t : ByteArray × ByteArray) (w : World) : (binOp .eql 150 (aSpan s) (aSpan t)).run Try.prog w = .ok (.bool (decide (s = t))) w := by
  have hS : Try.prog.underlying 150 = some (.struct (Try.prog.fieldsOf 150)) := by kernel_rfl
  have hp : Try.prog.stoodInHeld 150 = false := by kernel_rfl
  have u3 := Try.underlying9
  have a3 := Try.isAgg9
  have z3 := Try.sizeOf9
  rw [run_eql_struct, show (10000 : Nat) = 9999 + 1 from rfl, run_equalIn_agg w 9999 150 _ _ hS hp]
  simp only [Program.fieldsOf, Try.underlying150]
  go_simp
  obtain ⟨s1, s2⟩ := s
  obtain ⟨t1, t2⟩ := t
  by_cases h1 : s1 = t1 <;> by_cases h2 : s2 = t2 <;> simp [h1, h2, tl_iff]
def strOf : Option Value → ByteArray
  | some (.string s) => s
  | _ => ByteArray.empty
def spnOf (w : World) (b : Nat) : ByteArray × ByteArray := (strOf (w.cell? ⟨b, 0, none⟩), strOf (w.cell? ⟨b, 1, none⟩))
theorem Spn.of {w : World} {b : Nat} {s : ByteArray × ByteArray} (h : Spn w b s) : spnOf w b = s := by
  obtain ⟨h1, h2, _⟩ := h.cells
  unfold spnOf
  rw [h1, h2]; rfl
def TwoFiles (xs ys : List File) (w : World) (e : Ending) (w' : World) : Prop := ∃ v u, e = .returned (.tuple #[v, u]) ∧ SlFile w' v xs ∧ SlFile w' u ys ∧ Ext w w'
/-- what is merged of level 0 -/
def Low0 (l : List File) (xs : List File) : Prop := ∃ q, Closed l q ∧ Least l q ∧ xs = sel l q
def Two0 (l m : List File) (w : World) (e : Ending) (w' : World) : Prop := ∃ xs, Low0 l xs ∧ TwoFiles xs (ovs (span xs).1 (span xs).2 m) w e w'

set_option maxRecDepth 100000 in
set_option maxHeartbeats 4000000 in
theorem inputs_0 (v0 v1 v2 v3 : Value) (V : Nat → List File) (from_ : ByteArray) (w : World) (hV : Ver w v0 v1 v2 v3 V) (hn : ∀ i, i < 4 → (V i).length ≤ 1000000) (hl : 0 < (V 0).length) :
    Calls Try.prog 56 #[.agg #[v0, v1, v2, v3], .int .i64 0, .string from_] w (Two0 (V 0) (V 1) w) := by
  have HV := hid hV
  have HN := hid hn
  obtain ⟨a, cap, hp, hcap, hm, hc⟩ := hV.s0.ex
  obtain ⟨b, off, rfl, hcell⟩ := hc hl
  have h00 := hn 0 (by omega)
  unfold maxLen at hm
  generalize V 0 = l at *
  obtain ⟨L, hL⟩ : ∃ L, l.length = L + 1 := ⟨l.length - 1, by omega⟩
  rw [hL] at hp hcap
  subst hp
  obtain ⟨c0, c1, c2, c3, c4, c5, c6, c7, c8⟩ := SlS.at9 (w := w) (enc := eFile) (xs := l) (k := L) (fun j hj => hcell _ (by omega) j hj) rfl
  have n0 := cell_lt c3
  have n1 : w.heap.size ≠ b := by omega
  have n3 : b ≠ w.heap.size := by omega
  have HC := hid hcell
  have HG := hid (grow_start hl)
  rw [show l.length - 1 = L by omega] at HG
  have HL := hid hL
  have hlb : ((L : Int) + 1 == 0) = false := by simp; omega
  have hL2 : L < 1000000 := by omega
  clear hcell hc hV hn hL hl
  have hmin := run_min_str
  have hmax := run_max_str
  go_enter Try.func56, Try.ntmps56
  have hse := span_eq
  go_wp2
  go_step3
  go_wp2
  go_step3
  go_wp2
  generalize hbx : (Obj.cells #[.slice (some ⟨b, off, none⟩) (L + 1) cap, v1, v2, v3] 67) = vb at *
  have E0 := hid ((((Ext.rfl (w.alloc vb)).al (.cells #[.int .i64 (nth l L).level, .int .u64 (nth l L).num, .int .i64 (nth l L).size, .string (nth l L).small.user, .int .u64 (nth l L).small.seq, .int .i64 (nth l L).small.kind, .string (nth l L).large.user, .int .u64 (nth l L).large.seq, .int .i64 (nth l L).large.kind] 80))).al (.cells #[.string (nth l L).small.user, .string (nth l L).large.user] 150))
  have S0 : Hid (Spn (((w.alloc vb).alloc (.cells #[.int .i64 (nth l L).level, .int .u64 (nth l L).num, .int .i64 (nth l L).size, .string (nth l L).small.user, .int .u64 (nth l L).small.seq, .int .i64 (nth l L).small.kind, .string (nth l L).large.user, .int .u64 (nth l L).large.seq, .int .i64 (nth l L).large.kind] 80)).alloc (.cells #[.string (nth l L).small.user, .string (nth l L).large.user] 150)) (w.heap.size + 1 + 1) ((nth l L).small.user, (nth l L).large.user)) := hid (by
    have := heap_alloc_new ((w.alloc vb).alloc (.cells #[.int .i64 (nth l L).level, .int .u64 (nth l L).num, .int .i64 (nth l L).size, .string (nth l L).small.user, .int .u64 (nth l L).small.seq, .int .i64 (nth l L).small.kind, .string (nth l L).large.user, .int .u64 (nth l L).large.seq, .int .i64 (nth l L).large.kind] 80)) (.cells #[.string (nth l L).small.user, .string (nth l L).large.user] 150)
    rw [alloc_size, alloc_size] at this
    exact this)
  have HBX := hid hbx
  clear hbx c0 c1 c2 c3 c4 c5 c6 c7 c8
  go_loopw [6] (fun o wr => ∃ s, Grow l s ∧ Ext (w.alloc vb) wr ∧ Spn wr (w.heap.size + 1 + 1) s) (fun _ wr => growLeft l (spnOf wr (w.heap.size + 1 + 1)))
  case atStart => exact ⟨_, HG.out, E0.out, S0.out⟩
  case round =>
    clear HG E0 S0
    obtain ⟨s, hg, he, hs⟩ := hrel
    have HG := hid hg
    have HE := hid he
    have HS := hid hs
    have hlt0 := hs.lt
    clear hg he hs
    obtain ⟨wo, rfl⟩ : ∃ wo : World, wo = wr := ⟨_, rfl⟩
    go_wp2
    go_loopw [6, 52] (fun o t wr => ∃ j : Nat, j ≤ L + 1 ∧ t = .int .i64 j ∧ Ext wo wr ∧ OwnFiles wr wo.heap.size o (selTo l (low l s) j)) (fun _ t _ => L + 1 - (intOf t).toNat)
    case atStart => exact ⟨0, Nat.zero_le _, rfl, Ext.rfl _, World.ownsRow_nil _ _ _ _⟩
    case round =>
      obtain ⟨j, hj, rfl, hi, hown⟩ := hrel
      have HI := hid hi
      have HO := hid hown
      clear hi hown
      have HS' := hid (HS.out.ext HI.out)
      have hlt1 := HS'.out.lt
      by_cases hlt : j < L + 1
      · obtain ⟨c0, c1, c2, c3, c4, c5, c6, c7, c8⟩ := SlS.at9 (w := wr) (enc := eFile) (xs := l) (k := j) (fun i hi => ext_cellq ((ext_of_new HE.out).tr HI.out) (HC.out j (by rw [HL.out]; omega) i hi) hi rfl) rfl
        obtain ⟨d0, d1, d2⟩ := HS'.out.cells
        have n5 := cell_lt c3
        have n6 : wr.heap.size ≠ b := by omega
        have hsucc := hid (selTo_succ l (low l s) j)
        have hle := selTo_le l (low l s) j
        have hlow : low l s j = (j == L || ov s.1 s.2 (nth l j)) := by unfold low; rw [HL.out, Nat.add_sub_cancel]
        have HW := hid hlow
        clear hlow
        by_cases hjL : j = L
        · have hlo : low l s j = true := by rw [HW.out]; simp [hjL]
          have HLO := hid hlo
          have hjb : ((j : Int) == (L : Int)) = true := by simp [hjL]
          have HJ := hid hjL
          clear hlo hjL
          go_wp2_with (at_builtin; refine wpList_app el_file rfl (owns_ext HO.out (((Ext.rfl wr).al _).al _)) rfl rfl (news_at (w := wr.alloc _) (cs := (eFile (nth l j)).toArray) (alloc_size _ _)) (one_file _) (by omega) ((HI.out.al _).al _).size ?_; intro v' w4 hown4 hg4 hb4; have O4 := hid (OwnFiles.snoc hown4); have E4 := hid (Below.trans ((HI.out.al _).al _) hb4); clear hown4 hg4 hb4)
          go_roundw
          case rel => exact ⟨j + 1, by omega, by go_num, E4.out, by rw [hsucc.out, if_pos HLO.out]; exact O4.out⟩
          case measure => simp [intOf]; omega
        · have hjb : ((j : Int) == (L : Int)) = false := by rw [beq_eq_false_iff_ne]; omega
          have HJ := hid hjL
          clear hjL
          cases hov : ov s.1 s.2 (nth l j)
          · have hlo : low l s j = false := by rw [HW.out, hov]; simp [HJ.out]
            have hq := leq_of _ _ hov
            have HLO := hid hlo
            clear hlo hov
            go_wp2_with fail
            go_roundw
            case rel => exact ⟨j + 1, by omega, by go_num, HI.out.al _, by rw [hsucc.out, if_neg (by rw [HLO.out]; decide), List.append_nil]; exact owns_ext HO.out ((Ext.rfl _).al _)⟩
            case measure => simp [intOf]; omega
          · have hlo : low l s j = true := by rw [HW.out, hov]; simp
            have hq := leq_of _ _ hov
            have HLO := hid hlo
            clear hlo hov
            go_wp2_with (at_builtin; refine wpList_app el_file rfl (owns_ext HO.out (((Ext.rfl wr).al _).al _)) rfl rfl (news_at (w := wr.alloc _) (cs := (eFile (nth l j)).toArray) (alloc_size _ _)) (one_file _) (by omega) ((HI.out.al _).al _).size ?_; intro v' w4 hown4 hg4 hb4; have O4 := hid (OwnFiles.snoc hown4); have E4 := hid (Below.trans ((HI.out.al _).al _) hb4); clear hown4 hg4 hb4)
            go_roundw
            case rel => exact ⟨j + 1, by omega, by go_num, E4.out, by rw [hsucc.out, if_pos HLO.out]; exact O4.out⟩
            case measure => simp [intOf]; omega
      · have : j = L + 1 := by omega
        subst this
        have hsel : selTo l (low l s) (L + 1) = sel l (low l s) := by unfold sel; rw [HL.out]
        rw [hsel] at HO
        have hpos : 0 < (sel l (low l s)).length := by
          obtain ⟨i, hi, hp⟩ := low_ex (l := l) (by rw [HL.out]; omega) s
          exact List.length_pos_of_mem (mem_sel.2 ⟨i, hi, hp, rfl⟩)
        obtain ⟨d0, d1, d2⟩ := HS'.out.cells
        have HP := hid hpos
        clear hsel hpos
        go_wp2_with fail
        refine (spanned_in _ (sel l (low l s)) _ HO.out.sl HP.out).mono ?_
        rintro e w1 ⟨rfl, he1⟩
        have T1 := hid (HS'.out.ext he1)
        obtain ⟨d0', d1', d2'⟩ := T1.out.cells
        have hlt3 := T1.out.lt
        have SL1 := hid (HO.out.sl.file he1)
        have E1 := hid ((HE.out.tr HI.out).tr he1)
        clear he1 d0 d1 d2
        by_cases hq : span (sel l (low l s)) = s
        · have hd : decide (span (sel l (low l s)) = s) = true := decide_eq_true hq
          have HQ := hid hq
          clear hq
          go_wp2_with fail
          rw [Exit.noGoto_normal]
          have hb := HBX.out
          subst hb
          have q0 := ext_new E1.out 0 rfl
          have q1 := ext_new E1.out 1 rfl
          have q2 := ext_new E1.out 2 rfl
          have q3 := ext_new E1.out 3 rfl
          go_wp2_with fail
          refine (spanned_in _ (sel l (low l s)) _ (SL1.out.file ((Ext.rfl _).al _)) HP.out).mono ?_
          rintro e w2 ⟨rfl, he2⟩
          have q0 := ext_cell (((Ext.rfl w1).al _).tr he2) q0
          have q1 := ext_cell (((Ext.rfl w1).al _).tr he2) q1
          have q2 := ext_cell (((Ext.rfl w1).al _).tr he2) q2
          have q3 := ext_cell (((Ext.rfl w1).al _).tr he2) q3
          have E2 := hid (E1.out.tr (((Ext.rfl w1).al _).tr he2))
          have SL2 := hid (SL1.out.file (((Ext.rfl w1).al _).tr he2))
          have hlt4 := cell_lt q0
          clear he2 d0' d1' d2'
          go_wp2_with fail
          refine (vover_in _ v1 v2 v3 V 1 1 rfl (by omega) _ _ _ (HV.out.go ((ext_of_new E2.out).al _)) (HN.out 1 (by omega))).mono ?_
          rintro e w3 ⟨u, rfl, ho, he3⟩
          have SL3 := hid (SL2.out.file (((Ext.rfl w2).al _).tr he3))
          have E3 := hid (ext_of_new (E2.out.tr (((Ext.rfl w2).al _).tr he3)))
          have O3 := hid ho.sl
          clear he3 ho q0 q1 q2 q3
          go_wp2
          go_ret2
          have hdn := HG.out.done (by rw [HL.out]; omega) HQ.out
          exact ⟨sel l (low l s), ⟨_, hdn.1, hdn.2, rfl⟩, _, _, rfl, SL3.out, O3.out, E3.out⟩
        · have hd : decide (span (sel l (low l s)) = s) = false := decide_eq_false hq
          have HQ := hid hq
          clear hq
          have hset := T1.out.set (span (sel l (low l s))).1 (span (sel l (low l s))).2
          have HSET := hid hset
          have E9 := hid (Spn.setE E1.out (b := w.heap.size + 1 + 1) (by rw [alloc_size]; omega) (span (sel l (low l s))).1 (span (sel l (low l s))).2)
          clear hset
          go_wp2_with fail
          go_roundw
          case rel => exact ⟨_, (HG.out.next (by rw [HL.out]; omega)).1, E9.out.al _, Spn.ext (s := span (sel l (low l s))) HSET.out ((Ext.rfl _).al _)⟩
          case measure =>
            rw [Spn.of (Spn.ext (s := span (sel l (low l s))) HSET.out ((Ext.rfl _).al _)), HS.out.of]
            exact growLeft_lt (by rw [HL.out]; omega) HG.out HQ.out
end Go.Proofs.Ytoonhcmeklmnlaa

/-! ## (In7) The walk of the program's Inputs of the other levels, and of none. -/
namespace Go.Proofs.Ytoonhcmeklmnlaa
open Go.RowKit Go.Rg Go.St

/-- the first file behind a user; so many from the end are looked at -/
def atDn (l : List File) (u : ByteArray) : Nat → Nat
  | 0 => 0
  | j + 1 => if kl u (nth l (l.length - 1 - j)).small.user = true then l.length - 1 - j else atDn l u j
theorem atDn_lt {l : List File} (h : 0 < l.length) (u : ByteArray) : ∀ j, atDn l u j < l.length
  | 0 => h
  | j + 1 => by
    unfold atDn
    split
    · omega
    · exact atDn_lt h u j

theorem slfile_one {w : World} {f : File} {T n : Nat} (h : w.heap.size = n) : SlFile (w.alloc (.cells (eFile f).toArray T)) (.slice (some ⟨n, 0, none⟩) 1 1) [f] := by
  subst h
  refine ⟨_, 1, rfl, Nat.le_refl _, by decide, fun _ => ⟨w.heap.size, 0, rfl, fun i hi j hj => ?_⟩⟩
  obtain rfl : i = 0 := by simpa using hi
  rw [Nat.zero_mul, Nat.zero_add, cell_of_row _ _ _ _ T (0, 0) (heap_alloc_new w _), ← Array.getElem?_toList]
  rfl
def NilTwo (w : World) (e : Ending) (w' : World) : Prop := e = .returned (.tuple #[.slice none 0 0, .slice none 0 0]) ∧ Ext w w'

set_option maxHeartbeats 1000000 in
theorem inputs_out (v0 v1 v2 v3 from_ : Value) (k : Int) (hk : k < 0 ∨ 2 < k) (w : World) :
    Calls Try.prog 56 #[.agg #[v0, v1, v2, v3], .int .i64 k, from_] w (NilTwo w) := by
  rcases hk with hk | hk
  · go_enter Try.func56, Try.ntmps56
    go_wp2
    go_ret2
    exact ⟨rfl, (Ext.rfl w).al _⟩
  · have hk2 : ¬ k < 0 := by omega
    go_enter Try.func56, Try.ntmps56
    go_wp2
    go_ret2
    exact ⟨rfl, (Ext.rfl w).al _⟩

set_option maxHeartbeats 1000000 in
theorem inputs_none (v0 v1 v2 v3 : Value) (V : Nat → List File) (from_ : ByteArray) (k : Nat) (kk : Int) (hkk : kk = k) (hk : k < 3) (w : World) (hV : Ver w v0 v1 v2 v3 V) (hl : (V k).length = 0) :
    Calls Try.prog 56 #[.agg #[v0, v1, v2, v3], .int .i64 kk, .string from_] w (NilTwo w) := by
  have hs := hV.at (show k < 4 by omega)
  clear hV
  generalize V k = l at *
  obtain ⟨rfl, rfl⟩ | ⟨rfl, rfl⟩ | ⟨rfl, rfl⟩ : (k = 0 ∧ kk = 0) ∨ (k = 1 ∧ kk = 1) ∨ (k = 2 ∧ kk = 2) := by omega
  all_goals
    simp only [pick4] at hs
    clear hkk
    obtain ⟨ad, cap, rfl, hcap, hm, hc⟩ := hs.ex
    rw [hl]
    clear hs hc hl hcap
    go_enter Try.func56, Try.ntmps56
    go_wp2
    go_ret2
    exact ⟨rfl, (Ext.rfl w).al _⟩

set_option maxRecDepth 100000 in
set_option maxHeartbeats 4000000 in
theorem inputs_up (v0 v1 v2 v3 : Value) (V : Nat → List File) (from_ : ByteArray) (k : Nat) (kk : Int) (hkk : kk = k) (hk : 1 ≤ k ∧ k < 3) (w : World) (hV : Ver w v0 v1 v2 v3 V) (hn : ∀ i, i < 4 → (V i).length ≤ 1000000) (hl : 0 < (V k).length) :
    Calls Try.prog 56 #[.agg #[v0, v1, v2, v3], .int .i64 kk, .string from_] w (TwoFiles [nth (V k) (atDn (V k) from_ (V k).length)] (ovs (span [nth (V k) (atDn (V k) from_ (V k).length)]).1 (span [nth (V k) (atDn (V k) from_ (V k).length)]).2 (V (k + 1))) w) := by
  have hs := hV.at (show k < 4 by omega)
  have h00 := hn k (by omega)
  have hat := atDn_lt hl from_
  obtain ⟨k2, hk2⟩ : ∃ k2 : Int, k2 = kk + 1 := ⟨_, rfl⟩
  have hov := fun w' (he : Ext w w') a b => vover_in v0 v1 v2 v3 V (k + 1) k2 (by omega) (by omega) a b w' (hV.go he) (hn (k + 1) (by omega))
  clear hV hn
  generalize V k = l at *
  generalize V (k + 1) = m at *
  have HA := hid hat
  have hlb : ((l.length : Int) == 0) = false := by rw [beq_eq_false_iff_ne]; omega
  have HOV := hid hov
  clear hat hov
  obtain ⟨rfl, rfl, rfl⟩ | ⟨rfl, rfl, rfl⟩ : (k = 1 ∧ kk = 1 ∧ k2 = 2) ∨ (k = 2 ∧ kk = 2 ∧ k2 = 3) := by omega
  all_goals
    simp only [pick4] at hs
    clear hkk hk2
    obtain ⟨ad, cap, rfl, hcap, hm, hc⟩ := hs.ex
    unfold maxLen at hm
    obtain ⟨b, off, rfl, hcell⟩ := hc hl
    have HC := hid hcell
    clear hcell hc hs
    go_enter Try.func56, Try.ntmps56
    go_wp2
    go_loop [14, 15] (fun o t => ∃ j : Nat, j ≤ l.length ∧ t = .int .i64 ((l.length : Int) - 1 - j) ∧ o = .int .i64 (atDn l from_ j : Nat)) (fun _ t => (intOf t + 1).toNat)
    case atStart => exact ⟨0, Nat.zero_le _, by simp, rfl⟩
    case round =>
      obtain ⟨j, hj, rfl, rfl⟩ := hrel
      by_cases hlt : j < l.length
      · obtain ⟨i, hi⟩ : ∃ i, l.length = i + 1 + j := ⟨l.length - 1 - j, by omega⟩
        rw [show (l.length : Int) - 1 - j = (i : Int) by omega]
        have hil : i < l.length := by omega
        obtain ⟨c0, c1, c2, c3, c4, c5, c6, c7, c8⟩ := SlS.at9 (w := w) (enc := eFile) (xs := l) (k := i) (fun q hq => HC.out i hil q hq) rfl
        clear c0 c1 c2 c4 c5 c6 c7 c8
        have n5 := cell_lt c3
        have n6 : w.heap.size ≠ b := by omega
        have hsuc : atDn l from_ (j + 1) = if kl from_ (nth l i).small.user = true then i else atDn l from_ j := by
          rw [show i = l.length - 1 - j by omega]; rfl
        have HS := hid hsuc
        have HI := hid hi
        clear hsuc hi
        rcases tri (nth l i).small.user from_ with ⟨h1, h2⟩ | ⟨h1, h2, h3⟩ | ⟨h1, h2, h3⟩
        · have HK := hid h2
          clear h2
          go_wp2
          go_round
          case rel => exact ⟨j + 1, by omega, int_val (by have := HI.out; omega), by rw [HS.out, HK.out]; simp⟩
          case measure => simp [intOf]
        · have HK := hid h3
          clear h3
          go_wp2
          go_round
          case rel => exact ⟨j + 1, by omega, int_val (by have := HI.out; omega), by rw [HS.out, HK.out]; simp⟩
          case measure => simp [intOf]
        · have HK := hid h3
          clear h3
          go_wp2
          go_round
          case rel => exact ⟨j + 1, by omega, int_val (by have := HI.out; omega), by rw [HS.out, HK.out]; simp⟩
          case measure => simp [intOf]
      · have : j = l.length := by omega
        subst this
        rw [show (l.length : Int) - 1 - l.length = -1 by omega]
        have hA := HA.out l.length
        obtain ⟨c0, c1, c2, c3, c4, c5, c6, c7, c8⟩ := SlS.at9 (w := w) (enc := eFile) (xs := l) (k := atDn l from_ l.length) (fun q hq => HC.out _ hA q hq) rfl
        have n5 := cell_lt c3
        have n6 : w.heap.size ≠ b := by omega
        generalize atDn l from_ l.length = i at *
        go_wp2_with fail
        refine (spanned_in _ [nth l i] _ (slfile_one (w := w.alloc _) (alloc_size w _)) (by simp)).mono ?_
        rintro e w2 ⟨rfl, he2⟩
        have E2 := hid (Ext.tr (Ext.al (Ext.rfl _) _) he2)
        have q0 := ext_new E2.out 0 rfl
        have q1 := ext_new E2.out 1 rfl
        have q2 := ext_new E2.out 2 rfl
        have q3 := ext_new E2.out 3 rfl
        have hlt4 := cell_lt q0
        have SL2 := hid (SlS.file (slfile_one (w := w.alloc _) (f := nth l i) (alloc_size w _)) he2)
        clear he2 c0 c1 c2 c3 c4 c5 c6 c7 c8
        go_wp2_with fail
        refine (HOV.out _ ((ext_of_new E2.out).al _) _ _).mono ?_
        rintro e w3 ⟨u, rfl, ho, he3⟩
        have SL3 := hid (SL2.out.file (((Ext.rfl w2).al _).tr he3))
        have E3 := hid (ext_of_new (E2.out.tr (((Ext.rfl w2).al _).tr he3)))
        have O3 := hid ho.sl
        clear he3 ho q0 q1 q2 q3
        go_wp2
        go_ret2
        exact ⟨_, _, rfl, SL3.out, O3.out, E3.out⟩
end Go.Proofs.Ytoonhcmeklmnlaa
