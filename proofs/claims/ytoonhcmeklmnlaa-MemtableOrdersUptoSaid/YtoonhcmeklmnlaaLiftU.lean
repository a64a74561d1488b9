/- From a walk of a law to the law's row, of arguments whose bulk is bounded. -/
import Derived.Test.YtoonhcmeklmnlaaLift
import Derived.Test.YtoonhcmeklmnlaaOpen
import Derived.Test.YtoonhcmeklmnlaaRows
import Derived.Deep.CondSized
set_option linter.unusedSimpArgs false
set_option linter.unusedVariables false
set_option linter.unnecessarySimpa false
namespace Go.St
open Go.ChangeShapes Go.WideShapes Go.ChangeAt Go.RowKit Go.Rg

section
variable {H : Type} {enc : TypeId × Value → H} {P : Program}
theorem law_lifted_upto {C : Checked} {os : Os} {f : FuncId} {fn : Func} {S : OpenSpec} {k : (H : Type) → List (DataW H) → Bool} (hk : S.cond = some k) {F : Stop.Interp} {bt : TypeId}
    (own : ownKnob C.prog.godebug = none) (started : os.Started) (noInit : C.prog.inits.idxOf? f = none) (hfn : C.prog.funcs[f]? = some fn)
    (witness : ∃ (w : World) (tape : Tape) (i : Input), w.os = os ∧ (w.forCall tape i).Shaped C.prog ∧ i.vars = [] ∧ Input.okWide C.prog (w.forCall tape i) .any w.heap.size f i ∧
      S.pre6 enc C.prog fn [] false (w.forCall tape i).memory i.args ∧ ({} : Assume).holds C.prog (lone (Frame.enter C.prog f i.args .normal) [] (w.forCall tape i)))
    (hl : laidOutB C.prog = true) (hvars : S.vars = []) (hbt : C.prog.underlying bt = some .bool) (hres : fn.resultTypes = #[bt])
    (hread0 : (fn.params.toList.all fun t => C.prog.readableRec t && decide (t < C.prog.types.size)) = true)
    (hspec0 : ∀ (ds : List (DataW H)), ds.length = fn.params.toList.length → S.fn F H ds = ⟨[.lit (.bool true)], ds, []⟩)
    (walk : ∀ (W : World) (base : Nat) (args : Array Value) (ds : List (DataW H)) (p : List MemPlace),
      (∀ (j : Nat) t v, fn.params[j]? = some t → args[j]? = some v → Value.okWide C.prog W .any base t v) →
      DataW.TrodAll enc C.prog W 0 (fun _ => true) true fn.params.toList args.toList ds p →
      (DataW.weightsEach C.prog fn.params.toList ds).all (· ≤ reachBytes) = true → k H ds = true →
      Calls C.prog f args W fun e W' => e = .returned (.bool true) ∧ Ext W W') :
    ReturnsInHanded {} C os f .any (S.pre6 enc C.prog fn [] false) ((S.at F).post enc C.prog fn false true false false) := by
  have hread : ∀ t ∈ fn.params.toList, C.prog.readableRec t = true ∧ t < C.prog.types.size := fun t ht => by
    have := List.all_eq_true.1 hread0 t ht
    simpa using this
  have hspec : ∀ (W : World) (vs : List Value) (ds : List (DataW H)) (p : List MemPlace), DataW.TrodAll enc C.prog W 0 (fun _ => true) true fn.params.toList vs ds p → (S.at F).fn H (ds ++ []) = ⟨[.lit (.bool true)], ds, []⟩ := fun W vs ds p h => by
    rw [List.append_nil]; exact hspec0 ds (trodAll_length h)
  refine returnsInHanded_of_cond_sized hk own started noInit hfn witness ?_
  intro W base args ds gs before hval hW _ hkk hsz _
  have hW' := hW
  obtain ⟨p, q, hA, hV, rfl, hfz, hnd⟩ := hW
  rw [hvars] at hV
  obtain ⟨rfl, rfl⟩ := trodVars_none hV
  have hlt : ∀ x ∈ p, x.block < W.heap.size := fun x hx => hW'.lt x (List.mem_append.2 (.inl hx))
  have hvt : S.bare.plain.varTypes C.prog = [] := by
    unfold OpenSpec.bare ChangeSpec.plain DataSpec.varTypes
    simp [hvars]
  rw [hvt, List.append_nil, List.append_nil] at hsz
  rw [List.append_nil] at hkk
  refine (walk W base args ds p hval hA hsz hkk).mono fun e W' ⟨he, hb⟩ => ?_
  subst he
  refine ⟨_, rfl, ds, [], p ++ [], [], p, [], hW', ?_, ?_, ?_, hb.frame _, fun h => by cases h⟩
  · rw [hspec W _ ds p hA, hres]
    exact trodAll_mk1 (shut_bool hbt true)
  · rw [hspec W _ ds p hA]
    exact trodAll_below hl hb hread hlt hA
  · rw [hspec W _ ds p hA]
    rw [show (S.at F).vars = [] from hvars]
    rfl
end
end Go.St
namespace Go.Proofs.Ytoonhcmeklmnlaa
open Go.ChangeShapes Go.WideShapes Go.ChangeAt Go.RowKit Go.Rg Go.St
variable {H : Type} {enc : TypeId × Value → H} {P : Program} {W : World}
theorem bulk_string {t : TypeId} (h : P.underlying t = some .string) {s : ByteArray} {d : DataW H} {ps : List MemPlace} (hd : DataW.Trod enc P W 0 (fun _ => true) true t (.string s) d ps) : s.size ≤ Rows.uptoBulk d := by
  obtain ⟨fuel, hf⟩ := hd
  cases fuel with
  | zero => simp [DataW.trod] at hf
  | succ fuel =>
    unfold DataW.trod at hf
    simp only [h, Value.cells] at hf
    split at hf
    · simp only [Option.some.injEq, Prod.mk.injEq] at hf
      rw [← hf.1]
      show s.size ≤ s.data.toList.length + 1
      exact Nat.le_succ _
    · cases hf
end Go.Proofs.Ytoonhcmeklmnlaa
