/- A map's length, and how a table stays as it was. -/
import Derived.Test.YtoonhcmeklmnlaaMt11
import Derived.Test.YtoonhcmeklmnlaaRgN
set_option linter.unusedSimpArgs false
set_option linter.unusedVariables false
set_option linter.unnecessarySimpa false
namespace Go.Proofs.Ytoonhcmeklmnlaa
open Go.RowKit Go.Rg Go.St

theorem MapB.len {w : World} {b : Nat} {α : Type} {enc : α → Value} {l : List (α × Value)} (h : MapB w b enc l) : ∃ es clock, w.heap[b]? = some (.map es clock) ∧ es.size = l.length := by
  obtain ⟨es, c, h1, h2, h3⟩ := h
  refine ⟨es, c, h1, ?_⟩
  have := congrArg List.length h2
  simpa using this
theorem run_len_map {P : Program} {w : World} {b : Nat} {α : Type} {enc : α → Value} {l : List (α × Value)} (h : MapB w b enc l) {t : TypeId} {k e : TypeId} (ht : P.underlying t = some (.map k e)) (rt : TypeId) :
    (Builtin.len_ #[t] rt #[.map (some b)]).run P w = .ok (.int .i64 l.length) w := by
  obtain ⟨es, c, h1, h2⟩ := h.len
  simp [Builtin.len_, run_underlying ht, getObj, Sem.run, h1, h2, goInt]
end Go.Proofs.Ytoonhcmeklmnlaa
