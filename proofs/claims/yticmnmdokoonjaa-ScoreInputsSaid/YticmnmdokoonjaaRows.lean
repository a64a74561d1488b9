/-
  No cell of these rows narrows 'for every input' (looked for: loops, veiled, ifaces, maps, wideKeys, modest, calm, conditions, laid).
  DERIVED. THE GIVEN ROWS OF THIS SEAT. 12 by the template 'for every input the law returns true; each argument reads behind the call as it read before'; 0 by the template 'total and deterministic' (their statements: YticmnmdokoonjaaTotals.lean).
  GIVEN WITH THE SEED: the statements are not yours to turn. If you find one false, say at which input.
  Laid BY PROGRAM, IN A SANDBOX (cutbox-rows.mjs): the forced cells as the released guide's own fill.sh prints them over the translation 66fe0decd4b0f230… (all of the seat's roots in one cut). By AI agents, Wed Nov 11 2026. No macro, syntax, notation, axiom, sorry.
-/
import Derived.Test.YticmnmdokoonjaaChecked
import GoSem.Claim
import GoSem.ClaimJoined
import GoSem.ClaimMapViews
import Derived.JoinedTies
import Derived.KernelRfl
namespace Go.Proofs.Yticmnmdokoonjaa
/- THE CELL 'sum', in the pinned program and in every row, IS THE sha256 OF THE DUMP (.gsa) THAT YticmnmdokoonjaaProg.lean LOADS. Nothing in Lean hashes anything: it is a label: what it is worth is what the hold of that sum in a sandbox is worth. -/
noncomputable def Try.pinned : Pinned := { name := "yticmnmdokoonjaa", sum := "66fe0decd4b0f230df074d567255c70b9ec50863397b610a31e71a2f564e3eeb", checked := Try.checked }
namespace Rows
def none {H : Type} : Left H := { results := [], args := [] }

/-- 'staddlelaw18.ScoreOrders': WHATEVER THE INPUT: true; the input reads as it did. -/
def scoreOrdersSpec : ChangeSpec := { name := "scoreOrders", fn := fun _ => fun
  | [d1, d2, d3, d4] => { results := [.lit (.bool true)], args := [d1, d2, d3, d4] }
  | _ => none }
def scoreOrdersRow : OpenClaim := { program := "yticmnmdokoonjaa", sum := "66fe0decd4b0f230df074d567255c70b9ec50863397b610a31e71a2f564e3eeb", func := "staddle/staddlelaw18.ScoreOrders", spec := "scoreOrders", apart := false }
def ScoreOrdersSaid : Prop := scoreOrdersRow.holds Try.pinned (OpenSpec.ofChange scoreOrdersSpec)

/-- ITS FALSE NEIGHBOUR: 'it returns false'. Refute it at one input. -/
def scoreOrdersWrong : ChangeSpec := { name := "scoreOrders", fn := fun _ => fun
  | [d1, d2, d3, d4] => { results := [.lit (.bool false)], args := [d1, d2, d3, d4] }
  | _ => none }
def ScoreOrdersWrongFalsely : Prop := scoreOrdersRow.holds Try.pinned (OpenSpec.ofChange scoreOrdersWrong)

/-- 'staddlelaw18.ScorePicks': WHATEVER THE INPUT: true; the input reads as it did. -/
def scorePicksSpec : ChangeSpec := { name := "scorePicks", fn := fun _ => fun
  | [d] => { results := [.lit (.bool true)], args := [d] }
  | _ => none }
def scorePicksRow : OpenClaim := { program := "yticmnmdokoonjaa", sum := "66fe0decd4b0f230df074d567255c70b9ec50863397b610a31e71a2f564e3eeb", func := "staddle/staddlelaw18.ScorePicks", spec := "scorePicks", apart := false }
def ScorePicksSaid : Prop := scorePicksRow.holds Try.pinned (OpenSpec.ofChange scorePicksSpec)

/-- ITS FALSE NEIGHBOUR: 'it returns false'. Refute it at one input. -/
def scorePicksWrong : ChangeSpec := { name := "scorePicks", fn := fun _ => fun
  | [d] => { results := [.lit (.bool false)], args := [d] }
  | _ => none }
def ScorePicksWrongFalsely : Prop := scorePicksRow.holds Try.pinned (OpenSpec.ofChange scorePicksWrong)

/-- 'staddlelaw18.ScoreTells': WHATEVER THE INPUT: true; the input reads as it did. -/
def scoreTellsSpec : ChangeSpec := { name := "scoreTells", fn := fun _ => fun
  | [d1, d2, d3] => { results := [.lit (.bool true)], args := [d1, d2, d3] }
  | _ => none }
def scoreTellsRow : OpenClaim := { program := "yticmnmdokoonjaa", sum := "66fe0decd4b0f230df074d567255c70b9ec50863397b610a31e71a2f564e3eeb", func := "staddle/staddlelaw18.ScoreTells", spec := "scoreTells", apart := false }
def ScoreTellsSaid : Prop := scoreTellsRow.holds Try.pinned (OpenSpec.ofChange scoreTellsSpec)

/-- ITS FALSE NEIGHBOUR: 'it returns false'. Refute it at one input. -/
def scoreTellsWrong : ChangeSpec := { name := "scoreTells", fn := fun _ => fun
  | [d1, d2, d3] => { results := [.lit (.bool false)], args := [d1, d2, d3] }
  | _ => none }
def ScoreTellsWrongFalsely : Prop := scoreTellsRow.holds Try.pinned (OpenSpec.ofChange scoreTellsWrong)

/-- 'staddlelaw18.ScoreInputs': WHATEVER THE INPUT: true; the input reads as it did. -/
def scoreInputsSpec : ChangeSpec := { name := "scoreInputs", fn := fun _ => fun
  | [d1, d2, d3] => { results := [.lit (.bool true)], args := [d1, d2, d3] }
  | _ => none }
def scoreInputsRow : OpenClaim := { program := "yticmnmdokoonjaa", sum := "66fe0decd4b0f230df074d567255c70b9ec50863397b610a31e71a2f564e3eeb", func := "staddle/staddlelaw18.ScoreInputs", spec := "scoreInputs", apart := false }
def ScoreInputsSaid : Prop := scoreInputsRow.holds Try.pinned (OpenSpec.ofChange scoreInputsSpec)

/-- ITS FALSE NEIGHBOUR: 'it returns false'. Refute it at one input. -/
def scoreInputsWrong : ChangeSpec := { name := "scoreInputs", fn := fun _ => fun
  | [d1, d2, d3] => { results := [.lit (.bool false)], args := [d1, d2, d3] }
  | _ => none }
def ScoreInputsWrongFalsely : Prop := scoreInputsRow.holds Try.pinned (OpenSpec.ofChange scoreInputsWrong)

/-- 'staddlelaw18.ScoreGrows': WHATEVER THE INPUT: true; the input reads as it did. -/
def scoreGrowsSpec : ChangeSpec := { name := "scoreGrows", fn := fun _ => fun
  | [d1, d2, d3] => { results := [.lit (.bool true)], args := [d1, d2, d3] }
  | _ => none }
def scoreGrowsRow : OpenClaim := { program := "yticmnmdokoonjaa", sum := "66fe0decd4b0f230df074d567255c70b9ec50863397b610a31e71a2f564e3eeb", func := "staddle/staddlelaw18.ScoreGrows", spec := "scoreGrows", inPlace := ["internal/bytealg.abigen_runtime_cmpstring", "slices.overlaps[staddle/api.File]"], unfollowed := true, recurses := true, apart := false }
def ScoreGrowsSaid : Prop := scoreGrowsRow.holds Try.pinned (OpenSpec.ofChange scoreGrowsSpec)

/-- ITS FALSE NEIGHBOUR: 'it returns false'. Refute it at one input. -/
def scoreGrowsWrong : ChangeSpec := { name := "scoreGrows", fn := fun _ => fun
  | [d1, d2, d3] => { results := [.lit (.bool false)], args := [d1, d2, d3] }
  | _ => none }
def ScoreGrowsWrongFalsely : Prop := scoreGrowsRow.holds Try.pinned (OpenSpec.ofChange scoreGrowsWrong)

/-- 'staddlelaw18.ScoreLeaves': WHATEVER THE INPUT: true; the input reads as it did. -/
def scoreLeavesSpec : ChangeSpec := { name := "scoreLeaves", fn := fun _ => fun
  | [d1, d2, d3] => { results := [.lit (.bool true)], args := [d1, d2, d3] }
  | _ => none }
def scoreLeavesRow : OpenClaim := { program := "yticmnmdokoonjaa", sum := "66fe0decd4b0f230df074d567255c70b9ec50863397b610a31e71a2f564e3eeb", func := "staddle/staddlelaw18.ScoreLeaves", spec := "scoreLeaves", inPlace := ["internal/bytealg.abigen_runtime_cmpstring", "slices.overlaps[staddle/api.File]"], unfollowed := true, recurses := true, apart := false }
def ScoreLeavesSaid : Prop := scoreLeavesRow.holds Try.pinned (OpenSpec.ofChange scoreLeavesSpec)

/-- ITS FALSE NEIGHBOUR: 'it returns false'. Refute it at one input. -/
def scoreLeavesWrong : ChangeSpec := { name := "scoreLeaves", fn := fun _ => fun
  | [d1, d2, d3] => { results := [.lit (.bool false)], args := [d1, d2, d3] }
  | _ => none }
def ScoreLeavesWrongFalsely : Prop := scoreLeavesRow.holds Try.pinned (OpenSpec.ofChange scoreLeavesWrong)

/-- 'staddlelaw07.SkipNames': WHATEVER THE INPUT: true; the input reads as it did. -/
def skipNamesSpec : ChangeSpec := { name := "skipNames", fn := fun _ => fun
  | [] => { results := [.lit (.bool true)], args := [] }
  | _ => none }
def skipNamesRow : OpenClaim := { program := "yticmnmdokoonjaa", sum := "66fe0decd4b0f230df074d567255c70b9ec50863397b610a31e71a2f564e3eeb", func := "staddle/staddlelaw07.SkipNames", spec := "skipNames", unfollowed := true, recurses := true, apart := false }
def SkipNamesSaid : Prop := skipNamesRow.holds Try.pinned (OpenSpec.ofChange skipNamesSpec)

/-- ITS FALSE NEIGHBOUR: 'it returns false'. Refute it at one input. -/
def skipNamesWrong : ChangeSpec := { name := "skipNames", fn := fun _ => fun
  | [] => { results := [.lit (.bool false)], args := [] }
  | _ => none }
def SkipNamesWrongFalsely : Prop := skipNamesRow.holds Try.pinned (OpenSpec.ofChange skipNamesWrong)

/-- 'staddlelaw07.SkipTurns': WHATEVER THE INPUT: true; the input reads as it did. -/
def skipTurnsSpec : ChangeSpec := { name := "skipTurns", fn := fun _ => fun
  | [d1, d2] => { results := [.lit (.bool true)], args := [d1, d2] }
  | _ => none }
def skipTurnsRow : OpenClaim := { program := "yticmnmdokoonjaa", sum := "66fe0decd4b0f230df074d567255c70b9ec50863397b610a31e71a2f564e3eeb", func := "staddle/staddlelaw07.SkipTurns", spec := "skipTurns", unfollowed := true, recurses := true, apart := false }
def SkipTurnsSaid : Prop := skipTurnsRow.holds Try.pinned (OpenSpec.ofChange skipTurnsSpec)

/-- ITS FALSE NEIGHBOUR: 'it returns false'. Refute it at one input. -/
def skipTurnsWrong : ChangeSpec := { name := "skipTurns", fn := fun _ => fun
  | [d1, d2] => { results := [.lit (.bool false)], args := [d1, d2] }
  | _ => none }
def SkipTurnsWrongFalsely : Prop := skipTurnsRow.holds Try.pinned (OpenSpec.ofChange skipTurnsWrong)

/-- 'staddlelaw07.SkipSolo': WHATEVER THE INPUT: true; the input reads as it did. -/
def skipSoloSpec : ChangeSpec := { name := "skipSolo", fn := fun _ => fun
  | [d1, d2] => { results := [.lit (.bool true)], args := [d1, d2] }
  | _ => none }
def skipSoloRow : OpenClaim := { program := "yticmnmdokoonjaa", sum := "66fe0decd4b0f230df074d567255c70b9ec50863397b610a31e71a2f564e3eeb", func := "staddle/staddlelaw07.SkipSolo", spec := "skipSolo", unfollowed := true, recurses := true, apart := false }
def SkipSoloSaid : Prop := skipSoloRow.holds Try.pinned (OpenSpec.ofChange skipSoloSpec)

/-- ITS FALSE NEIGHBOUR: 'it returns false'. Refute it at one input. -/
def skipSoloWrong : ChangeSpec := { name := "skipSolo", fn := fun _ => fun
  | [d1, d2] => { results := [.lit (.bool false)], args := [d1, d2] }
  | _ => none }
def SkipSoloWrongFalsely : Prop := skipSoloRow.holds Try.pinned (OpenSpec.ofChange skipSoloWrong)

/-- 'staddlelaw07.SkipRefuses': WHATEVER THE INPUT: true; the input reads as it did. -/
def skipRefusesSpec : ChangeSpec := { name := "skipRefuses", fn := fun _ => fun
  | [d1, d2, d3] => { results := [.lit (.bool true)], args := [d1, d2, d3] }
  | _ => none }
def skipRefusesRow : OpenClaim := { program := "yticmnmdokoonjaa", sum := "66fe0decd4b0f230df074d567255c70b9ec50863397b610a31e71a2f564e3eeb", func := "staddle/staddlelaw07.SkipRefuses", spec := "skipRefuses", unfollowed := true, recurses := true, apart := false }
def SkipRefusesSaid : Prop := skipRefusesRow.holds Try.pinned (OpenSpec.ofChange skipRefusesSpec)

/-- ITS FALSE NEIGHBOUR: 'it returns false'. Refute it at one input. -/
def skipRefusesWrong : ChangeSpec := { name := "skipRefuses", fn := fun _ => fun
  | [d1, d2, d3] => { results := [.lit (.bool false)], args := [d1, d2, d3] }
  | _ => none }
def SkipRefusesWrongFalsely : Prop := skipRefusesRow.holds Try.pinned (OpenSpec.ofChange skipRefusesWrong)

/-- 'staddlelaw07.SkipLevels': WHATEVER THE INPUT: true; the input reads as it did. -/
def skipLevelsSpec : ChangeSpec := { name := "skipLevels", fn := fun _ => fun
  | [d1, d2] => { results := [.lit (.bool true)], args := [d1, d2] }
  | _ => none }
def skipLevelsRow : OpenClaim := { program := "yticmnmdokoonjaa", sum := "66fe0decd4b0f230df074d567255c70b9ec50863397b610a31e71a2f564e3eeb", func := "staddle/staddlelaw07.SkipLevels", spec := "skipLevels", unfollowed := true, recurses := true, apart := false }
def SkipLevelsSaid : Prop := skipLevelsRow.holds Try.pinned (OpenSpec.ofChange skipLevelsSpec)

/-- ITS FALSE NEIGHBOUR: 'it returns false'. Refute it at one input. -/
def skipLevelsWrong : ChangeSpec := { name := "skipLevels", fn := fun _ => fun
  | [d1, d2] => { results := [.lit (.bool false)], args := [d1, d2] }
  | _ => none }
def SkipLevelsWrongFalsely : Prop := skipLevelsRow.holds Try.pinned (OpenSpec.ofChange skipLevelsWrong)

/-- 'staddlelaw07.SkipSeeks': WHATEVER THE INPUT: true; the input reads as it did. -/
def skipSeeksSpec : ChangeSpec := { name := "skipSeeks", fn := fun _ => fun
  | [d1, d2, d3] => { results := [.lit (.bool true)], args := [d1, d2, d3] }
  | _ => none }
def skipSeeksRow : OpenClaim := { program := "yticmnmdokoonjaa", sum := "66fe0decd4b0f230df074d567255c70b9ec50863397b610a31e71a2f564e3eeb", func := "staddle/staddlelaw07.SkipSeeks", spec := "skipSeeks", unfollowed := true, recurses := true, apart := false }
def SkipSeeksSaid : Prop := skipSeeksRow.holds Try.pinned (OpenSpec.ofChange skipSeeksSpec)

/-- ITS FALSE NEIGHBOUR: 'it returns false'. Refute it at one input. -/
def skipSeeksWrong : ChangeSpec := { name := "skipSeeks", fn := fun _ => fun
  | [d1, d2, d3] => { results := [.lit (.bool false)], args := [d1, d2, d3] }
  | _ => none }
def SkipSeeksWrongFalsely : Prop := skipSeeksRow.holds Try.pinned (OpenSpec.ofChange skipSeeksWrong)

/- THE SECOND FORM. 'bulk': how many values and letters a reading holds, each counted each time it is reached (what is shared counts as often as it is met; a slice's spare places count too). A statement '..UptoSaid' is the law's where the arguments, and the package variables that the reading takes, are together of bulk at most 1048576: NARROWER than '..Said'. Prove '..Said' where nothing that the law and all that it calls make is longer than what came in: it says more and counts as full. Else prove '..UptoSaid'. A law counts once. -/
mutual
def uptoBulk {H : Type} : DataW H → Nat
  | .lit (.string bytes) => bytes.length + 1
  | .lit _ => 1
  | .nil => 1
  | .ptr d => uptoBulk d + 1
  | .slice elems spare => uptoBulkAll elems + uptoBulkAll spare + 1
  | .agg parts => uptoBulkAll parts + 1
  | .iface _ d => uptoBulk d + 1
  | .map entries => uptoBulkEntries entries + 1
  | .held _ => 1
def uptoBulkAll {H : Type} : List (DataW H) → Nat
  | [] => 0
  | d :: r => uptoBulk d + uptoBulkAll r
def uptoBulkEntries {H : Type} : List (Lit × DataW H) → Nat
  | [] => 0
  | x :: r => uptoBulkEntry x + uptoBulkEntries r
def uptoBulkEntry {H : Type} : Lit × DataW H → Nat
  | (.string bytes, d) => bytes.length + uptoBulk d + 1
  | (_, d) => uptoBulk d + 1
 end
def uptoSmall : (H : Type) → List (DataW H) → Bool := fun _ ds => decide (uptoBulkAll ds ≤ 1048576)
def OpenSpec.upto (s : _root_.Go.ChangeSpec) : _root_.Go.OpenSpec := { _root_.Go.OpenSpec.ofChange s with cond := some uptoSmall }

/-- 'staddlelaw18.ScoreOrders', WHERE WHAT IT READS IS OF BULK AT MOST 1048576: true; the input reads as it did. -/
def scoreOrdersUptoRow : OpenClaim := { program := "yticmnmdokoonjaa", sum := "66fe0decd4b0f230df074d567255c70b9ec50863397b610a31e71a2f564e3eeb", func := "staddle/staddlelaw18.ScoreOrders", spec := "scoreOrders", apart := false, narrowed := true }
def ScoreOrdersUptoSaid : Prop := scoreOrdersUptoRow.holds Try.pinned (OpenSpec.upto scoreOrdersSpec)

/-- 'staddlelaw18.ScorePicks', WHERE WHAT IT READS IS OF BULK AT MOST 1048576: true; the input reads as it did. -/
def scorePicksUptoRow : OpenClaim := { program := "yticmnmdokoonjaa", sum := "66fe0decd4b0f230df074d567255c70b9ec50863397b610a31e71a2f564e3eeb", func := "staddle/staddlelaw18.ScorePicks", spec := "scorePicks", apart := false, narrowed := true }
def ScorePicksUptoSaid : Prop := scorePicksUptoRow.holds Try.pinned (OpenSpec.upto scorePicksSpec)

/-- 'staddlelaw18.ScoreTells', WHERE WHAT IT READS IS OF BULK AT MOST 1048576: true; the input reads as it did. -/
def scoreTellsUptoRow : OpenClaim := { program := "yticmnmdokoonjaa", sum := "66fe0decd4b0f230df074d567255c70b9ec50863397b610a31e71a2f564e3eeb", func := "staddle/staddlelaw18.ScoreTells", spec := "scoreTells", apart := false, narrowed := true }
def ScoreTellsUptoSaid : Prop := scoreTellsUptoRow.holds Try.pinned (OpenSpec.upto scoreTellsSpec)

/-- 'staddlelaw18.ScoreInputs', WHERE WHAT IT READS IS OF BULK AT MOST 1048576: true; the input reads as it did. -/
def scoreInputsUptoRow : OpenClaim := { program := "yticmnmdokoonjaa", sum := "66fe0decd4b0f230df074d567255c70b9ec50863397b610a31e71a2f564e3eeb", func := "staddle/staddlelaw18.ScoreInputs", spec := "scoreInputs", apart := false, narrowed := true }
def ScoreInputsUptoSaid : Prop := scoreInputsUptoRow.holds Try.pinned (OpenSpec.upto scoreInputsSpec)

/-- 'staddlelaw18.ScoreGrows', WHERE WHAT IT READS IS OF BULK AT MOST 1048576: true; the input reads as it did. -/
def scoreGrowsUptoRow : OpenClaim := { program := "yticmnmdokoonjaa", sum := "66fe0decd4b0f230df074d567255c70b9ec50863397b610a31e71a2f564e3eeb", func := "staddle/staddlelaw18.ScoreGrows", spec := "scoreGrows", inPlace := ["internal/bytealg.abigen_runtime_cmpstring", "slices.overlaps[staddle/api.File]"], unfollowed := true, recurses := true, apart := false, narrowed := true }
def ScoreGrowsUptoSaid : Prop := scoreGrowsUptoRow.holds Try.pinned (OpenSpec.upto scoreGrowsSpec)

/-- 'staddlelaw18.ScoreLeaves', WHERE WHAT IT READS IS OF BULK AT MOST 1048576: true; the input reads as it did. -/
def scoreLeavesUptoRow : OpenClaim := { program := "yticmnmdokoonjaa", sum := "66fe0decd4b0f230df074d567255c70b9ec50863397b610a31e71a2f564e3eeb", func := "staddle/staddlelaw18.ScoreLeaves", spec := "scoreLeaves", inPlace := ["internal/bytealg.abigen_runtime_cmpstring", "slices.overlaps[staddle/api.File]"], unfollowed := true, recurses := true, apart := false, narrowed := true }
def ScoreLeavesUptoSaid : Prop := scoreLeavesUptoRow.holds Try.pinned (OpenSpec.upto scoreLeavesSpec)

/-- 'staddlelaw07.SkipNames', WHERE WHAT IT READS IS OF BULK AT MOST 1048576: true; the input reads as it did. -/
def skipNamesUptoRow : OpenClaim := { program := "yticmnmdokoonjaa", sum := "66fe0decd4b0f230df074d567255c70b9ec50863397b610a31e71a2f564e3eeb", func := "staddle/staddlelaw07.SkipNames", spec := "skipNames", unfollowed := true, recurses := true, apart := false, narrowed := true }
def SkipNamesUptoSaid : Prop := skipNamesUptoRow.holds Try.pinned (OpenSpec.upto skipNamesSpec)

/-- 'staddlelaw07.SkipTurns', WHERE WHAT IT READS IS OF BULK AT MOST 1048576: true; the input reads as it did. -/
def skipTurnsUptoRow : OpenClaim := { program := "yticmnmdokoonjaa", sum := "66fe0decd4b0f230df074d567255c70b9ec50863397b610a31e71a2f564e3eeb", func := "staddle/staddlelaw07.SkipTurns", spec := "skipTurns", unfollowed := true, recurses := true, apart := false, narrowed := true }
def SkipTurnsUptoSaid : Prop := skipTurnsUptoRow.holds Try.pinned (OpenSpec.upto skipTurnsSpec)

/-- 'staddlelaw07.SkipSolo', WHERE WHAT IT READS IS OF BULK AT MOST 1048576: true; the input reads as it did. -/
def skipSoloUptoRow : OpenClaim := { program := "yticmnmdokoonjaa", sum := "66fe0decd4b0f230df074d567255c70b9ec50863397b610a31e71a2f564e3eeb", func := "staddle/staddlelaw07.SkipSolo", spec := "skipSolo", unfollowed := true, recurses := true, apart := false, narrowed := true }
def SkipSoloUptoSaid : Prop := skipSoloUptoRow.holds Try.pinned (OpenSpec.upto skipSoloSpec)

/-- 'staddlelaw07.SkipRefuses', WHERE WHAT IT READS IS OF BULK AT MOST 1048576: true; the input reads as it did. -/
def skipRefusesUptoRow : OpenClaim := { program := "yticmnmdokoonjaa", sum := "66fe0decd4b0f230df074d567255c70b9ec50863397b610a31e71a2f564e3eeb", func := "staddle/staddlelaw07.SkipRefuses", spec := "skipRefuses", unfollowed := true, recurses := true, apart := false, narrowed := true }
def SkipRefusesUptoSaid : Prop := skipRefusesUptoRow.holds Try.pinned (OpenSpec.upto skipRefusesSpec)

/-- 'staddlelaw07.SkipLevels', WHERE WHAT IT READS IS OF BULK AT MOST 1048576: true; the input reads as it did. -/
def skipLevelsUptoRow : OpenClaim := { program := "yticmnmdokoonjaa", sum := "66fe0decd4b0f230df074d567255c70b9ec50863397b610a31e71a2f564e3eeb", func := "staddle/staddlelaw07.SkipLevels", spec := "skipLevels", unfollowed := true, recurses := true, apart := false, narrowed := true }
def SkipLevelsUptoSaid : Prop := skipLevelsUptoRow.holds Try.pinned (OpenSpec.upto skipLevelsSpec)

/-- 'staddlelaw07.SkipSeeks', WHERE WHAT IT READS IS OF BULK AT MOST 1048576: true; the input reads as it did. -/
def skipSeeksUptoRow : OpenClaim := { program := "yticmnmdokoonjaa", sum := "66fe0decd4b0f230df074d567255c70b9ec50863397b610a31e71a2f564e3eeb", func := "staddle/staddlelaw07.SkipSeeks", spec := "skipSeeks", unfollowed := true, recurses := true, apart := false, narrowed := true }
def SkipSeeksUptoSaid : Prop := skipSeeksUptoRow.holds Try.pinned (OpenSpec.upto skipSeeksSpec)

end Rows
end Go.Proofs.Yticmnmdokoonjaa
