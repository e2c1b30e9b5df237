/-
  No cell of these rows narrows 'for every input' (looked for: loops, veiled, ifaces, maps, wideKeys, modest, calm, conditions, laid).
  DERIVED. THE GIVEN ROWS OF THIS SEAT. 7 by the template 'for every input the law returns true; each argument reads behind the call as it read before'; 0 by the template 'total and deterministic' (their statements: YtcjenchkcbnphaaTotals.lean).
  GIVEN WITH THE SEED: the statements are not yours to turn. If you find one false, say at which input.
  Laid BY PROGRAM, IN A SANDBOX (cutbox-rows.mjs): the forced cells as the released guide's own fill.sh prints them over the translation 835145f4bfb837c0… (all of the seat's roots in one cut). By AI agents, Wed Nov 11 2026. No macro, syntax, notation, axiom, sorry.
-/
import Derived.Test.YtcjenchkcbnphaaChecked
import GoSem.Claim
import GoSem.ClaimJoined
import GoSem.ClaimMapViews
import Derived.JoinedTies
import Derived.KernelRfl
namespace Go.Proofs.Ytcjenchkcbnphaa
/- THE CELL 'sum', in the pinned program and in every row, IS THE sha256 OF THE DUMP (.gsa) THAT YtcjenchkcbnphaaProg.lean LOADS. Nothing in Lean hashes anything: it is a label: what it is worth is what the hold of that sum in a sandbox is worth. -/
noncomputable def Try.pinned : Pinned := { name := "ytcjenchkcbnphaa", sum := "835145f4bfb837c0a2116b435b740d9078455c1f93080bd526ecf8578e68aa6d", checked := Try.checked }
namespace Rows
def none {H : Type} : Left H := { results := [], args := [] }

/-- 'theseuslaw15.GraphAll': WHATEVER THE INPUT: true; the input reads as it did. -/
def graphAllSpec : ChangeSpec := { name := "graphAll", fn := fun _ => fun
  | [d] => { results := [.lit (.bool true)], args := [d] }
  | _ => none }
def graphAllRow : OpenClaim := { program := "ytcjenchkcbnphaa", sum := "835145f4bfb837c0a2116b435b740d9078455c1f93080bd526ecf8578e68aa6d", func := "theseus/theseuslaw15.GraphAll", spec := "graphAll", apart := false }
def GraphAllSaid : Prop := graphAllRow.holds Try.pinned (OpenSpec.ofChange graphAllSpec)

/-- ITS FALSE NEIGHBOUR: 'it returns false'. Refute it at one input. -/
def graphAllWrong : ChangeSpec := { name := "graphAll", fn := fun _ => fun
  | [d] => { results := [.lit (.bool false)], args := [d] }
  | _ => none }
def GraphAllWrongFalsely : Prop := graphAllRow.holds Try.pinned (OpenSpec.ofChange graphAllWrong)

/-- 'theseuslaw15.GraphRanks': WHATEVER THE INPUT: true; the input reads as it did. -/
def graphRanksSpec : ChangeSpec := { name := "graphRanks", fn := fun _ => fun
  | [d] => { results := [.lit (.bool true)], args := [d] }
  | _ => none }
def graphRanksRow : OpenClaim := { program := "ytcjenchkcbnphaa", sum := "835145f4bfb837c0a2116b435b740d9078455c1f93080bd526ecf8578e68aa6d", func := "theseus/theseuslaw15.GraphRanks", spec := "graphRanks", apart := false }
def GraphRanksSaid : Prop := graphRanksRow.holds Try.pinned (OpenSpec.ofChange graphRanksSpec)

/-- ITS FALSE NEIGHBOUR: 'it returns false'. Refute it at one input. -/
def graphRanksWrong : ChangeSpec := { name := "graphRanks", fn := fun _ => fun
  | [d] => { results := [.lit (.bool false)], args := [d] }
  | _ => none }
def GraphRanksWrongFalsely : Prop := graphRanksRow.holds Try.pinned (OpenSpec.ofChange graphRanksWrong)

/-- 'theseuslaw15.GraphRing': WHATEVER THE INPUT: true; the input reads as it did. -/
def graphRingSpec : ChangeSpec := { name := "graphRing", fn := fun _ => fun
  | [d1, d2] => { results := [.lit (.bool true)], args := [d1, d2] }
  | _ => none }
def graphRingRow : OpenClaim := { program := "ytcjenchkcbnphaa", sum := "835145f4bfb837c0a2116b435b740d9078455c1f93080bd526ecf8578e68aa6d", func := "theseus/theseuslaw15.GraphRing", spec := "graphRing", apart := false }
def GraphRingSaid : Prop := graphRingRow.holds Try.pinned (OpenSpec.ofChange graphRingSpec)

/-- ITS FALSE NEIGHBOUR: 'it returns false'. Refute it at one input. -/
def graphRingWrong : ChangeSpec := { name := "graphRing", fn := fun _ => fun
  | [d1, d2] => { results := [.lit (.bool false)], args := [d1, d2] }
  | _ => none }
def GraphRingWrongFalsely : Prop := graphRingRow.holds Try.pinned (OpenSpec.ofChange graphRingWrong)

/-- 'theseuslaw15.GraphLong': WHATEVER THE INPUT: true; the input reads as it did. -/
def graphLongSpec : ChangeSpec := { name := "graphLong", fn := fun _ => fun
  | [d] => { results := [.lit (.bool true)], args := [d] }
  | _ => none }
def graphLongRow : OpenClaim := { program := "ytcjenchkcbnphaa", sum := "835145f4bfb837c0a2116b435b740d9078455c1f93080bd526ecf8578e68aa6d", func := "theseus/theseuslaw15.GraphLong", spec := "graphLong", apart := false }
def GraphLongSaid : Prop := graphLongRow.holds Try.pinned (OpenSpec.ofChange graphLongSpec)

/-- ITS FALSE NEIGHBOUR: 'it returns false'. Refute it at one input. -/
def graphLongWrong : ChangeSpec := { name := "graphLong", fn := fun _ => fun
  | [d] => { results := [.lit (.bool false)], args := [d] }
  | _ => none }
def GraphLongWrongFalsely : Prop := graphLongRow.holds Try.pinned (OpenSpec.ofChange graphLongWrong)

/-- 'theseuslaw15.GraphSplit': WHATEVER THE INPUT: true; the input reads as it did. -/
def graphSplitSpec : ChangeSpec := { name := "graphSplit", fn := fun _ => fun
  | [d1, d2] => { results := [.lit (.bool true)], args := [d1, d2] }
  | _ => none }
def graphSplitRow : OpenClaim := { program := "ytcjenchkcbnphaa", sum := "835145f4bfb837c0a2116b435b740d9078455c1f93080bd526ecf8578e68aa6d", func := "theseus/theseuslaw15.GraphSplit", spec := "graphSplit", apart := false }
def GraphSplitSaid : Prop := graphSplitRow.holds Try.pinned (OpenSpec.ofChange graphSplitSpec)

/-- ITS FALSE NEIGHBOUR: 'it returns false'. Refute it at one input. -/
def graphSplitWrong : ChangeSpec := { name := "graphSplit", fn := fun _ => fun
  | [d1, d2] => { results := [.lit (.bool false)], args := [d1, d2] }
  | _ => none }
def GraphSplitWrongFalsely : Prop := graphSplitRow.holds Try.pinned (OpenSpec.ofChange graphSplitWrong)

/-- 'theseuslaw15.GraphRenamed': WHATEVER THE INPUT: true; the input reads as it did. -/
def graphRenamedSpec : ChangeSpec := { name := "graphRenamed", fn := fun _ => fun
  | [d] => { results := [.lit (.bool true)], args := [d] }
  | _ => none }
def graphRenamedRow : OpenClaim := { program := "ytcjenchkcbnphaa", sum := "835145f4bfb837c0a2116b435b740d9078455c1f93080bd526ecf8578e68aa6d", func := "theseus/theseuslaw15.GraphRenamed", spec := "graphRenamed", apart := false }
def GraphRenamedSaid : Prop := graphRenamedRow.holds Try.pinned (OpenSpec.ofChange graphRenamedSpec)

/-- ITS FALSE NEIGHBOUR: 'it returns false'. Refute it at one input. -/
def graphRenamedWrong : ChangeSpec := { name := "graphRenamed", fn := fun _ => fun
  | [d] => { results := [.lit (.bool false)], args := [d] }
  | _ => none }
def GraphRenamedWrongFalsely : Prop := graphRenamedRow.holds Try.pinned (OpenSpec.ofChange graphRenamedWrong)

/-- 'theseuslaw15.GraphEnds': WHATEVER THE INPUT: true; the input reads as it did. -/
def graphEndsSpec : ChangeSpec := { name := "graphEnds", fn := fun _ => fun
  | [d] => { results := [.lit (.bool true)], args := [d] }
  | _ => none }
def graphEndsRow : OpenClaim := { program := "ytcjenchkcbnphaa", sum := "835145f4bfb837c0a2116b435b740d9078455c1f93080bd526ecf8578e68aa6d", func := "theseus/theseuslaw15.GraphEnds", spec := "graphEnds", apart := false }
def GraphEndsSaid : Prop := graphEndsRow.holds Try.pinned (OpenSpec.ofChange graphEndsSpec)

/-- ITS FALSE NEIGHBOUR: 'it returns false'. Refute it at one input. -/
def graphEndsWrong : ChangeSpec := { name := "graphEnds", fn := fun _ => fun
  | [d] => { results := [.lit (.bool false)], args := [d] }
  | _ => none }
def GraphEndsWrongFalsely : Prop := graphEndsRow.holds Try.pinned (OpenSpec.ofChange graphEndsWrong)

/- THE SECOND FORM. 'bulk': how many values and letters a reading holds, each counted each time it is reached (what is shared counts as often as it is met; a slice's spare places count too). A statement '..UptoSaid' is the law's where the arguments, and the package variables that the reading takes, are together of bulk at most 1048576: NARROWER than '..Said'. Prove '..Said' where nothing that the law and all that it calls make is longer than what came in: it says more and counts as full. Else prove '..UptoSaid'. A law counts once. -/
mutual
def uptoBulk {H : Type} : DataW H → Nat
  | .lit (.string bytes) => bytes.length + 1
  | .lit _ => 1
  | .nil => 1
  | .ptr d => uptoBulk d + 1
  | .slice elems spare => uptoBulkAll elems + uptoBulkAll spare + 1
  | .agg parts => uptoBulkAll parts + 1
  | .iface _ d => uptoBulk d + 1
  | .map entries => uptoBulkEntries entries + 1
  | .held _ => 1
def uptoBulkAll {H : Type} : List (DataW H) → Nat
  | [] => 0
  | d :: r => uptoBulk d + uptoBulkAll r
def uptoBulkEntries {H : Type} : List (Lit × DataW H) → Nat
  | [] => 0
  | x :: r => uptoBulkEntry x + uptoBulkEntries r
def uptoBulkEntry {H : Type} : Lit × DataW H → Nat
  | (.string bytes, d) => bytes.length + uptoBulk d + 1
  | (_, d) => uptoBulk d + 1
 end
def uptoSmall : (H : Type) → List (DataW H) → Bool := fun _ ds => decide (uptoBulkAll ds ≤ 1048576)
def OpenSpec.upto (s : _root_.Go.ChangeSpec) : _root_.Go.OpenSpec := { _root_.Go.OpenSpec.ofChange s with cond := some uptoSmall }

/-- 'theseuslaw15.GraphAll', WHERE WHAT IT READS IS OF BULK AT MOST 1048576: true; the input reads as it did. -/
def graphAllUptoRow : OpenClaim := { program := "ytcjenchkcbnphaa", sum := "835145f4bfb837c0a2116b435b740d9078455c1f93080bd526ecf8578e68aa6d", func := "theseus/theseuslaw15.GraphAll", spec := "graphAll", apart := false, narrowed := true }
def GraphAllUptoSaid : Prop := graphAllUptoRow.holds Try.pinned (OpenSpec.upto graphAllSpec)

/-- 'theseuslaw15.GraphRanks', WHERE WHAT IT READS IS OF BULK AT MOST 1048576: true; the input reads as it did. -/
def graphRanksUptoRow : OpenClaim := { program := "ytcjenchkcbnphaa", sum := "835145f4bfb837c0a2116b435b740d9078455c1f93080bd526ecf8578e68aa6d", func := "theseus/theseuslaw15.GraphRanks", spec := "graphRanks", apart := false, narrowed := true }
def GraphRanksUptoSaid : Prop := graphRanksUptoRow.holds Try.pinned (OpenSpec.upto graphRanksSpec)

/-- 'theseuslaw15.GraphRing', WHERE WHAT IT READS IS OF BULK AT MOST 1048576: true; the input reads as it did. -/
def graphRingUptoRow : OpenClaim := { program := "ytcjenchkcbnphaa", sum := "835145f4bfb837c0a2116b435b740d9078455c1f93080bd526ecf8578e68aa6d", func := "theseus/theseuslaw15.GraphRing", spec := "graphRing", apart := false, narrowed := true }
def GraphRingUptoSaid : Prop := graphRingUptoRow.holds Try.pinned (OpenSpec.upto graphRingSpec)

/-- 'theseuslaw15.GraphLong', WHERE WHAT IT READS IS OF BULK AT MOST 1048576: true; the input reads as it did. -/
def graphLongUptoRow : OpenClaim := { program := "ytcjenchkcbnphaa", sum := "835145f4bfb837c0a2116b435b740d9078455c1f93080bd526ecf8578e68aa6d", func := "theseus/theseuslaw15.GraphLong", spec := "graphLong", apart := false, narrowed := true }
def GraphLongUptoSaid : Prop := graphLongUptoRow.holds Try.pinned (OpenSpec.upto graphLongSpec)

/-- 'theseuslaw15.GraphSplit', WHERE WHAT IT READS IS OF BULK AT MOST 1048576: true; the input reads as it did. -/
def graphSplitUptoRow : OpenClaim := { program := "ytcjenchkcbnphaa", sum := "835145f4bfb837c0a2116b435b740d9078455c1f93080bd526ecf8578e68aa6d", func := "theseus/theseuslaw15.GraphSplit", spec := "graphSplit", apart := false, narrowed := true }
def GraphSplitUptoSaid : Prop := graphSplitUptoRow.holds Try.pinned (OpenSpec.upto graphSplitSpec)

/-- 'theseuslaw15.GraphRenamed', WHERE WHAT IT READS IS OF BULK AT MOST 1048576: true; the input reads as it did. -/
def graphRenamedUptoRow : OpenClaim := { program := "ytcjenchkcbnphaa", sum := "835145f4bfb837c0a2116b435b740d9078455c1f93080bd526ecf8578e68aa6d", func := "theseus/theseuslaw15.GraphRenamed", spec := "graphRenamed", apart := false, narrowed := true }
def GraphRenamedUptoSaid : Prop := graphRenamedUptoRow.holds Try.pinned (OpenSpec.upto graphRenamedSpec)

/-- 'theseuslaw15.GraphEnds', WHERE WHAT IT READS IS OF BULK AT MOST 1048576: true; the input reads as it did. -/
def graphEndsUptoRow : OpenClaim := { program := "ytcjenchkcbnphaa", sum := "835145f4bfb837c0a2116b435b740d9078455c1f93080bd526ecf8578e68aa6d", func := "theseus/theseuslaw15.GraphEnds", spec := "graphEnds", apart := false, narrowed := true }
def GraphEndsUptoSaid : Prop := graphEndsUptoRow.holds Try.pinned (OpenSpec.upto graphEndsSpec)

end Rows
end Go.Proofs.Ytcjenchkcbnphaa
