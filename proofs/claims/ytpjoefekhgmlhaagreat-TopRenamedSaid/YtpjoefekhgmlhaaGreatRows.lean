/-
  No cell of these rows narrows 'for every input' (looked for: loops, veiled, ifaces, maps, wideKeys, modest, calm, conditions, laid).
  DERIVED. THE GIVEN ROWS OF THIS SEAT. 3 by the template 'for every input the law returns true; each argument reads behind the call as it read before'; 0 by the template 'total and deterministic' (their statements: YtpjoefekhgmlhaaGreatTotals.lean).
  GIVEN WITH THE SEED: the statements are not yours to turn. If you find one false, say at which input.
  Laid BY PROGRAM, IN A SANDBOX (cutbox-rows.mjs): the forced cells as the released guide's own fill.sh prints them over the translation 46bc9872b58710eb… (all of the seat's roots in one cut). By AI agents, Wed Nov 11 2026. No macro, syntax, notation, axiom, sorry.
-/
import Derived.Test.YtpjoefekhgmlhaaGreatChecked
import GoSem.Claim
import GoSem.ClaimJoined
import GoSem.ClaimMapViews
import Derived.JoinedTies
import Derived.KernelRfl
namespace Go.Proofs.YtpjoefekhgmlhaaGreat
/- THE CELL 'sum', in the pinned program and in every row, IS THE sha256 OF THE DUMP (.gsa) THAT YtpjoefekhgmlhaaGreatProg.lean LOADS. Nothing in Lean hashes anything: it is a label: what it is worth is what the hold of that sum in a sandbox is worth. -/
noncomputable def Tryz.pinned : Pinned := { name := "ytpjoefekhgmlhaagreat", sum := "46bc9872b58710ebf713c93f51f2ed2367341108e7dbda4b96b84566ed7f486d", checked := Tryz.checked }
namespace Rows
def none {H : Type} : Left H := { results := [], args := [] }

/-- 'theseustop.TopSwaps': WHATEVER THE INPUT: true; the input reads as it did. -/
def topSwapsSpec : ChangeSpec := { name := "topSwaps", fn := fun _ => fun
  | [d1, d2, d3] => { results := [.lit (.bool true)], args := [d1, d2, d3] }
  | _ => none }
def topSwapsRow : OpenClaim := { program := "ytpjoefekhgmlhaagreat", sum := "46bc9872b58710ebf713c93f51f2ed2367341108e7dbda4b96b84566ed7f486d", func := "theseus/theseustop.TopSwaps", spec := "topSwaps", unfollowed := true, recurses := true, apart := false }
def TopSwapsSaid : Prop := topSwapsRow.holds Tryz.pinned (OpenSpec.ofChange topSwapsSpec)

/-- ITS FALSE NEIGHBOUR: 'it returns false'. Refute it at one input. -/
def topSwapsWrong : ChangeSpec := { name := "topSwaps", fn := fun _ => fun
  | [d1, d2, d3] => { results := [.lit (.bool false)], args := [d1, d2, d3] }
  | _ => none }
def TopSwapsWrongFalsely : Prop := topSwapsRow.holds Tryz.pinned (OpenSpec.ofChange topSwapsWrong)

/-- 'theseustop.TopRing': WHATEVER THE INPUT: true; the input reads as it did. -/
def topRingSpec : ChangeSpec := { name := "topRing", fn := fun _ => fun
  | [d1, d2] => { results := [.lit (.bool true)], args := [d1, d2] }
  | _ => none }
def topRingRow : OpenClaim := { program := "ytpjoefekhgmlhaagreat", sum := "46bc9872b58710ebf713c93f51f2ed2367341108e7dbda4b96b84566ed7f486d", func := "theseus/theseustop.TopRing", spec := "topRing", unfollowed := true, recurses := true, apart := false }
def TopRingSaid : Prop := topRingRow.holds Tryz.pinned (OpenSpec.ofChange topRingSpec)

/-- ITS FALSE NEIGHBOUR: 'it returns false'. Refute it at one input. -/
def topRingWrong : ChangeSpec := { name := "topRing", fn := fun _ => fun
  | [d1, d2] => { results := [.lit (.bool false)], args := [d1, d2] }
  | _ => none }
def TopRingWrongFalsely : Prop := topRingRow.holds Tryz.pinned (OpenSpec.ofChange topRingWrong)

/-- 'theseustop.TopRenamed': WHATEVER THE INPUT: true; the input reads as it did. -/
def topRenamedSpec : ChangeSpec := { name := "topRenamed", fn := fun _ => fun
  | [d1, d2] => { results := [.lit (.bool true)], args := [d1, d2] }
  | _ => none }
def topRenamedRow : OpenClaim := { program := "ytpjoefekhgmlhaagreat", sum := "46bc9872b58710ebf713c93f51f2ed2367341108e7dbda4b96b84566ed7f486d", func := "theseus/theseustop.TopRenamed", spec := "topRenamed", unfollowed := true, recurses := true, apart := false }
def TopRenamedSaid : Prop := topRenamedRow.holds Tryz.pinned (OpenSpec.ofChange topRenamedSpec)

/-- ITS FALSE NEIGHBOUR: 'it returns false'. Refute it at one input. -/
def topRenamedWrong : ChangeSpec := { name := "topRenamed", fn := fun _ => fun
  | [d1, d2] => { results := [.lit (.bool false)], args := [d1, d2] }
  | _ => none }
def TopRenamedWrongFalsely : Prop := topRenamedRow.holds Tryz.pinned (OpenSpec.ofChange topRenamedWrong)

/- THE SECOND FORM. 'bulk': how many values and letters a reading holds, each counted each time it is reached (what is shared counts as often as it is met; a slice's spare places count too). A statement '..UptoSaid' is the law's where the arguments, and the package variables that the reading takes, are together of bulk at most 1048576: NARROWER than '..Said'. Prove '..Said' where nothing that the law and all that it calls make is longer than what came in: it says more and counts as full. Else prove '..UptoSaid'. A law counts once. -/
mutual
def uptoBulk {H : Type} : DataW H → Nat
  | .lit (.string bytes) => bytes.length + 1
  | .lit _ => 1
  | .nil => 1
  | .ptr d => uptoBulk d + 1
  | .slice elems spare => uptoBulkAll elems + uptoBulkAll spare + 1
  | .agg parts => uptoBulkAll parts + 1
  | .iface _ d => uptoBulk d + 1
  | .map entries => uptoBulkEntries entries + 1
  | .held _ => 1
def uptoBulkAll {H : Type} : List (DataW H) → Nat
  | [] => 0
  | d :: r => uptoBulk d + uptoBulkAll r
def uptoBulkEntries {H : Type} : List (Lit × DataW H) → Nat
  | [] => 0
  | x :: r => uptoBulkEntry x + uptoBulkEntries r
def uptoBulkEntry {H : Type} : Lit × DataW H → Nat
  | (.string bytes, d) => bytes.length + uptoBulk d + 1
  | (_, d) => uptoBulk d + 1
 end
def uptoSmall : (H : Type) → List (DataW H) → Bool := fun _ ds => decide (uptoBulkAll ds ≤ 1048576)
def OpenSpec.upto (s : _root_.Go.ChangeSpec) : _root_.Go.OpenSpec := { _root_.Go.OpenSpec.ofChange s with cond := some uptoSmall }

/-- 'theseustop.TopSwaps', WHERE WHAT IT READS IS OF BULK AT MOST 1048576: true; the input reads as it did. -/
def topSwapsUptoRow : OpenClaim := { program := "ytpjoefekhgmlhaagreat", sum := "46bc9872b58710ebf713c93f51f2ed2367341108e7dbda4b96b84566ed7f486d", func := "theseus/theseustop.TopSwaps", spec := "topSwaps", unfollowed := true, recurses := true, apart := false, narrowed := true }
def TopSwapsUptoSaid : Prop := topSwapsUptoRow.holds Tryz.pinned (OpenSpec.upto topSwapsSpec)

/-- 'theseustop.TopRing', WHERE WHAT IT READS IS OF BULK AT MOST 1048576: true; the input reads as it did. -/
def topRingUptoRow : OpenClaim := { program := "ytpjoefekhgmlhaagreat", sum := "46bc9872b58710ebf713c93f51f2ed2367341108e7dbda4b96b84566ed7f486d", func := "theseus/theseustop.TopRing", spec := "topRing", unfollowed := true, recurses := true, apart := false, narrowed := true }
def TopRingUptoSaid : Prop := topRingUptoRow.holds Tryz.pinned (OpenSpec.upto topRingSpec)

/-- 'theseustop.TopRenamed', WHERE WHAT IT READS IS OF BULK AT MOST 1048576: true; the input reads as it did. -/
def topRenamedUptoRow : OpenClaim := { program := "ytpjoefekhgmlhaagreat", sum := "46bc9872b58710ebf713c93f51f2ed2367341108e7dbda4b96b84566ed7f486d", func := "theseus/theseustop.TopRenamed", spec := "topRenamed", unfollowed := true, recurses := true, apart := false, narrowed := true }
def TopRenamedUptoSaid : Prop := topRenamedUptoRow.holds Tryz.pinned (OpenSpec.upto topRenamedSpec)

end Rows
end Go.Proofs.YtpjoefekhgmlhaaGreat
