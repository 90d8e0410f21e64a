/-
  No cell of these rows narrows 'for every input' (looked for: loops, veiled, ifaces, maps, wideKeys, modest, calm, conditions, laid).
  DERIVED. THE GIVEN ROWS OF THIS SEAT. 7 by the template 'for every input the law returns true; each argument reads behind the call as it read before'; 0 by the template 'total and deterministic' (their statements: YtfkpcmklpcnebaaTotals.lean).
  GIVEN WITH THE SEED: the statements are not yours to turn. If you find one false, say at which input.
  Laid BY PROGRAM, IN A SANDBOX (cutbox-rows.mjs): the forced cells as the released guide's own fill.sh prints them over the translation 354c41cf1101ab93… (all of the seat's roots in one cut). By AI agents, Wed Nov 11 2026. No macro, syntax, notation, axiom, sorry.
-/
import Derived.Test.YtfkpcmklpcnebaaChecked
import GoSem.Claim
import GoSem.ClaimJoined
import GoSem.ClaimMapViews
import Derived.JoinedTies
import Derived.KernelRfl
namespace Go.Proofs.Ytfkpcmklpcnebaa
/- THE CELL 'sum', in the pinned program and in every row, IS THE sha256 OF THE DUMP (.gsa) THAT YtfkpcmklpcnebaaProg.lean LOADS. Nothing in Lean hashes anything: it is a label: what it is worth is what the hold of that sum in a sandbox is worth. -/
noncomputable def Try.pinned : Pinned := { name := "ytfkpcmklpcnebaa", sum := "354c41cf1101ab93fd49264639ff3c590e14ed771f845debc982b9ecb414edb3", checked := Try.checked }
namespace Rows
def none {H : Type} : Left H := { results := [], args := [] }

/-- 'setsquarelaw33.GraphValid': WHATEVER THE INPUT: true; the input reads as it did. -/
def graphValidSpec : ChangeSpec := { name := "graphValid", fn := fun _ => fun
  | [d] => { results := [.lit (.bool true)], args := [d] }
  | _ => none }
def graphValidRow : OpenClaim := { program := "ytfkpcmklpcnebaa", sum := "354c41cf1101ab93fd49264639ff3c590e14ed771f845debc982b9ecb414edb3", func := "setsquare/setsquarelaw33.GraphValid", spec := "graphValid", unfollowed := true, recurses := true, apart := false }
def GraphValidSaid : Prop := graphValidRow.holds Try.pinned (OpenSpec.ofChange graphValidSpec)

/-- ITS FALSE NEIGHBOUR: 'it returns false'. Refute it at one input. -/
def graphValidWrong : ChangeSpec := { name := "graphValid", fn := fun _ => fun
  | [d] => { results := [.lit (.bool false)], args := [d] }
  | _ => none }
def GraphValidWrongFalsely : Prop := graphValidRow.holds Try.pinned (OpenSpec.ofChange graphValidWrong)

/-- 'setsquarelaw33.GraphMake': WHATEVER THE INPUT: true; the input reads as it did. -/
def graphMakeSpec : ChangeSpec := { name := "graphMake", fn := fun _ => fun
  | [d1, d2] => { results := [.lit (.bool true)], args := [d1, d2] }
  | _ => none }
def graphMakeRow : OpenClaim := { program := "ytfkpcmklpcnebaa", sum := "354c41cf1101ab93fd49264639ff3c590e14ed771f845debc982b9ecb414edb3", func := "setsquare/setsquarelaw33.GraphMake", spec := "graphMake", unfollowed := true, recurses := true, apart := false }
def GraphMakeSaid : Prop := graphMakeRow.holds Try.pinned (OpenSpec.ofChange graphMakeSpec)

/-- ITS FALSE NEIGHBOUR: 'it returns false'. Refute it at one input. -/
def graphMakeWrong : ChangeSpec := { name := "graphMake", fn := fun _ => fun
  | [d1, d2] => { results := [.lit (.bool false)], args := [d1, d2] }
  | _ => none }
def GraphMakeWrongFalsely : Prop := graphMakeRow.holds Try.pinned (OpenSpec.ofChange graphMakeWrong)

/-- 'setsquarelaw33.GraphComponents': WHATEVER THE INPUT: true; the input reads as it did. -/
def graphComponentsSpec : ChangeSpec := { name := "graphComponents", fn := fun _ => fun
  | [d] => { results := [.lit (.bool true)], args := [d] }
  | _ => none }
def graphComponentsRow : OpenClaim := { program := "ytfkpcmklpcnebaa", sum := "354c41cf1101ab93fd49264639ff3c590e14ed771f845debc982b9ecb414edb3", func := "setsquare/setsquarelaw33.GraphComponents", spec := "graphComponents", unfollowed := true, recurses := true, apart := false }
def GraphComponentsSaid : Prop := graphComponentsRow.holds Try.pinned (OpenSpec.ofChange graphComponentsSpec)

/-- ITS FALSE NEIGHBOUR: 'it returns false'. Refute it at one input. -/
def graphComponentsWrong : ChangeSpec := { name := "graphComponents", fn := fun _ => fun
  | [d] => { results := [.lit (.bool false)], args := [d] }
  | _ => none }
def GraphComponentsWrongFalsely : Prop := graphComponentsRow.holds Try.pinned (OpenSpec.ofChange graphComponentsWrong)

/-- 'setsquarelaw33.GraphHenneberg': WHATEVER THE INPUT: true; the input reads as it did. -/
def graphHennebergSpec : ChangeSpec := { name := "graphHenneberg", fn := fun _ => fun
  | [d1, d2, d3] => { results := [.lit (.bool true)], args := [d1, d2, d3] }
  | _ => none }
def graphHennebergRow : OpenClaim := { program := "ytfkpcmklpcnebaa", sum := "354c41cf1101ab93fd49264639ff3c590e14ed771f845debc982b9ecb414edb3", func := "setsquare/setsquarelaw33.GraphHenneberg", spec := "graphHenneberg", unfollowed := true, recurses := true, apart := false }
def GraphHennebergSaid : Prop := graphHennebergRow.holds Try.pinned (OpenSpec.ofChange graphHennebergSpec)

/-- ITS FALSE NEIGHBOUR: 'it returns false'. Refute it at one input. -/
def graphHennebergWrong : ChangeSpec := { name := "graphHenneberg", fn := fun _ => fun
  | [d1, d2, d3] => { results := [.lit (.bool false)], args := [d1, d2, d3] }
  | _ => none }
def GraphHennebergWrongFalsely : Prop := graphHennebergRow.holds Try.pinned (OpenSpec.ofChange graphHennebergWrong)

/-- 'setsquarelaw33.GraphDegree': WHATEVER THE INPUT: true; the input reads as it did. -/
def graphDegreeSpec : ChangeSpec := { name := "graphDegree", fn := fun _ => fun
  | [d1, d2, d3] => { results := [.lit (.bool true)], args := [d1, d2, d3] }
  | _ => none }
def graphDegreeRow : OpenClaim := { program := "ytfkpcmklpcnebaa", sum := "354c41cf1101ab93fd49264639ff3c590e14ed771f845debc982b9ecb414edb3", func := "setsquare/setsquarelaw33.GraphDegree", spec := "graphDegree", unfollowed := true, recurses := true, apart := false }
def GraphDegreeSaid : Prop := graphDegreeRow.holds Try.pinned (OpenSpec.ofChange graphDegreeSpec)

/-- ITS FALSE NEIGHBOUR: 'it returns false'. Refute it at one input. -/
def graphDegreeWrong : ChangeSpec := { name := "graphDegree", fn := fun _ => fun
  | [d1, d2, d3] => { results := [.lit (.bool false)], args := [d1, d2, d3] }
  | _ => none }
def GraphDegreeWrongFalsely : Prop := graphDegreeRow.holds Try.pinned (OpenSpec.ofChange graphDegreeWrong)

/-- 'setsquarelaw33.GraphRemove': WHATEVER THE INPUT: true; the input reads as it did. -/
def graphRemoveSpec : ChangeSpec := { name := "graphRemove", fn := fun _ => fun
  | [d1, d2] => { results := [.lit (.bool true)], args := [d1, d2] }
  | _ => none }
def graphRemoveRow : OpenClaim := { program := "ytfkpcmklpcnebaa", sum := "354c41cf1101ab93fd49264639ff3c590e14ed771f845debc982b9ecb414edb3", func := "setsquare/setsquarelaw33.GraphRemove", spec := "graphRemove", unfollowed := true, recurses := true, apart := false }
def GraphRemoveSaid : Prop := graphRemoveRow.holds Try.pinned (OpenSpec.ofChange graphRemoveSpec)

/-- ITS FALSE NEIGHBOUR: 'it returns false'. Refute it at one input. -/
def graphRemoveWrong : ChangeSpec := { name := "graphRemove", fn := fun _ => fun
  | [d1, d2] => { results := [.lit (.bool false)], args := [d1, d2] }
  | _ => none }
def GraphRemoveWrongFalsely : Prop := graphRemoveRow.holds Try.pinned (OpenSpec.ofChange graphRemoveWrong)

/-- 'setsquarelaw33.GraphInduced': WHATEVER THE INPUT: true; the input reads as it did. -/
def graphInducedSpec : ChangeSpec := { name := "graphInduced", fn := fun _ => fun
  | [d1, d2] => { results := [.lit (.bool true)], args := [d1, d2] }
  | _ => none }
def graphInducedRow : OpenClaim := { program := "ytfkpcmklpcnebaa", sum := "354c41cf1101ab93fd49264639ff3c590e14ed771f845debc982b9ecb414edb3", func := "setsquare/setsquarelaw33.GraphInduced", spec := "graphInduced", unfollowed := true, recurses := true, apart := false }
def GraphInducedSaid : Prop := graphInducedRow.holds Try.pinned (OpenSpec.ofChange graphInducedSpec)

/-- ITS FALSE NEIGHBOUR: 'it returns false'. Refute it at one input. -/
def graphInducedWrong : ChangeSpec := { name := "graphInduced", fn := fun _ => fun
  | [d1, d2] => { results := [.lit (.bool false)], args := [d1, d2] }
  | _ => none }
def GraphInducedWrongFalsely : Prop := graphInducedRow.holds Try.pinned (OpenSpec.ofChange graphInducedWrong)

/- THE SECOND FORM. 'bulk': how many values and letters a reading holds, each counted each time it is reached (what is shared counts as often as it is met; a slice's spare places count too). A statement '..UptoSaid' is the law's where the arguments, and the package variables that the reading takes, are together of bulk at most 1048576: NARROWER than '..Said'. Prove '..Said' where nothing that the law and all that it calls make is longer than what came in: it says more and counts as full. Else prove '..UptoSaid'. A law counts once. -/
mutual
def uptoBulk {H : Type} : DataW H → Nat
  | .lit (.string bytes) => bytes.length + 1
  | .lit _ => 1
  | .nil => 1
  | .ptr d => uptoBulk d + 1
  | .slice elems spare => uptoBulkAll elems + uptoBulkAll spare + 1
  | .agg parts => uptoBulkAll parts + 1
  | .iface _ d => uptoBulk d + 1
  | .map entries => uptoBulkEntries entries + 1
  | .held _ => 1
def uptoBulkAll {H : Type} : List (DataW H) → Nat
  | [] => 0
  | d :: r => uptoBulk d + uptoBulkAll r
def uptoBulkEntries {H : Type} : List (Lit × DataW H) → Nat
  | [] => 0
  | x :: r => uptoBulkEntry x + uptoBulkEntries r
def uptoBulkEntry {H : Type} : Lit × DataW H → Nat
  | (.string bytes, d) => bytes.length + uptoBulk d + 1
  | (_, d) => uptoBulk d + 1
 end
def uptoSmall : (H : Type) → List (DataW H) → Bool := fun _ ds => decide (uptoBulkAll ds ≤ 1048576)
def OpenSpec.upto (s : _root_.Go.ChangeSpec) : _root_.Go.OpenSpec := { _root_.Go.OpenSpec.ofChange s with cond := some uptoSmall }

/-- 'setsquarelaw33.GraphValid', WHERE WHAT IT READS IS OF BULK AT MOST 1048576: true; the input reads as it did. -/
def graphValidUptoRow : OpenClaim := { program := "ytfkpcmklpcnebaa", sum := "354c41cf1101ab93fd49264639ff3c590e14ed771f845debc982b9ecb414edb3", func := "setsquare/setsquarelaw33.GraphValid", spec := "graphValid", unfollowed := true, recurses := true, apart := false, narrowed := true }
def GraphValidUptoSaid : Prop := graphValidUptoRow.holds Try.pinned (OpenSpec.upto graphValidSpec)

/-- 'setsquarelaw33.GraphMake', WHERE WHAT IT READS IS OF BULK AT MOST 1048576: true; the input reads as it did. -/
def graphMakeUptoRow : OpenClaim := { program := "ytfkpcmklpcnebaa", sum := "354c41cf1101ab93fd49264639ff3c590e14ed771f845debc982b9ecb414edb3", func := "setsquare/setsquarelaw33.GraphMake", spec := "graphMake", unfollowed := true, recurses := true, apart := false, narrowed := true }
def GraphMakeUptoSaid : Prop := graphMakeUptoRow.holds Try.pinned (OpenSpec.upto graphMakeSpec)

/-- 'setsquarelaw33.GraphComponents', WHERE WHAT IT READS IS OF BULK AT MOST 1048576: true; the input reads as it did. -/
def graphComponentsUptoRow : OpenClaim := { program := "ytfkpcmklpcnebaa", sum := "354c41cf1101ab93fd49264639ff3c590e14ed771f845debc982b9ecb414edb3", func := "setsquare/setsquarelaw33.GraphComponents", spec := "graphComponents", unfollowed := true, recurses := true, apart := false, narrowed := true }
def GraphComponentsUptoSaid : Prop := graphComponentsUptoRow.holds Try.pinned (OpenSpec.upto graphComponentsSpec)

/-- 'setsquarelaw33.GraphHenneberg', WHERE WHAT IT READS IS OF BULK AT MOST 1048576: true; the input reads as it did. -/
def graphHennebergUptoRow : OpenClaim := { program := "ytfkpcmklpcnebaa", sum := "354c41cf1101ab93fd49264639ff3c590e14ed771f845debc982b9ecb414edb3", func := "setsquare/setsquarelaw33.GraphHenneberg", spec := "graphHenneberg", unfollowed := true, recurses := true, apart := false, narrowed := true }
def GraphHennebergUptoSaid : Prop := graphHennebergUptoRow.holds Try.pinned (OpenSpec.upto graphHennebergSpec)

/-- 'setsquarelaw33.GraphDegree', WHERE WHAT IT READS IS OF BULK AT MOST 1048576: true; the input reads as it did. -/
def graphDegreeUptoRow : OpenClaim := { program := "ytfkpcmklpcnebaa", sum := "354c41cf1101ab93fd49264639ff3c590e14ed771f845debc982b9ecb414edb3", func := "setsquare/setsquarelaw33.GraphDegree", spec := "graphDegree", unfollowed := true, recurses := true, apart := false, narrowed := true }
def GraphDegreeUptoSaid : Prop := graphDegreeUptoRow.holds Try.pinned (OpenSpec.upto graphDegreeSpec)

/-- 'setsquarelaw33.GraphRemove', WHERE WHAT IT READS IS OF BULK AT MOST 1048576: true; the input reads as it did. -/
def graphRemoveUptoRow : OpenClaim := { program := "ytfkpcmklpcnebaa", sum := "354c41cf1101ab93fd49264639ff3c590e14ed771f845debc982b9ecb414edb3", func := "setsquare/setsquarelaw33.GraphRemove", spec := "graphRemove", unfollowed := true, recurses := true, apart := false, narrowed := true }
def GraphRemoveUptoSaid : Prop := graphRemoveUptoRow.holds Try.pinned (OpenSpec.upto graphRemoveSpec)

/-- 'setsquarelaw33.GraphInduced', WHERE WHAT IT READS IS OF BULK AT MOST 1048576: true; the input reads as it did. -/
def graphInducedUptoRow : OpenClaim := { program := "ytfkpcmklpcnebaa", sum := "354c41cf1101ab93fd49264639ff3c590e14ed771f845debc982b9ecb414edb3", func := "setsquare/setsquarelaw33.GraphInduced", spec := "graphInduced", unfollowed := true, recurses := true, apart := false, narrowed := true }
def GraphInducedUptoSaid : Prop := graphInducedUptoRow.holds Try.pinned (OpenSpec.upto graphInducedSpec)

end Rows
end Go.Proofs.Ytfkpcmklpcnebaa
