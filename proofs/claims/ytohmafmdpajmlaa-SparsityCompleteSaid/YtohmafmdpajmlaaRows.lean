/-
  No cell of these rows narrows 'for every input' (looked for: loops, veiled, ifaces, maps, wideKeys, modest, calm, conditions, laid).
  DERIVED. THE GIVEN ROWS OF THIS SEAT. 7 by the template 'for every input the law returns true; each argument reads behind the call as it read before'; 0 by the template 'total and deterministic' (their statements: YtohmafmdpajmlaaTotals.lean).
  GIVEN WITH THE SEED: the statements are not yours to turn. If you find one false, say at which input.
  Laid BY PROGRAM, IN A SANDBOX (cutbox-rows.mjs): the forced cells as the released guide's own fill.sh prints them over the translation c705bfa32ed1a163… (all of the seat's roots in one cut). By AI agents, Wed Nov 11 2026. No macro, syntax, notation, axiom, sorry.
-/
import Derived.Test.YtohmafmdpajmlaaChecked
import GoSem.Claim
import GoSem.ClaimJoined
import GoSem.ClaimMapViews
import Derived.JoinedTies
import Derived.KernelRfl
namespace Go.Proofs.Ytohmafmdpajmlaa
/- THE CELL 'sum', in the pinned program and in every row, IS THE sha256 OF THE DUMP (.gsa) THAT YtohmafmdpajmlaaProg.lean LOADS. Nothing in Lean hashes anything: it is a label: what it is worth is what the hold of that sum in a sandbox is worth. -/
noncomputable def Try.pinned : Pinned := { name := "ytohmafmdpajmlaa", sum := "c705bfa32ed1a163d6cf968e17844c0e1cccefb94e9e29a97b346b1cf0a68e3c", checked := Try.checked }
namespace Rows
def none {H : Type} : Left H := { results := [], args := [] }

/-- 'setsquarelaw35.SparsitySparse': WHATEVER THE INPUT: true; the input reads as it did. -/
def sparsitySparseSpec : ChangeSpec := { name := "sparsitySparse", fn := fun _ => fun
  | [d1, d2] => { results := [.lit (.bool true)], args := [d1, d2] }
  | _ => none }
def sparsitySparseRow : OpenClaim := { program := "ytohmafmdpajmlaa", sum := "c705bfa32ed1a163d6cf968e17844c0e1cccefb94e9e29a97b346b1cf0a68e3c", func := "setsquare/setsquarelaw35.SparsitySparse", spec := "sparsitySparse", apart := false }
def SparsitySparseSaid : Prop := sparsitySparseRow.holds Try.pinned (OpenSpec.ofChange sparsitySparseSpec)

/-- ITS FALSE NEIGHBOUR: 'it returns false'. Refute it at one input. -/
def sparsitySparseWrong : ChangeSpec := { name := "sparsitySparse", fn := fun _ => fun
  | [d1, d2] => { results := [.lit (.bool false)], args := [d1, d2] }
  | _ => none }
def SparsitySparseWrongFalsely : Prop := sparsitySparseRow.holds Try.pinned (OpenSpec.ofChange sparsitySparseWrong)

/-- 'setsquarelaw35.SparsitySound': WHATEVER THE INPUT: true; the input reads as it did. -/
def sparsitySoundSpec : ChangeSpec := { name := "sparsitySound", fn := fun _ => fun
  | [d1, d2, d3] => { results := [.lit (.bool true)], args := [d1, d2, d3] }
  | _ => none }
def sparsitySoundRow : OpenClaim := { program := "ytohmafmdpajmlaa", sum := "c705bfa32ed1a163d6cf968e17844c0e1cccefb94e9e29a97b346b1cf0a68e3c", func := "setsquare/setsquarelaw35.SparsitySound", spec := "sparsitySound", apart := false }
def SparsitySoundSaid : Prop := sparsitySoundRow.holds Try.pinned (OpenSpec.ofChange sparsitySoundSpec)

/-- ITS FALSE NEIGHBOUR: 'it returns false'. Refute it at one input. -/
def sparsitySoundWrong : ChangeSpec := { name := "sparsitySound", fn := fun _ => fun
  | [d1, d2, d3] => { results := [.lit (.bool false)], args := [d1, d2, d3] }
  | _ => none }
def SparsitySoundWrongFalsely : Prop := sparsitySoundRow.holds Try.pinned (OpenSpec.ofChange sparsitySoundWrong)

/-- 'setsquarelaw35.SparsityComplete': WHATEVER THE INPUT: true; the input reads as it did. -/
def sparsityCompleteSpec : ChangeSpec := { name := "sparsityComplete", fn := fun _ => fun
  | [d] => { results := [.lit (.bool true)], args := [d] }
  | _ => none }
def sparsityCompleteRow : OpenClaim := { program := "ytohmafmdpajmlaa", sum := "c705bfa32ed1a163d6cf968e17844c0e1cccefb94e9e29a97b346b1cf0a68e3c", func := "setsquare/setsquarelaw35.SparsityComplete", spec := "sparsityComplete", recurses := true, apart := false }
def SparsityCompleteSaid : Prop := sparsityCompleteRow.holds Try.pinned (OpenSpec.ofChange sparsityCompleteSpec)

/-- ITS FALSE NEIGHBOUR: 'it returns false'. Refute it at one input. -/
def sparsityCompleteWrong : ChangeSpec := { name := "sparsityComplete", fn := fun _ => fun
  | [d] => { results := [.lit (.bool false)], args := [d] }
  | _ => none }
def SparsityCompleteWrongFalsely : Prop := sparsityCompleteRow.holds Try.pinned (OpenSpec.ofChange sparsityCompleteWrong)

/-- 'setsquarelaw35.SparsityCounts': WHATEVER THE INPUT: true; the input reads as it did. -/
def sparsityCountsSpec : ChangeSpec := { name := "sparsityCounts", fn := fun _ => fun
  | [d1, d2] => { results := [.lit (.bool true)], args := [d1, d2] }
  | _ => none }
def sparsityCountsRow : OpenClaim := { program := "ytohmafmdpajmlaa", sum := "c705bfa32ed1a163d6cf968e17844c0e1cccefb94e9e29a97b346b1cf0a68e3c", func := "setsquare/setsquarelaw35.SparsityCounts", spec := "sparsityCounts", apart := false }
def SparsityCountsSaid : Prop := sparsityCountsRow.holds Try.pinned (OpenSpec.ofChange sparsityCountsSpec)

/-- ITS FALSE NEIGHBOUR: 'it returns false'. Refute it at one input. -/
def sparsityCountsWrong : ChangeSpec := { name := "sparsityCounts", fn := fun _ => fun
  | [d1, d2] => { results := [.lit (.bool false)], args := [d1, d2] }
  | _ => none }
def SparsityCountsWrongFalsely : Prop := sparsityCountsRow.holds Try.pinned (OpenSpec.ofChange sparsityCountsWrong)

/-- 'setsquarelaw35.SparsityLaman': WHATEVER THE INPUT: true; the input reads as it did. -/
def sparsityLamanSpec : ChangeSpec := { name := "sparsityLaman", fn := fun _ => fun
  | [d1, d2] => { results := [.lit (.bool true)], args := [d1, d2] }
  | _ => none }
def sparsityLamanRow : OpenClaim := { program := "ytohmafmdpajmlaa", sum := "c705bfa32ed1a163d6cf968e17844c0e1cccefb94e9e29a97b346b1cf0a68e3c", func := "setsquare/setsquarelaw35.SparsityLaman", spec := "sparsityLaman", apart := false }
def SparsityLamanSaid : Prop := sparsityLamanRow.holds Try.pinned (OpenSpec.ofChange sparsityLamanSpec)

/-- ITS FALSE NEIGHBOUR: 'it returns false'. Refute it at one input. -/
def sparsityLamanWrong : ChangeSpec := { name := "sparsityLaman", fn := fun _ => fun
  | [d1, d2] => { results := [.lit (.bool false)], args := [d1, d2] }
  | _ => none }
def SparsityLamanWrongFalsely : Prop := sparsityLamanRow.holds Try.pinned (OpenSpec.ofChange sparsityLamanWrong)

/-- 'setsquarelaw35.SparsityLattice': WHATEVER THE INPUT: true; the input reads as it did. -/
def sparsityLatticeSpec : ChangeSpec := { name := "sparsityLattice", fn := fun _ => fun
  | [d1, d2, d3] => { results := [.lit (.bool true)], args := [d1, d2, d3] }
  | _ => none }
def sparsityLatticeRow : OpenClaim := { program := "ytohmafmdpajmlaa", sum := "c705bfa32ed1a163d6cf968e17844c0e1cccefb94e9e29a97b346b1cf0a68e3c", func := "setsquare/setsquarelaw35.SparsityLattice", spec := "sparsityLattice", apart := false }
def SparsityLatticeSaid : Prop := sparsityLatticeRow.holds Try.pinned (OpenSpec.ofChange sparsityLatticeSpec)

/-- ITS FALSE NEIGHBOUR: 'it returns false'. Refute it at one input. -/
def sparsityLatticeWrong : ChangeSpec := { name := "sparsityLattice", fn := fun _ => fun
  | [d1, d2, d3] => { results := [.lit (.bool false)], args := [d1, d2, d3] }
  | _ => none }
def SparsityLatticeWrongFalsely : Prop := sparsityLatticeRow.holds Try.pinned (OpenSpec.ofChange sparsityLatticeWrong)

/-- 'setsquarelaw35.SparsitySequence': WHATEVER THE INPUT: true; the input reads as it did. -/
def sparsitySequenceSpec : ChangeSpec := { name := "sparsitySequence", fn := fun _ => fun
  | [d1, d2] => { results := [.lit (.bool true)], args := [d1, d2] }
  | _ => none }
def sparsitySequenceRow : OpenClaim := { program := "ytohmafmdpajmlaa", sum := "c705bfa32ed1a163d6cf968e17844c0e1cccefb94e9e29a97b346b1cf0a68e3c", func := "setsquare/setsquarelaw35.SparsitySequence", spec := "sparsitySequence", unfollowed := true, recurses := true, apart := false }
def SparsitySequenceSaid : Prop := sparsitySequenceRow.holds Try.pinned (OpenSpec.ofChange sparsitySequenceSpec)

/-- ITS FALSE NEIGHBOUR: 'it returns false'. Refute it at one input. -/
def sparsitySequenceWrong : ChangeSpec := { name := "sparsitySequence", fn := fun _ => fun
  | [d1, d2] => { results := [.lit (.bool false)], args := [d1, d2] }
  | _ => none }
def SparsitySequenceWrongFalsely : Prop := sparsitySequenceRow.holds Try.pinned (OpenSpec.ofChange sparsitySequenceWrong)

/- THE SECOND FORM. 'bulk': how many values and letters a reading holds, each counted each time it is reached (what is shared counts as often as it is met; a slice's spare places count too). A statement '..UptoSaid' is the law's where the arguments, and the package variables that the reading takes, are together of bulk at most 1048576: NARROWER than '..Said'. Prove '..Said' where nothing that the law and all that it calls make is longer than what came in: it says more and counts as full. Else prove '..UptoSaid'. A law counts once. -/
mutual
def uptoBulk {H : Type} : DataW H → Nat
  | .lit (.string bytes) => bytes.length + 1
  | .lit _ => 1
  | .nil => 1
  | .ptr d => uptoBulk d + 1
  | .slice elems spare => uptoBulkAll elems + uptoBulkAll spare + 1
  | .agg parts => uptoBulkAll parts + 1
  | .iface _ d => uptoBulk d + 1
  | .map entries => uptoBulkEntries entries + 1
  | .held _ => 1
def uptoBulkAll {H : Type} : List (DataW H) → Nat
  | [] => 0
  | d :: r => uptoBulk d + uptoBulkAll r
def uptoBulkEntries {H : Type} : List (Lit × DataW H) → Nat
  | [] => 0
  | x :: r => uptoBulkEntry x + uptoBulkEntries r
def uptoBulkEntry {H : Type} : Lit × DataW H → Nat
  | (.string bytes, d) => bytes.length + uptoBulk d + 1
  | (_, d) => uptoBulk d + 1
 end
def uptoSmall : (H : Type) → List (DataW H) → Bool := fun _ ds => decide (uptoBulkAll ds ≤ 1048576)
def OpenSpec.upto (s : _root_.Go.ChangeSpec) : _root_.Go.OpenSpec := { _root_.Go.OpenSpec.ofChange s with cond := some uptoSmall }

/-- 'setsquarelaw35.SparsitySparse', WHERE WHAT IT READS IS OF BULK AT MOST 1048576: true; the input reads as it did. -/
def sparsitySparseUptoRow : OpenClaim := { program := "ytohmafmdpajmlaa", sum := "c705bfa32ed1a163d6cf968e17844c0e1cccefb94e9e29a97b346b1cf0a68e3c", func := "setsquare/setsquarelaw35.SparsitySparse", spec := "sparsitySparse", apart := false, narrowed := true }
def SparsitySparseUptoSaid : Prop := sparsitySparseUptoRow.holds Try.pinned (OpenSpec.upto sparsitySparseSpec)

/-- 'setsquarelaw35.SparsitySound', WHERE WHAT IT READS IS OF BULK AT MOST 1048576: true; the input reads as it did. -/
def sparsitySoundUptoRow : OpenClaim := { program := "ytohmafmdpajmlaa", sum := "c705bfa32ed1a163d6cf968e17844c0e1cccefb94e9e29a97b346b1cf0a68e3c", func := "setsquare/setsquarelaw35.SparsitySound", spec := "sparsitySound", apart := false, narrowed := true }
def SparsitySoundUptoSaid : Prop := sparsitySoundUptoRow.holds Try.pinned (OpenSpec.upto sparsitySoundSpec)

/-- 'setsquarelaw35.SparsityComplete', WHERE WHAT IT READS IS OF BULK AT MOST 1048576: true; the input reads as it did. -/
def sparsityCompleteUptoRow : OpenClaim := { program := "ytohmafmdpajmlaa", sum := "c705bfa32ed1a163d6cf968e17844c0e1cccefb94e9e29a97b346b1cf0a68e3c", func := "setsquare/setsquarelaw35.SparsityComplete", spec := "sparsityComplete", recurses := true, apart := false, narrowed := true }
def SparsityCompleteUptoSaid : Prop := sparsityCompleteUptoRow.holds Try.pinned (OpenSpec.upto sparsityCompleteSpec)

/-- 'setsquarelaw35.SparsityCounts', WHERE WHAT IT READS IS OF BULK AT MOST 1048576: true; the input reads as it did. -/
def sparsityCountsUptoRow : OpenClaim := { program := "ytohmafmdpajmlaa", sum := "c705bfa32ed1a163d6cf968e17844c0e1cccefb94e9e29a97b346b1cf0a68e3c", func := "setsquare/setsquarelaw35.SparsityCounts", spec := "sparsityCounts", apart := false, narrowed := true }
def SparsityCountsUptoSaid : Prop := sparsityCountsUptoRow.holds Try.pinned (OpenSpec.upto sparsityCountsSpec)

/-- 'setsquarelaw35.SparsityLaman', WHERE WHAT IT READS IS OF BULK AT MOST 1048576: true; the input reads as it did. -/
def sparsityLamanUptoRow : OpenClaim := { program := "ytohmafmdpajmlaa", sum := "c705bfa32ed1a163d6cf968e17844c0e1cccefb94e9e29a97b346b1cf0a68e3c", func := "setsquare/setsquarelaw35.SparsityLaman", spec := "sparsityLaman", apart := false, narrowed := true }
def SparsityLamanUptoSaid : Prop := sparsityLamanUptoRow.holds Try.pinned (OpenSpec.upto sparsityLamanSpec)

/-- 'setsquarelaw35.SparsityLattice', WHERE WHAT IT READS IS OF BULK AT MOST 1048576: true; the input reads as it did. -/
def sparsityLatticeUptoRow : OpenClaim := { program := "ytohmafmdpajmlaa", sum := "c705bfa32ed1a163d6cf968e17844c0e1cccefb94e9e29a97b346b1cf0a68e3c", func := "setsquare/setsquarelaw35.SparsityLattice", spec := "sparsityLattice", apart := false, narrowed := true }
def SparsityLatticeUptoSaid : Prop := sparsityLatticeUptoRow.holds Try.pinned (OpenSpec.upto sparsityLatticeSpec)

/-- 'setsquarelaw35.SparsitySequence', WHERE WHAT IT READS IS OF BULK AT MOST 1048576: true; the input reads as it did. -/
def sparsitySequenceUptoRow : OpenClaim := { program := "ytohmafmdpajmlaa", sum := "c705bfa32ed1a163d6cf968e17844c0e1cccefb94e9e29a97b346b1cf0a68e3c", func := "setsquare/setsquarelaw35.SparsitySequence", spec := "sparsitySequence", unfollowed := true, recurses := true, apart := false, narrowed := true }
def SparsitySequenceUptoSaid : Prop := sparsitySequenceUptoRow.holds Try.pinned (OpenSpec.upto sparsitySequenceSpec)

end Rows
end Go.Proofs.Ytohmafmdpajmlaa
