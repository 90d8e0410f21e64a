/-
  No cell of these rows narrows 'for every input' (looked for: loops, veiled, ifaces, maps, wideKeys, modest, calm, conditions, laid).
  DERIVED. THE GIVEN ROWS OF THIS SEAT. 12 by the template 'for every input the law returns true; each argument reads behind the call as it read before'; 0 by the template 'total and deterministic' (their statements: YtagcaljpgifppaaTotals.lean).
  GIVEN WITH THE SEED: the statements are not yours to turn. If you find one false, say at which input.
  Laid BY PROGRAM, IN A SANDBOX (cutbox-rows.mjs): the forced cells as the released guide's own fill.sh prints them over the translation c460fc2c5ab6c690… (all of the seat's roots in one cut). By AI agents, Wed Nov 11 2026. No macro, syntax, notation, axiom, sorry.
-/
import Derived.Test.YtagcaljpgifppaaChecked
import GoSem.Claim
import GoSem.ClaimJoined
import GoSem.ClaimMapViews
import Derived.JoinedTies
import Derived.KernelRfl
namespace Go.Proofs.Ytagcaljpgifppaa
/- THE CELL 'sum', in the pinned program and in every row, IS THE sha256 OF THE DUMP (.gsa) THAT YtagcaljpgifppaaProg.lean LOADS. Nothing in Lean hashes anything: it is a label: what it is worth is what the hold of that sum in a sandbox is worth. -/
noncomputable def Try.pinned : Pinned := { name := "ytagcaljpgifppaa", sum := "c460fc2c5ab6c690e5f1ef920ebd4d8cb144d7d3484da6f7ef291107f75230f5", checked := Try.checked }
namespace Rows
def none {H : Type} : Left H := { results := [], args := [] }

/-- 'setsquarelaw34.PebbleRedundant': WHATEVER THE INPUT: true; the input reads as it did. -/
def pebbleRedundantSpec : ChangeSpec := { name := "pebbleRedundant", fn := fun _ => fun
  | [d] => { results := [.lit (.bool true)], args := [d] }
  | _ => none }
def pebbleRedundantRow : OpenClaim := { program := "ytagcaljpgifppaa", sum := "c460fc2c5ab6c690e5f1ef920ebd4d8cb144d7d3484da6f7ef291107f75230f5", func := "setsquare/setsquarelaw34.PebbleRedundant", spec := "pebbleRedundant", recurses := true, apart := false }
def PebbleRedundantSaid : Prop := pebbleRedundantRow.holds Try.pinned (OpenSpec.ofChange pebbleRedundantSpec)

/-- ITS FALSE NEIGHBOUR: 'it returns false'. Refute it at one input. -/
def pebbleRedundantWrong : ChangeSpec := { name := "pebbleRedundant", fn := fun _ => fun
  | [d] => { results := [.lit (.bool false)], args := [d] }
  | _ => none }
def PebbleRedundantWrongFalsely : Prop := pebbleRedundantRow.holds Try.pinned (OpenSpec.ofChange pebbleRedundantWrong)

/-- 'setsquarelaw34.PebbleOrder': WHATEVER THE INPUT: true; the input reads as it did. -/
def pebbleOrderSpec : ChangeSpec := { name := "pebbleOrder", fn := fun _ => fun
  | [d1, d2] => { results := [.lit (.bool true)], args := [d1, d2] }
  | _ => none }
def pebbleOrderRow : OpenClaim := { program := "ytagcaljpgifppaa", sum := "c460fc2c5ab6c690e5f1ef920ebd4d8cb144d7d3484da6f7ef291107f75230f5", func := "setsquare/setsquarelaw34.PebbleOrder", spec := "pebbleOrder", recurses := true, apart := false }
def PebbleOrderSaid : Prop := pebbleOrderRow.holds Try.pinned (OpenSpec.ofChange pebbleOrderSpec)

/-- ITS FALSE NEIGHBOUR: 'it returns false'. Refute it at one input. -/
def pebbleOrderWrong : ChangeSpec := { name := "pebbleOrder", fn := fun _ => fun
  | [d1, d2] => { results := [.lit (.bool false)], args := [d1, d2] }
  | _ => none }
def PebbleOrderWrongFalsely : Prop := pebbleOrderRow.holds Try.pinned (OpenSpec.ofChange pebbleOrderWrong)

/-- 'setsquarelaw35.SparsitySequence': WHATEVER THE INPUT: true; the input reads as it did. -/
def sparsitySequenceSpec : ChangeSpec := { name := "sparsitySequence", fn := fun _ => fun
  | [d1, d2] => { results := [.lit (.bool true)], args := [d1, d2] }
  | _ => none }
def sparsitySequenceRow : OpenClaim := { program := "ytagcaljpgifppaa", sum := "c460fc2c5ab6c690e5f1ef920ebd4d8cb144d7d3484da6f7ef291107f75230f5", func := "setsquare/setsquarelaw35.SparsitySequence", spec := "sparsitySequence", unfollowed := true, recurses := true, apart := false }
def SparsitySequenceSaid : Prop := sparsitySequenceRow.holds Try.pinned (OpenSpec.ofChange sparsitySequenceSpec)

/-- ITS FALSE NEIGHBOUR: 'it returns false'. Refute it at one input. -/
def sparsitySequenceWrong : ChangeSpec := { name := "sparsitySequence", fn := fun _ => fun
  | [d1, d2] => { results := [.lit (.bool false)], args := [d1, d2] }
  | _ => none }
def SparsitySequenceWrongFalsely : Prop := sparsitySequenceRow.holds Try.pinned (OpenSpec.ofChange sparsitySequenceWrong)

/-- 'setsquarelaw34.PebbleBounds': WHATEVER THE INPUT: true; the input reads as it did. -/
def pebbleBoundsSpec : ChangeSpec := { name := "pebbleBounds", fn := fun _ => fun
  | [d1, d2, d3] => { results := [.lit (.bool true)], args := [d1, d2, d3] }
  | _ => none }
def pebbleBoundsRow : OpenClaim := { program := "ytagcaljpgifppaa", sum := "c460fc2c5ab6c690e5f1ef920ebd4d8cb144d7d3484da6f7ef291107f75230f5", func := "setsquare/setsquarelaw34.PebbleBounds", spec := "pebbleBounds", unfollowed := true, recurses := true, apart := false }
def PebbleBoundsSaid : Prop := pebbleBoundsRow.holds Try.pinned (OpenSpec.ofChange pebbleBoundsSpec)

/-- ITS FALSE NEIGHBOUR: 'it returns false'. Refute it at one input. -/
def pebbleBoundsWrong : ChangeSpec := { name := "pebbleBounds", fn := fun _ => fun
  | [d1, d2, d3] => { results := [.lit (.bool false)], args := [d1, d2, d3] }
  | _ => none }
def PebbleBoundsWrongFalsely : Prop := pebbleBoundsRow.holds Try.pinned (OpenSpec.ofChange pebbleBoundsWrong)

/-- 'setsquarelaw34.PebbleHenneberg': WHATEVER THE INPUT: true; the input reads as it did. -/
def pebbleHennebergSpec : ChangeSpec := { name := "pebbleHenneberg", fn := fun _ => fun
  | [d1, d2] => { results := [.lit (.bool true)], args := [d1, d2] }
  | _ => none }
def pebbleHennebergRow : OpenClaim := { program := "ytagcaljpgifppaa", sum := "c460fc2c5ab6c690e5f1ef920ebd4d8cb144d7d3484da6f7ef291107f75230f5", func := "setsquare/setsquarelaw34.PebbleHenneberg", spec := "pebbleHenneberg", unfollowed := true, recurses := true, apart := false }
def PebbleHennebergSaid : Prop := pebbleHennebergRow.holds Try.pinned (OpenSpec.ofChange pebbleHennebergSpec)

/-- ITS FALSE NEIGHBOUR: 'it returns false'. Refute it at one input. -/
def pebbleHennebergWrong : ChangeSpec := { name := "pebbleHenneberg", fn := fun _ => fun
  | [d1, d2] => { results := [.lit (.bool false)], args := [d1, d2] }
  | _ => none }
def PebbleHennebergWrongFalsely : Prop := pebbleHennebergRow.holds Try.pinned (OpenSpec.ofChange pebbleHennebergWrong)

/-- 'setsquarelaw36.ClusterClusters': WHATEVER THE INPUT: true; the input reads as it did. -/
def clusterClustersSpec : ChangeSpec := { name := "clusterClusters", fn := fun _ => fun
  | [d] => { results := [.lit (.bool true)], args := [d] }
  | _ => none }
def clusterClustersRow : OpenClaim := { program := "ytagcaljpgifppaa", sum := "c460fc2c5ab6c690e5f1ef920ebd4d8cb144d7d3484da6f7ef291107f75230f5", func := "setsquare/setsquarelaw36.ClusterClusters", spec := "clusterClusters", unfollowed := true, recurses := true, apart := false }
def ClusterClustersSaid : Prop := clusterClustersRow.holds Try.pinned (OpenSpec.ofChange clusterClustersSpec)

/-- ITS FALSE NEIGHBOUR: 'it returns false'. Refute it at one input. -/
def clusterClustersWrong : ChangeSpec := { name := "clusterClusters", fn := fun _ => fun
  | [d] => { results := [.lit (.bool false)], args := [d] }
  | _ => none }
def ClusterClustersWrongFalsely : Prop := clusterClustersRow.holds Try.pinned (OpenSpec.ofChange clusterClustersWrong)

/-- 'setsquarelaw36.ClusterMerge': WHATEVER THE INPUT: true; the input reads as it did. -/
def clusterMergeSpec : ChangeSpec := { name := "clusterMerge", fn := fun _ => fun
  | [d1, d2, d3] => { results := [.lit (.bool true)], args := [d1, d2, d3] }
  | _ => none }
def clusterMergeRow : OpenClaim := { program := "ytagcaljpgifppaa", sum := "c460fc2c5ab6c690e5f1ef920ebd4d8cb144d7d3484da6f7ef291107f75230f5", func := "setsquare/setsquarelaw36.ClusterMerge", spec := "clusterMerge", unfollowed := true, recurses := true, apart := false }
def ClusterMergeSaid : Prop := clusterMergeRow.holds Try.pinned (OpenSpec.ofChange clusterMergeSpec)

/-- ITS FALSE NEIGHBOUR: 'it returns false'. Refute it at one input. -/
def clusterMergeWrong : ChangeSpec := { name := "clusterMerge", fn := fun _ => fun
  | [d1, d2, d3] => { results := [.lit (.bool false)], args := [d1, d2, d3] }
  | _ => none }
def ClusterMergeWrongFalsely : Prop := clusterMergeRow.holds Try.pinned (OpenSpec.ofChange clusterMergeWrong)

/-- 'setsquarelaw36.ClusterVirtual': WHATEVER THE INPUT: true; the input reads as it did. -/
def clusterVirtualSpec : ChangeSpec := { name := "clusterVirtual", fn := fun _ => fun
  | [d1, d2] => { results := [.lit (.bool true)], args := [d1, d2] }
  | _ => none }
def clusterVirtualRow : OpenClaim := { program := "ytagcaljpgifppaa", sum := "c460fc2c5ab6c690e5f1ef920ebd4d8cb144d7d3484da6f7ef291107f75230f5", func := "setsquare/setsquarelaw36.ClusterVirtual", spec := "clusterVirtual", unfollowed := true, recurses := true, apart := false }
def ClusterVirtualSaid : Prop := clusterVirtualRow.holds Try.pinned (OpenSpec.ofChange clusterVirtualSpec)

/-- ITS FALSE NEIGHBOUR: 'it returns false'. Refute it at one input. -/
def clusterVirtualWrong : ChangeSpec := { name := "clusterVirtual", fn := fun _ => fun
  | [d1, d2] => { results := [.lit (.bool false)], args := [d1, d2] }
  | _ => none }
def ClusterVirtualWrongFalsely : Prop := clusterVirtualRow.holds Try.pinned (OpenSpec.ofChange clusterVirtualWrong)

/-- 'setsquarelaw36.ClusterGrows': WHATEVER THE INPUT: true; the input reads as it did. -/
def clusterGrowsSpec : ChangeSpec := { name := "clusterGrows", fn := fun _ => fun
  | [d1, d2, d3] => { results := [.lit (.bool true)], args := [d1, d2, d3] }
  | _ => none }
def clusterGrowsRow : OpenClaim := { program := "ytagcaljpgifppaa", sum := "c460fc2c5ab6c690e5f1ef920ebd4d8cb144d7d3484da6f7ef291107f75230f5", func := "setsquare/setsquarelaw36.ClusterGrows", spec := "clusterGrows", unfollowed := true, recurses := true, apart := false }
def ClusterGrowsSaid : Prop := clusterGrowsRow.holds Try.pinned (OpenSpec.ofChange clusterGrowsSpec)

/-- ITS FALSE NEIGHBOUR: 'it returns false'. Refute it at one input. -/
def clusterGrowsWrong : ChangeSpec := { name := "clusterGrows", fn := fun _ => fun
  | [d1, d2, d3] => { results := [.lit (.bool false)], args := [d1, d2, d3] }
  | _ => none }
def ClusterGrowsWrongFalsely : Prop := clusterGrowsRow.holds Try.pinned (OpenSpec.ofChange clusterGrowsWrong)

/-- 'setsquarelaw36.ClusterCover': WHATEVER THE INPUT: true; the input reads as it did. -/
def clusterCoverSpec : ChangeSpec := { name := "clusterCover", fn := fun _ => fun
  | [d] => { results := [.lit (.bool true)], args := [d] }
  | _ => none }
def clusterCoverRow : OpenClaim := { program := "ytagcaljpgifppaa", sum := "c460fc2c5ab6c690e5f1ef920ebd4d8cb144d7d3484da6f7ef291107f75230f5", func := "setsquare/setsquarelaw36.ClusterCover", spec := "clusterCover", unfollowed := true, recurses := true, apart := false }
def ClusterCoverSaid : Prop := clusterCoverRow.holds Try.pinned (OpenSpec.ofChange clusterCoverSpec)

/-- ITS FALSE NEIGHBOUR: 'it returns false'. Refute it at one input. -/
def clusterCoverWrong : ChangeSpec := { name := "clusterCover", fn := fun _ => fun
  | [d] => { results := [.lit (.bool false)], args := [d] }
  | _ => none }
def ClusterCoverWrongFalsely : Prop := clusterCoverRow.holds Try.pinned (OpenSpec.ofChange clusterCoverWrong)

/-- 'setsquarelaw36.ClusterRigid': WHATEVER THE INPUT: true; the input reads as it did. -/
def clusterRigidSpec : ChangeSpec := { name := "clusterRigid", fn := fun _ => fun
  | [d] => { results := [.lit (.bool true)], args := [d] }
  | _ => none }
def clusterRigidRow : OpenClaim := { program := "ytagcaljpgifppaa", sum := "c460fc2c5ab6c690e5f1ef920ebd4d8cb144d7d3484da6f7ef291107f75230f5", func := "setsquare/setsquarelaw36.ClusterRigid", spec := "clusterRigid", unfollowed := true, recurses := true, apart := false }
def ClusterRigidSaid : Prop := clusterRigidRow.holds Try.pinned (OpenSpec.ofChange clusterRigidSpec)

/-- ITS FALSE NEIGHBOUR: 'it returns false'. Refute it at one input. -/
def clusterRigidWrong : ChangeSpec := { name := "clusterRigid", fn := fun _ => fun
  | [d] => { results := [.lit (.bool false)], args := [d] }
  | _ => none }
def ClusterRigidWrongFalsely : Prop := clusterRigidRow.holds Try.pinned (OpenSpec.ofChange clusterRigidWrong)

/-- 'setsquarelaw36.ClusterCondense': WHATEVER THE INPUT: true; the input reads as it did. -/
def clusterCondenseSpec : ChangeSpec := { name := "clusterCondense", fn := fun _ => fun
  | [d] => { results := [.lit (.bool true)], args := [d] }
  | _ => none }
def clusterCondenseRow : OpenClaim := { program := "ytagcaljpgifppaa", sum := "c460fc2c5ab6c690e5f1ef920ebd4d8cb144d7d3484da6f7ef291107f75230f5", func := "setsquare/setsquarelaw36.ClusterCondense", spec := "clusterCondense", unfollowed := true, recurses := true, apart := false }
def ClusterCondenseSaid : Prop := clusterCondenseRow.holds Try.pinned (OpenSpec.ofChange clusterCondenseSpec)

/-- ITS FALSE NEIGHBOUR: 'it returns false'. Refute it at one input. -/
def clusterCondenseWrong : ChangeSpec := { name := "clusterCondense", fn := fun _ => fun
  | [d] => { results := [.lit (.bool false)], args := [d] }
  | _ => none }
def ClusterCondenseWrongFalsely : Prop := clusterCondenseRow.holds Try.pinned (OpenSpec.ofChange clusterCondenseWrong)

/- THE SECOND FORM. 'bulk': how many values and letters a reading holds, each counted each time it is reached (what is shared counts as often as it is met; a slice's spare places count too). A statement '..UptoSaid' is the law's where the arguments, and the package variables that the reading takes, are together of bulk at most 1048576: NARROWER than '..Said'. Prove '..Said' where nothing that the law and all that it calls make is longer than what came in: it says more and counts as full. Else prove '..UptoSaid'. A law counts once. -/
mutual
def uptoBulk {H : Type} : DataW H → Nat
  | .lit (.string bytes) => bytes.length + 1
  | .lit _ => 1
  | .nil => 1
  | .ptr d => uptoBulk d + 1
  | .slice elems spare => uptoBulkAll elems + uptoBulkAll spare + 1
  | .agg parts => uptoBulkAll parts + 1
  | .iface _ d => uptoBulk d + 1
  | .map entries => uptoBulkEntries entries + 1
  | .held _ => 1
def uptoBulkAll {H : Type} : List (DataW H) → Nat
  | [] => 0
  | d :: r => uptoBulk d + uptoBulkAll r
def uptoBulkEntries {H : Type} : List (Lit × DataW H) → Nat
  | [] => 0
  | x :: r => uptoBulkEntry x + uptoBulkEntries r
def uptoBulkEntry {H : Type} : Lit × DataW H → Nat
  | (.string bytes, d) => bytes.length + uptoBulk d + 1
  | (_, d) => uptoBulk d + 1
 end
def uptoSmall : (H : Type) → List (DataW H) → Bool := fun _ ds => decide (uptoBulkAll ds ≤ 1048576)
def OpenSpec.upto (s : _root_.Go.ChangeSpec) : _root_.Go.OpenSpec := { _root_.Go.OpenSpec.ofChange s with cond := some uptoSmall }

/-- 'setsquarelaw34.PebbleRedundant', WHERE WHAT IT READS IS OF BULK AT MOST 1048576: true; the input reads as it did. -/
def pebbleRedundantUptoRow : OpenClaim := { program := "ytagcaljpgifppaa", sum := "c460fc2c5ab6c690e5f1ef920ebd4d8cb144d7d3484da6f7ef291107f75230f5", func := "setsquare/setsquarelaw34.PebbleRedundant", spec := "pebbleRedundant", recurses := true, apart := false, narrowed := true }
def PebbleRedundantUptoSaid : Prop := pebbleRedundantUptoRow.holds Try.pinned (OpenSpec.upto pebbleRedundantSpec)

/-- 'setsquarelaw34.PebbleOrder', WHERE WHAT IT READS IS OF BULK AT MOST 1048576: true; the input reads as it did. -/
def pebbleOrderUptoRow : OpenClaim := { program := "ytagcaljpgifppaa", sum := "c460fc2c5ab6c690e5f1ef920ebd4d8cb144d7d3484da6f7ef291107f75230f5", func := "setsquare/setsquarelaw34.PebbleOrder", spec := "pebbleOrder", recurses := true, apart := false, narrowed := true }
def PebbleOrderUptoSaid : Prop := pebbleOrderUptoRow.holds Try.pinned (OpenSpec.upto pebbleOrderSpec)

/-- 'setsquarelaw35.SparsitySequence', WHERE WHAT IT READS IS OF BULK AT MOST 1048576: true; the input reads as it did. -/
def sparsitySequenceUptoRow : OpenClaim := { program := "ytagcaljpgifppaa", sum := "c460fc2c5ab6c690e5f1ef920ebd4d8cb144d7d3484da6f7ef291107f75230f5", func := "setsquare/setsquarelaw35.SparsitySequence", spec := "sparsitySequence", unfollowed := true, recurses := true, apart := false, narrowed := true }
def SparsitySequenceUptoSaid : Prop := sparsitySequenceUptoRow.holds Try.pinned (OpenSpec.upto sparsitySequenceSpec)

/-- 'setsquarelaw34.PebbleBounds', WHERE WHAT IT READS IS OF BULK AT MOST 1048576: true; the input reads as it did. -/
def pebbleBoundsUptoRow : OpenClaim := { program := "ytagcaljpgifppaa", sum := "c460fc2c5ab6c690e5f1ef920ebd4d8cb144d7d3484da6f7ef291107f75230f5", func := "setsquare/setsquarelaw34.PebbleBounds", spec := "pebbleBounds", unfollowed := true, recurses := true, apart := false, narrowed := true }
def PebbleBoundsUptoSaid : Prop := pebbleBoundsUptoRow.holds Try.pinned (OpenSpec.upto pebbleBoundsSpec)

/-- 'setsquarelaw34.PebbleHenneberg', WHERE WHAT IT READS IS OF BULK AT MOST 1048576: true; the input reads as it did. -/
def pebbleHennebergUptoRow : OpenClaim := { program := "ytagcaljpgifppaa", sum := "c460fc2c5ab6c690e5f1ef920ebd4d8cb144d7d3484da6f7ef291107f75230f5", func := "setsquare/setsquarelaw34.PebbleHenneberg", spec := "pebbleHenneberg", unfollowed := true, recurses := true, apart := false, narrowed := true }
def PebbleHennebergUptoSaid : Prop := pebbleHennebergUptoRow.holds Try.pinned (OpenSpec.upto pebbleHennebergSpec)

/-- 'setsquarelaw36.ClusterClusters', WHERE WHAT IT READS IS OF BULK AT MOST 1048576: true; the input reads as it did. -/
def clusterClustersUptoRow : OpenClaim := { program := "ytagcaljpgifppaa", sum := "c460fc2c5ab6c690e5f1ef920ebd4d8cb144d7d3484da6f7ef291107f75230f5", func := "setsquare/setsquarelaw36.ClusterClusters", spec := "clusterClusters", unfollowed := true, recurses := true, apart := false, narrowed := true }
def ClusterClustersUptoSaid : Prop := clusterClustersUptoRow.holds Try.pinned (OpenSpec.upto clusterClustersSpec)

/-- 'setsquarelaw36.ClusterMerge', WHERE WHAT IT READS IS OF BULK AT MOST 1048576: true; the input reads as it did. -/
def clusterMergeUptoRow : OpenClaim := { program := "ytagcaljpgifppaa", sum := "c460fc2c5ab6c690e5f1ef920ebd4d8cb144d7d3484da6f7ef291107f75230f5", func := "setsquare/setsquarelaw36.ClusterMerge", spec := "clusterMerge", unfollowed := true, recurses := true, apart := false, narrowed := true }
def ClusterMergeUptoSaid : Prop := clusterMergeUptoRow.holds Try.pinned (OpenSpec.upto clusterMergeSpec)

/-- 'setsquarelaw36.ClusterVirtual', WHERE WHAT IT READS IS OF BULK AT MOST 1048576: true; the input reads as it did. -/
def clusterVirtualUptoRow : OpenClaim := { program := "ytagcaljpgifppaa", sum := "c460fc2c5ab6c690e5f1ef920ebd4d8cb144d7d3484da6f7ef291107f75230f5", func := "setsquare/setsquarelaw36.ClusterVirtual", spec := "clusterVirtual", unfollowed := true, recurses := true, apart := false, narrowed := true }
def ClusterVirtualUptoSaid : Prop := clusterVirtualUptoRow.holds Try.pinned (OpenSpec.upto clusterVirtualSpec)

/-- 'setsquarelaw36.ClusterGrows', WHERE WHAT IT READS IS OF BULK AT MOST 1048576: true; the input reads as it did. -/
def clusterGrowsUptoRow : OpenClaim := { program := "ytagcaljpgifppaa", sum := "c460fc2c5ab6c690e5f1ef920ebd4d8cb144d7d3484da6f7ef291107f75230f5", func := "setsquare/setsquarelaw36.ClusterGrows", spec := "clusterGrows", unfollowed := true, recurses := true, apart := false, narrowed := true }
def ClusterGrowsUptoSaid : Prop := clusterGrowsUptoRow.holds Try.pinned (OpenSpec.upto clusterGrowsSpec)

/-- 'setsquarelaw36.ClusterCover', WHERE WHAT IT READS IS OF BULK AT MOST 1048576: true; the input reads as it did. -/
def clusterCoverUptoRow : OpenClaim := { program := "ytagcaljpgifppaa", sum := "c460fc2c5ab6c690e5f1ef920ebd4d8cb144d7d3484da6f7ef291107f75230f5", func := "setsquare/setsquarelaw36.ClusterCover", spec := "clusterCover", unfollowed := true, recurses := true, apart := false, narrowed := true }
def ClusterCoverUptoSaid : Prop := clusterCoverUptoRow.holds Try.pinned (OpenSpec.upto clusterCoverSpec)

/-- 'setsquarelaw36.ClusterRigid', WHERE WHAT IT READS IS OF BULK AT MOST 1048576: true; the input reads as it did. -/
def clusterRigidUptoRow : OpenClaim := { program := "ytagcaljpgifppaa", sum := "c460fc2c5ab6c690e5f1ef920ebd4d8cb144d7d3484da6f7ef291107f75230f5", func := "setsquare/setsquarelaw36.ClusterRigid", spec := "clusterRigid", unfollowed := true, recurses := true, apart := false, narrowed := true }
def ClusterRigidUptoSaid : Prop := clusterRigidUptoRow.holds Try.pinned (OpenSpec.upto clusterRigidSpec)

/-- 'setsquarelaw36.ClusterCondense', WHERE WHAT IT READS IS OF BULK AT MOST 1048576: true; the input reads as it did. -/
def clusterCondenseUptoRow : OpenClaim := { program := "ytagcaljpgifppaa", sum := "c460fc2c5ab6c690e5f1ef920ebd4d8cb144d7d3484da6f7ef291107f75230f5", func := "setsquare/setsquarelaw36.ClusterCondense", spec := "clusterCondense", unfollowed := true, recurses := true, apart := false, narrowed := true }
def ClusterCondenseUptoSaid : Prop := clusterCondenseUptoRow.holds Try.pinned (OpenSpec.upto clusterCondenseSpec)

end Rows
end Go.Proofs.Ytagcaljpgifppaa
