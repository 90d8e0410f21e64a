/-
  No cell of these rows narrows 'for every input' (looked for: loops, veiled, ifaces, maps, wideKeys, modest, calm, conditions, laid).
  DERIVED. THE GIVEN ROWS OF THIS SEAT. 7 by the template 'for every input the law returns true; each argument reads behind the call as it read before'; 0 by the template 'total and deterministic' (their statements: YtbhkdodokdgijaaTotals.lean).
  GIVEN WITH THE SEED: the statements are not yours to turn. If you find one false, say at which input.
  Laid BY PROGRAM, IN A SANDBOX (cutbox-rows.mjs): the forced cells as the released guide's own fill.sh prints them over the translation f6effa6bf8f7118e… (all of the seat's roots in one cut). By AI agents, Wed Nov 11 2026. No macro, syntax, notation, axiom, sorry.
-/
import Derived.Test.YtbhkdodokdgijaaChecked
import GoSem.Claim
import GoSem.ClaimJoined
import GoSem.ClaimMapViews
import Derived.JoinedTies
import Derived.KernelRfl
namespace Go.Proofs.Ytbhkdodokdgijaa
/- THE CELL 'sum', in the pinned program and in every row, IS THE sha256 OF THE DUMP (.gsa) THAT YtbhkdodokdgijaaProg.lean LOADS. Nothing in Lean hashes anything: it is a label: what it is worth is what the hold of that sum in a sandbox is worth. -/
noncomputable def Try.pinned : Pinned := { name := "ytbhkdodokdgijaa", sum := "f6effa6bf8f7118e3f75131eb01d391f99ab1f7886b4dd1b28b00220a6441b37", checked := Try.checked }
namespace Rows
def none {H : Type} : Left H := { results := [], args := [] }

/-- 'setsquarelaw34.PebbleIndependent': WHATEVER THE INPUT: true; the input reads as it did. -/
def pebbleIndependentSpec : ChangeSpec := { name := "pebbleIndependent", fn := fun _ => fun
  | [d] => { results := [.lit (.bool true)], args := [d] }
  | _ => none }
def pebbleIndependentRow : OpenClaim := { program := "ytbhkdodokdgijaa", sum := "f6effa6bf8f7118e3f75131eb01d391f99ab1f7886b4dd1b28b00220a6441b37", func := "setsquare/setsquarelaw34.PebbleIndependent", spec := "pebbleIndependent", recurses := true, apart := false }
def PebbleIndependentSaid : Prop := pebbleIndependentRow.holds Try.pinned (OpenSpec.ofChange pebbleIndependentSpec)

/-- ITS FALSE NEIGHBOUR: 'it returns false'. Refute it at one input. -/
def pebbleIndependentWrong : ChangeSpec := { name := "pebbleIndependent", fn := fun _ => fun
  | [d] => { results := [.lit (.bool false)], args := [d] }
  | _ => none }
def PebbleIndependentWrongFalsely : Prop := pebbleIndependentRow.holds Try.pinned (OpenSpec.ofChange pebbleIndependentWrong)

/-- 'setsquarelaw34.PebbleRedundant': WHATEVER THE INPUT: true; the input reads as it did. -/
def pebbleRedundantSpec : ChangeSpec := { name := "pebbleRedundant", fn := fun _ => fun
  | [d] => { results := [.lit (.bool true)], args := [d] }
  | _ => none }
def pebbleRedundantRow : OpenClaim := { program := "ytbhkdodokdgijaa", sum := "f6effa6bf8f7118e3f75131eb01d391f99ab1f7886b4dd1b28b00220a6441b37", func := "setsquare/setsquarelaw34.PebbleRedundant", spec := "pebbleRedundant", recurses := true, apart := false }
def PebbleRedundantSaid : Prop := pebbleRedundantRow.holds Try.pinned (OpenSpec.ofChange pebbleRedundantSpec)

/-- ITS FALSE NEIGHBOUR: 'it returns false'. Refute it at one input. -/
def pebbleRedundantWrong : ChangeSpec := { name := "pebbleRedundant", fn := fun _ => fun
  | [d] => { results := [.lit (.bool false)], args := [d] }
  | _ => none }
def PebbleRedundantWrongFalsely : Prop := pebbleRedundantRow.holds Try.pinned (OpenSpec.ofChange pebbleRedundantWrong)

/-- 'setsquarelaw34.PebbleCertificates': WHATEVER THE INPUT: true; the input reads as it did. -/
def pebbleCertificatesSpec : ChangeSpec := { name := "pebbleCertificates", fn := fun _ => fun
  | [d] => { results := [.lit (.bool true)], args := [d] }
  | _ => none }
def pebbleCertificatesRow : OpenClaim := { program := "ytbhkdodokdgijaa", sum := "f6effa6bf8f7118e3f75131eb01d391f99ab1f7886b4dd1b28b00220a6441b37", func := "setsquare/setsquarelaw34.PebbleCertificates", spec := "pebbleCertificates", recurses := true, apart := false }
def PebbleCertificatesSaid : Prop := pebbleCertificatesRow.holds Try.pinned (OpenSpec.ofChange pebbleCertificatesSpec)

/-- ITS FALSE NEIGHBOUR: 'it returns false'. Refute it at one input. -/
def pebbleCertificatesWrong : ChangeSpec := { name := "pebbleCertificates", fn := fun _ => fun
  | [d] => { results := [.lit (.bool false)], args := [d] }
  | _ => none }
def PebbleCertificatesWrongFalsely : Prop := pebbleCertificatesRow.holds Try.pinned (OpenSpec.ofChange pebbleCertificatesWrong)

/-- 'setsquarelaw34.PebbleSound': WHATEVER THE INPUT: true; the input reads as it did. -/
def pebbleSoundSpec : ChangeSpec := { name := "pebbleSound", fn := fun _ => fun
  | [d1, d2, d3] => { results := [.lit (.bool true)], args := [d1, d2, d3] }
  | _ => none }
def pebbleSoundRow : OpenClaim := { program := "ytbhkdodokdgijaa", sum := "f6effa6bf8f7118e3f75131eb01d391f99ab1f7886b4dd1b28b00220a6441b37", func := "setsquare/setsquarelaw34.PebbleSound", spec := "pebbleSound", recurses := true, apart := false }
def PebbleSoundSaid : Prop := pebbleSoundRow.holds Try.pinned (OpenSpec.ofChange pebbleSoundSpec)

/-- ITS FALSE NEIGHBOUR: 'it returns false'. Refute it at one input. -/
def pebbleSoundWrong : ChangeSpec := { name := "pebbleSound", fn := fun _ => fun
  | [d1, d2, d3] => { results := [.lit (.bool false)], args := [d1, d2, d3] }
  | _ => none }
def PebbleSoundWrongFalsely : Prop := pebbleSoundRow.holds Try.pinned (OpenSpec.ofChange pebbleSoundWrong)

/-- 'setsquarelaw34.PebbleOrder': WHATEVER THE INPUT: true; the input reads as it did. -/
def pebbleOrderSpec : ChangeSpec := { name := "pebbleOrder", fn := fun _ => fun
  | [d1, d2] => { results := [.lit (.bool true)], args := [d1, d2] }
  | _ => none }
def pebbleOrderRow : OpenClaim := { program := "ytbhkdodokdgijaa", sum := "f6effa6bf8f7118e3f75131eb01d391f99ab1f7886b4dd1b28b00220a6441b37", func := "setsquare/setsquarelaw34.PebbleOrder", spec := "pebbleOrder", recurses := true, apart := false }
def PebbleOrderSaid : Prop := pebbleOrderRow.holds Try.pinned (OpenSpec.ofChange pebbleOrderSpec)

/-- ITS FALSE NEIGHBOUR: 'it returns false'. Refute it at one input. -/
def pebbleOrderWrong : ChangeSpec := { name := "pebbleOrder", fn := fun _ => fun
  | [d1, d2] => { results := [.lit (.bool false)], args := [d1, d2] }
  | _ => none }
def PebbleOrderWrongFalsely : Prop := pebbleOrderRow.holds Try.pinned (OpenSpec.ofChange pebbleOrderWrong)

/-- 'setsquarelaw34.PebbleBounds': WHATEVER THE INPUT: true; the input reads as it did. -/
def pebbleBoundsSpec : ChangeSpec := { name := "pebbleBounds", fn := fun _ => fun
  | [d1, d2, d3] => { results := [.lit (.bool true)], args := [d1, d2, d3] }
  | _ => none }
def pebbleBoundsRow : OpenClaim := { program := "ytbhkdodokdgijaa", sum := "f6effa6bf8f7118e3f75131eb01d391f99ab1f7886b4dd1b28b00220a6441b37", func := "setsquare/setsquarelaw34.PebbleBounds", spec := "pebbleBounds", unfollowed := true, recurses := true, apart := false }
def PebbleBoundsSaid : Prop := pebbleBoundsRow.holds Try.pinned (OpenSpec.ofChange pebbleBoundsSpec)

/-- ITS FALSE NEIGHBOUR: 'it returns false'. Refute it at one input. -/
def pebbleBoundsWrong : ChangeSpec := { name := "pebbleBounds", fn := fun _ => fun
  | [d1, d2, d3] => { results := [.lit (.bool false)], args := [d1, d2, d3] }
  | _ => none }
def PebbleBoundsWrongFalsely : Prop := pebbleBoundsRow.holds Try.pinned (OpenSpec.ofChange pebbleBoundsWrong)

/-- 'setsquarelaw34.PebbleHenneberg': WHATEVER THE INPUT: true; the input reads as it did. -/
def pebbleHennebergSpec : ChangeSpec := { name := "pebbleHenneberg", fn := fun _ => fun
  | [d1, d2] => { results := [.lit (.bool true)], args := [d1, d2] }
  | _ => none }
def pebbleHennebergRow : OpenClaim := { program := "ytbhkdodokdgijaa", sum := "f6effa6bf8f7118e3f75131eb01d391f99ab1f7886b4dd1b28b00220a6441b37", func := "setsquare/setsquarelaw34.PebbleHenneberg", spec := "pebbleHenneberg", unfollowed := true, recurses := true, apart := false }
def PebbleHennebergSaid : Prop := pebbleHennebergRow.holds Try.pinned (OpenSpec.ofChange pebbleHennebergSpec)

/-- ITS FALSE NEIGHBOUR: 'it returns false'. Refute it at one input. -/
def pebbleHennebergWrong : ChangeSpec := { name := "pebbleHenneberg", fn := fun _ => fun
  | [d1, d2] => { results := [.lit (.bool false)], args := [d1, d2] }
  | _ => none }
def PebbleHennebergWrongFalsely : Prop := pebbleHennebergRow.holds Try.pinned (OpenSpec.ofChange pebbleHennebergWrong)

/- THE SECOND FORM. 'bulk': how many values and letters a reading holds, each counted each time it is reached (what is shared counts as often as it is met; a slice's spare places count too). A statement '..UptoSaid' is the law's where the arguments, and the package variables that the reading takes, are together of bulk at most 1048576: NARROWER than '..Said'. Prove '..Said' where nothing that the law and all that it calls make is longer than what came in: it says more and counts as full. Else prove '..UptoSaid'. A law counts once. -/
mutual
def uptoBulk {H : Type} : DataW H → Nat
  | .lit (.string bytes) => bytes.length + 1
  | .lit _ => 1
  | .nil => 1
  | .ptr d => uptoBulk d + 1
  | .slice elems spare => uptoBulkAll elems + uptoBulkAll spare + 1
  | .agg parts => uptoBulkAll parts + 1
  | .iface _ d => uptoBulk d + 1
  | .map entries => uptoBulkEntries entries + 1
  | .held _ => 1
def uptoBulkAll {H : Type} : List (DataW H) → Nat
  | [] => 0
  | d :: r => uptoBulk d + uptoBulkAll r
def uptoBulkEntries {H : Type} : List (Lit × DataW H) → Nat
  | [] => 0
  | x :: r => uptoBulkEntry x + uptoBulkEntries r
def uptoBulkEntry {H : Type} : Lit × DataW H → Nat
  | (.string bytes, d) => bytes.length + uptoBulk d + 1
  | (_, d) => uptoBulk d + 1
 end
def uptoSmall : (H : Type) → List (DataW H) → Bool := fun _ ds => decide (uptoBulkAll ds ≤ 1048576)
def OpenSpec.upto (s : _root_.Go.ChangeSpec) : _root_.Go.OpenSpec := { _root_.Go.OpenSpec.ofChange s with cond := some uptoSmall }

/-- 'setsquarelaw34.PebbleIndependent', WHERE WHAT IT READS IS OF BULK AT MOST 1048576: true; the input reads as it did. -/
def pebbleIndependentUptoRow : OpenClaim := { program := "ytbhkdodokdgijaa", sum := "f6effa6bf8f7118e3f75131eb01d391f99ab1f7886b4dd1b28b00220a6441b37", func := "setsquare/setsquarelaw34.PebbleIndependent", spec := "pebbleIndependent", recurses := true, apart := false, narrowed := true }
def PebbleIndependentUptoSaid : Prop := pebbleIndependentUptoRow.holds Try.pinned (OpenSpec.upto pebbleIndependentSpec)

/-- 'setsquarelaw34.PebbleRedundant', WHERE WHAT IT READS IS OF BULK AT MOST 1048576: true; the input reads as it did. -/
def pebbleRedundantUptoRow : OpenClaim := { program := "ytbhkdodokdgijaa", sum := "f6effa6bf8f7118e3f75131eb01d391f99ab1f7886b4dd1b28b00220a6441b37", func := "setsquare/setsquarelaw34.PebbleRedundant", spec := "pebbleRedundant", recurses := true, apart := false, narrowed := true }
def PebbleRedundantUptoSaid : Prop := pebbleRedundantUptoRow.holds Try.pinned (OpenSpec.upto pebbleRedundantSpec)

/-- 'setsquarelaw34.PebbleCertificates', WHERE WHAT IT READS IS OF BULK AT MOST 1048576: true; the input reads as it did. -/
def pebbleCertificatesUptoRow : OpenClaim := { program := "ytbhkdodokdgijaa", sum := "f6effa6bf8f7118e3f75131eb01d391f99ab1f7886b4dd1b28b00220a6441b37", func := "setsquare/setsquarelaw34.PebbleCertificates", spec := "pebbleCertificates", recurses := true, apart := false, narrowed := true }
def PebbleCertificatesUptoSaid : Prop := pebbleCertificatesUptoRow.holds Try.pinned (OpenSpec.upto pebbleCertificatesSpec)

/-- 'setsquarelaw34.PebbleSound', WHERE WHAT IT READS IS OF BULK AT MOST 1048576: true; the input reads as it did. -/
def pebbleSoundUptoRow : OpenClaim := { program := "ytbhkdodokdgijaa", sum := "f6effa6bf8f7118e3f75131eb01d391f99ab1f7886b4dd1b28b00220a6441b37", func := "setsquare/setsquarelaw34.PebbleSound", spec := "pebbleSound", recurses := true, apart := false, narrowed := true }
def PebbleSoundUptoSaid : Prop := pebbleSoundUptoRow.holds Try.pinned (OpenSpec.upto pebbleSoundSpec)

/-- 'setsquarelaw34.PebbleOrder', WHERE WHAT IT READS IS OF BULK AT MOST 1048576: true; the input reads as it did. -/
def pebbleOrderUptoRow : OpenClaim := { program := "ytbhkdodokdgijaa", sum := "f6effa6bf8f7118e3f75131eb01d391f99ab1f7886b4dd1b28b00220a6441b37", func := "setsquare/setsquarelaw34.PebbleOrder", spec := "pebbleOrder", recurses := true, apart := false, narrowed := true }
def PebbleOrderUptoSaid : Prop := pebbleOrderUptoRow.holds Try.pinned (OpenSpec.upto pebbleOrderSpec)

/-- 'setsquarelaw34.PebbleBounds', WHERE WHAT IT READS IS OF BULK AT MOST 1048576: true; the input reads as it did. -/
def pebbleBoundsUptoRow : OpenClaim := { program := "ytbhkdodokdgijaa", sum := "f6effa6bf8f7118e3f75131eb01d391f99ab1f7886b4dd1b28b00220a6441b37", func := "setsquare/setsquarelaw34.PebbleBounds", spec := "pebbleBounds", unfollowed := true, recurses := true, apart := false, narrowed := true }
def PebbleBoundsUptoSaid : Prop := pebbleBoundsUptoRow.holds Try.pinned (OpenSpec.upto pebbleBoundsSpec)

/-- 'setsquarelaw34.PebbleHenneberg', WHERE WHAT IT READS IS OF BULK AT MOST 1048576: true; the input reads as it did. -/
def pebbleHennebergUptoRow : OpenClaim := { program := "ytbhkdodokdgijaa", sum := "f6effa6bf8f7118e3f75131eb01d391f99ab1f7886b4dd1b28b00220a6441b37", func := "setsquare/setsquarelaw34.PebbleHenneberg", spec := "pebbleHenneberg", unfollowed := true, recurses := true, apart := false, narrowed := true }
def PebbleHennebergUptoSaid : Prop := pebbleHennebergUptoRow.holds Try.pinned (OpenSpec.upto pebbleHennebergSpec)

end Rows
end Go.Proofs.Ytbhkdodokdgijaa
