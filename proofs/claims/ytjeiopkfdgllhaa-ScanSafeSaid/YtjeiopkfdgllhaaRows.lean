/-
  No cell of these rows narrows 'for every input' (looked for: loops, veiled, ifaces, maps, wideKeys, modest, calm, conditions, laid).
  DERIVED. THE GIVEN ROWS OF THIS SEAT. 5 by the template 'for every input the law returns true; each argument reads behind the call as it read before'; 0 by the template 'total and deterministic' (their statements: YtjeiopkfdgllhaaTotals.lean).
  GIVEN WITH THE SEED: the statements are not yours to turn. If you find one false, say at which input.
  Laid BY PROGRAM, IN A SANDBOX (cutbox-rows.mjs): the forced cells as the released guide's own fill.sh prints them over the translation 6203cea1b90630a0… (all of the seat's roots in one cut). By AI agents, Wed Nov 11 2026. No macro, syntax, notation, axiom, sorry.
-/
import Derived.Test.YtjeiopkfdgllhaaChecked
import GoSem.Claim
import GoSem.ClaimJoined
import GoSem.ClaimMapViews
import Derived.JoinedTies
import Derived.KernelRfl
namespace Go.Proofs.Ytjeiopkfdgllhaa
/- THE CELL 'sum', in the pinned program and in every row, IS THE sha256 OF THE DUMP (.gsa) THAT YtjeiopkfdgllhaaProg.lean LOADS. Nothing in Lean hashes anything: it is a label: what it is worth is what the hold of that sum in a sandbox is worth. -/
noncomputable def Try.pinned : Pinned := { name := "ytjeiopkfdgllhaa", sum := "6203cea1b90630a0da19b6207a242b4cb272843acbd484800274d9a04177d782", checked := Try.checked }
namespace Rows
def none {H : Type} : Left H := { results := [], args := [] }

/-- 'hazellaw06.ScanSafe': WHATEVER THE INPUT: true; the input reads as it did. -/
def scanSafeSpec : ChangeSpec := { name := "scanSafe", fn := fun _ => fun
  | [d1, d2, d3] => { results := [.lit (.bool true)], args := [d1, d2, d3] }
  | _ => none }
def scanSafeRow : OpenClaim := { program := "ytjeiopkfdgllhaa", sum := "6203cea1b90630a0da19b6207a242b4cb272843acbd484800274d9a04177d782", func := "hazel/hazellaw06.ScanSafe", spec := "scanSafe", unfollowed := true, recurses := true, apart := false }
def ScanSafeSaid : Prop := scanSafeRow.holds Try.pinned (OpenSpec.ofChange scanSafeSpec)

/-- ITS FALSE NEIGHBOUR: 'it returns false'. Refute it at one input. -/
def scanSafeWrong : ChangeSpec := { name := "scanSafe", fn := fun _ => fun
  | [d1, d2, d3] => { results := [.lit (.bool false)], args := [d1, d2, d3] }
  | _ => none }
def ScanSafeWrongFalsely : Prop := scanSafeRow.holds Try.pinned (OpenSpec.ofChange scanSafeWrong)

/-- 'hazellaw06.ScanRetires': WHATEVER THE INPUT: true; the input reads as it did. -/
def scanRetiresSpec : ChangeSpec := { name := "scanRetires", fn := fun _ => fun
  | [d1, d2, d3] => { results := [.lit (.bool true)], args := [d1, d2, d3] }
  | _ => none }
def scanRetiresRow : OpenClaim := { program := "ytjeiopkfdgllhaa", sum := "6203cea1b90630a0da19b6207a242b4cb272843acbd484800274d9a04177d782", func := "hazel/hazellaw06.ScanRetires", spec := "scanRetires", unfollowed := true, recurses := true, apart := false }
def ScanRetiresSaid : Prop := scanRetiresRow.holds Try.pinned (OpenSpec.ofChange scanRetiresSpec)

/-- ITS FALSE NEIGHBOUR: 'it returns false'. Refute it at one input. -/
def scanRetiresWrong : ChangeSpec := { name := "scanRetires", fn := fun _ => fun
  | [d1, d2, d3] => { results := [.lit (.bool false)], args := [d1, d2, d3] }
  | _ => none }
def ScanRetiresWrongFalsely : Prop := scanRetiresRow.holds Try.pinned (OpenSpec.ofChange scanRetiresWrong)

/-- 'hazellaw06.ScanSees': WHATEVER THE INPUT: true; the input reads as it did. -/
def scanSeesSpec : ChangeSpec := { name := "scanSees", fn := fun _ => fun
  | [d1, d2, d3] => { results := [.lit (.bool true)], args := [d1, d2, d3] }
  | _ => none }
def scanSeesRow : OpenClaim := { program := "ytjeiopkfdgllhaa", sum := "6203cea1b90630a0da19b6207a242b4cb272843acbd484800274d9a04177d782", func := "hazel/hazellaw06.ScanSees", spec := "scanSees", unfollowed := true, recurses := true, apart := false }
def ScanSeesSaid : Prop := scanSeesRow.holds Try.pinned (OpenSpec.ofChange scanSeesSpec)

/-- ITS FALSE NEIGHBOUR: 'it returns false'. Refute it at one input. -/
def scanSeesWrong : ChangeSpec := { name := "scanSees", fn := fun _ => fun
  | [d1, d2, d3] => { results := [.lit (.bool false)], args := [d1, d2, d3] }
  | _ => none }
def ScanSeesWrongFalsely : Prop := scanSeesRow.holds Try.pinned (OpenSpec.ofChange scanSeesWrong)

/-- 'hazellaw07.AllocParts': WHATEVER THE INPUT: true; the input reads as it did. -/
def allocPartsSpec : ChangeSpec := { name := "allocParts", fn := fun _ => fun
  | [d1, d2] => { results := [.lit (.bool true)], args := [d1, d2] }
  | _ => none }
def allocPartsRow : OpenClaim := { program := "ytjeiopkfdgllhaa", sum := "6203cea1b90630a0da19b6207a242b4cb272843acbd484800274d9a04177d782", func := "hazel/hazellaw07.AllocParts", spec := "allocParts", unfollowed := true, recurses := true, apart := false }
def AllocPartsSaid : Prop := allocPartsRow.holds Try.pinned (OpenSpec.ofChange allocPartsSpec)

/-- ITS FALSE NEIGHBOUR: 'it returns false'. Refute it at one input. -/
def allocPartsWrong : ChangeSpec := { name := "allocParts", fn := fun _ => fun
  | [d1, d2] => { results := [.lit (.bool false)], args := [d1, d2] }
  | _ => none }
def AllocPartsWrongFalsely : Prop := allocPartsRow.holds Try.pinned (OpenSpec.ofChange allocPartsWrong)

/-- 'hazellaw07.AllocSafe': WHATEVER THE INPUT: true; the input reads as it did. -/
def allocSafeSpec : ChangeSpec := { name := "allocSafe", fn := fun _ => fun
  | [d1, d2, d3] => { results := [.lit (.bool true)], args := [d1, d2, d3] }
  | _ => none }
def allocSafeRow : OpenClaim := { program := "ytjeiopkfdgllhaa", sum := "6203cea1b90630a0da19b6207a242b4cb272843acbd484800274d9a04177d782", func := "hazel/hazellaw07.AllocSafe", spec := "allocSafe", unfollowed := true, recurses := true, apart := false }
def AllocSafeSaid : Prop := allocSafeRow.holds Try.pinned (OpenSpec.ofChange allocSafeSpec)

/-- ITS FALSE NEIGHBOUR: 'it returns false'. Refute it at one input. -/
def allocSafeWrong : ChangeSpec := { name := "allocSafe", fn := fun _ => fun
  | [d1, d2, d3] => { results := [.lit (.bool false)], args := [d1, d2, d3] }
  | _ => none }
def AllocSafeWrongFalsely : Prop := allocSafeRow.holds Try.pinned (OpenSpec.ofChange allocSafeWrong)

/- THE SECOND FORM. 'bulk': how many values and letters a reading holds, each counted each time it is reached (what is shared counts as often as it is met; a slice's spare places count too). A statement '..UptoSaid' is the law's where the arguments, and the package variables that the reading takes, are together of bulk at most 1048576: NARROWER than '..Said'. Prove '..Said' where nothing that the law and all that it calls make is longer than what came in: it says more and counts as full. Else prove '..UptoSaid'. A law counts once. -/
mutual
def uptoBulk {H : Type} : DataW H → Nat
  | .lit (.string bytes) => bytes.length + 1
  | .lit _ => 1
  | .nil => 1
  | .ptr d => uptoBulk d + 1
  | .slice elems spare => uptoBulkAll elems + uptoBulkAll spare + 1
  | .agg parts => uptoBulkAll parts + 1
  | .iface _ d => uptoBulk d + 1
  | .map entries => uptoBulkEntries entries + 1
  | .held _ => 1
def uptoBulkAll {H : Type} : List (DataW H) → Nat
  | [] => 0
  | d :: r => uptoBulk d + uptoBulkAll r
def uptoBulkEntries {H : Type} : List (Lit × DataW H) → Nat
  | [] => 0
  | x :: r => uptoBulkEntry x + uptoBulkEntries r
def uptoBulkEntry {H : Type} : Lit × DataW H → Nat
  | (.string bytes, d) => bytes.length + uptoBulk d + 1
  | (_, d) => uptoBulk d + 1
 end
def uptoSmall : (H : Type) → List (DataW H) → Bool := fun _ ds => decide (uptoBulkAll ds ≤ 1048576)
def OpenSpec.upto (s : _root_.Go.ChangeSpec) : _root_.Go.OpenSpec := { _root_.Go.OpenSpec.ofChange s with cond := some uptoSmall }

/-- 'hazellaw06.ScanSafe', WHERE WHAT IT READS IS OF BULK AT MOST 1048576: true; the input reads as it did. -/
def scanSafeUptoRow : OpenClaim := { program := "ytjeiopkfdgllhaa", sum := "6203cea1b90630a0da19b6207a242b4cb272843acbd484800274d9a04177d782", func := "hazel/hazellaw06.ScanSafe", spec := "scanSafe", unfollowed := true, recurses := true, apart := false, narrowed := true }
def ScanSafeUptoSaid : Prop := scanSafeUptoRow.holds Try.pinned (OpenSpec.upto scanSafeSpec)

/-- 'hazellaw06.ScanRetires', WHERE WHAT IT READS IS OF BULK AT MOST 1048576: true; the input reads as it did. -/
def scanRetiresUptoRow : OpenClaim := { program := "ytjeiopkfdgllhaa", sum := "6203cea1b90630a0da19b6207a242b4cb272843acbd484800274d9a04177d782", func := "hazel/hazellaw06.ScanRetires", spec := "scanRetires", unfollowed := true, recurses := true, apart := false, narrowed := true }
def ScanRetiresUptoSaid : Prop := scanRetiresUptoRow.holds Try.pinned (OpenSpec.upto scanRetiresSpec)

/-- 'hazellaw06.ScanSees', WHERE WHAT IT READS IS OF BULK AT MOST 1048576: true; the input reads as it did. -/
def scanSeesUptoRow : OpenClaim := { program := "ytjeiopkfdgllhaa", sum := "6203cea1b90630a0da19b6207a242b4cb272843acbd484800274d9a04177d782", func := "hazel/hazellaw06.ScanSees", spec := "scanSees", unfollowed := true, recurses := true, apart := false, narrowed := true }
def ScanSeesUptoSaid : Prop := scanSeesUptoRow.holds Try.pinned (OpenSpec.upto scanSeesSpec)

/-- 'hazellaw07.AllocParts', WHERE WHAT IT READS IS OF BULK AT MOST 1048576: true; the input reads as it did. -/
def allocPartsUptoRow : OpenClaim := { program := "ytjeiopkfdgllhaa", sum := "6203cea1b90630a0da19b6207a242b4cb272843acbd484800274d9a04177d782", func := "hazel/hazellaw07.AllocParts", spec := "allocParts", unfollowed := true, recurses := true, apart := false, narrowed := true }
def AllocPartsUptoSaid : Prop := allocPartsUptoRow.holds Try.pinned (OpenSpec.upto allocPartsSpec)

/-- 'hazellaw07.AllocSafe', WHERE WHAT IT READS IS OF BULK AT MOST 1048576: true; the input reads as it did. -/
def allocSafeUptoRow : OpenClaim := { program := "ytjeiopkfdgllhaa", sum := "6203cea1b90630a0da19b6207a242b4cb272843acbd484800274d9a04177d782", func := "hazel/hazellaw07.AllocSafe", spec := "allocSafe", unfollowed := true, recurses := true, apart := false, narrowed := true }
def AllocSafeUptoSaid : Prop := allocSafeUptoRow.holds Try.pinned (OpenSpec.upto allocSafeSpec)

end Rows
end Go.Proofs.Ytjeiopkfdgllhaa
