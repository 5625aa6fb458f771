/-
  No cell of these rows narrows 'for every input' (looked for: loops, veiled, ifaces, maps, wideKeys, modest, calm, conditions, laid).
  DERIVED. THE GIVEN ROWS OF THIS SEAT. 8 by the template 'for every input the law returns true; each argument reads behind the call as it read before'; 0 by the template 'total and deterministic' (their statements: YtpmhaigheadeeaaTotals.lean).
  GIVEN WITH THE SEED: the statements are not yours to turn. If you find one false, say at which input.
  Laid BY PROGRAM, IN A SANDBOX (cutbox-rows.mjs): the forced cells as the released guide's own fill.sh prints them over the translation 9420aa30484d9fdf… (all of the seat's roots in one cut). By AI agents, Wed Nov 11 2026. No macro, syntax, notation, axiom, sorry.
-/
import Derived.Test.YtpmhaigheadeeaaChecked
import GoSem.Claim
import GoSem.ClaimJoined
import GoSem.ClaimMapViews
import Derived.JoinedTies
import Derived.KernelRfl
namespace Go.Proofs.Ytpmhaigheadeeaa
/- THE CELL 'sum', in the pinned program and in every row, IS THE sha256 OF THE DUMP (.gsa) THAT YtpmhaigheadeeaaProg.lean LOADS. Nothing in Lean hashes anything: it is a label: what it is worth is what the hold of that sum in a sandbox is worth. -/
noncomputable def Try.pinned : Pinned := { name := "ytpmhaigheadeeaa", sum := "9420aa30484d9fdf02553e9a33a151faa52ed177e769bcae8db14eb54b2410f9", checked := Try.checked }
namespace Rows
def none {H : Type} : Left H := { results := [], args := [] }

/-- 'hazellaw10.RevTells': WHATEVER THE INPUT: true; the input reads as it did. -/
def revTellsSpec : ChangeSpec := { name := "revTells", fn := fun _ => fun
  | [d1, d2, d3] => { results := [.lit (.bool true)], args := [d1, d2, d3] }
  | _ => none }
def revTellsRow : OpenClaim := { program := "ytpmhaigheadeeaa", sum := "9420aa30484d9fdf02553e9a33a151faa52ed177e769bcae8db14eb54b2410f9", func := "hazel/hazellaw10.RevTells", spec := "revTells", apart := false }
def RevTellsSaid : Prop := revTellsRow.holds Try.pinned (OpenSpec.ofChange revTellsSpec)

/-- ITS FALSE NEIGHBOUR: 'it returns false'. Refute it at one input. -/
def revTellsWrong : ChangeSpec := { name := "revTells", fn := fun _ => fun
  | [d1, d2, d3] => { results := [.lit (.bool false)], args := [d1, d2, d3] }
  | _ => none }
def RevTellsWrongFalsely : Prop := revTellsRow.holds Try.pinned (OpenSpec.ofChange revTellsWrong)

/-- 'hazellaw10.RevBack': WHATEVER THE INPUT: true; the input reads as it did. -/
def revBackSpec : ChangeSpec := { name := "revBack", fn := fun _ => fun
  | [d1, d2] => { results := [.lit (.bool true)], args := [d1, d2] }
  | _ => none }
def revBackRow : OpenClaim := { program := "ytpmhaigheadeeaa", sum := "9420aa30484d9fdf02553e9a33a151faa52ed177e769bcae8db14eb54b2410f9", func := "hazel/hazellaw10.RevBack", spec := "revBack", apart := false }
def RevBackSaid : Prop := revBackRow.holds Try.pinned (OpenSpec.ofChange revBackSpec)

/-- ITS FALSE NEIGHBOUR: 'it returns false'. Refute it at one input. -/
def revBackWrong : ChangeSpec := { name := "revBack", fn := fun _ => fun
  | [d1, d2] => { results := [.lit (.bool false)], args := [d1, d2] }
  | _ => none }
def RevBackWrongFalsely : Prop := revBackRow.holds Try.pinned (OpenSpec.ofChange revBackWrong)

/-- 'hazellaw10.RevSplits': WHATEVER THE INPUT: true; the input reads as it did. -/
def revSplitsSpec : ChangeSpec := { name := "revSplits", fn := fun _ => fun
  | [d1, d2, d3] => { results := [.lit (.bool true)], args := [d1, d2, d3] }
  | _ => none }
def revSplitsRow : OpenClaim := { program := "ytpmhaigheadeeaa", sum := "9420aa30484d9fdf02553e9a33a151faa52ed177e769bcae8db14eb54b2410f9", func := "hazel/hazellaw10.RevSplits", spec := "revSplits", apart := false }
def RevSplitsSaid : Prop := revSplitsRow.holds Try.pinned (OpenSpec.ofChange revSplitsSpec)

/-- ITS FALSE NEIGHBOUR: 'it returns false'. Refute it at one input. -/
def revSplitsWrong : ChangeSpec := { name := "revSplits", fn := fun _ => fun
  | [d1, d2, d3] => { results := [.lit (.bool false)], args := [d1, d2, d3] }
  | _ => none }
def RevSplitsWrongFalsely : Prop := revSplitsRow.holds Try.pinned (OpenSpec.ofChange revSplitsWrong)

/-- 'hazellaw10.RevParents': WHATEVER THE INPUT: true; the input reads as it did. -/
def revParentsSpec : ChangeSpec := { name := "revParents", fn := fun _ => fun
  | [d] => { results := [.lit (.bool true)], args := [d] }
  | _ => none }
def revParentsRow : OpenClaim := { program := "ytpmhaigheadeeaa", sum := "9420aa30484d9fdf02553e9a33a151faa52ed177e769bcae8db14eb54b2410f9", func := "hazel/hazellaw10.RevParents", spec := "revParents", apart := false }
def RevParentsSaid : Prop := revParentsRow.holds Try.pinned (OpenSpec.ofChange revParentsSpec)

/-- ITS FALSE NEIGHBOUR: 'it returns false'. Refute it at one input. -/
def revParentsWrong : ChangeSpec := { name := "revParents", fn := fun _ => fun
  | [d] => { results := [.lit (.bool false)], args := [d] }
  | _ => none }
def RevParentsWrongFalsely : Prop := revParentsRow.holds Try.pinned (OpenSpec.ofChange revParentsWrong)

/-- 'hazellaw10.RevBits': WHATEVER THE INPUT: true; the input reads as it did. -/
def revBitsSpec : ChangeSpec := { name := "revBits", fn := fun _ => fun
  | [d1, d2] => { results := [.lit (.bool true)], args := [d1, d2] }
  | _ => none }
def revBitsRow : OpenClaim := { program := "ytpmhaigheadeeaa", sum := "9420aa30484d9fdf02553e9a33a151faa52ed177e769bcae8db14eb54b2410f9", func := "hazel/hazellaw10.RevBits", spec := "revBits", apart := false }
def RevBitsSaid : Prop := revBitsRow.holds Try.pinned (OpenSpec.ofChange revBitsSpec)

/-- ITS FALSE NEIGHBOUR: 'it returns false'. Refute it at one input. -/
def revBitsWrong : ChangeSpec := { name := "revBits", fn := fun _ => fun
  | [d1, d2] => { results := [.lit (.bool false)], args := [d1, d2] }
  | _ => none }
def RevBitsWrongFalsely : Prop := revBitsRow.holds Try.pinned (OpenSpec.ofChange revBitsWrong)

/-- 'hazellaw10.RevNames': WHATEVER THE INPUT: true; the input reads as it did. -/
def revNamesSpec : ChangeSpec := { name := "revNames", fn := fun _ => fun
  | [d] => { results := [.lit (.bool true)], args := [d] }
  | _ => none }
def revNamesRow : OpenClaim := { program := "ytpmhaigheadeeaa", sum := "9420aa30484d9fdf02553e9a33a151faa52ed177e769bcae8db14eb54b2410f9", func := "hazel/hazellaw10.RevNames", spec := "revNames", apart := false }
def RevNamesSaid : Prop := revNamesRow.holds Try.pinned (OpenSpec.ofChange revNamesSpec)

/-- ITS FALSE NEIGHBOUR: 'it returns false'. Refute it at one input. -/
def revNamesWrong : ChangeSpec := { name := "revNames", fn := fun _ => fun
  | [d] => { results := [.lit (.bool false)], args := [d] }
  | _ => none }
def RevNamesWrongFalsely : Prop := revNamesRow.holds Try.pinned (OpenSpec.ofChange revNamesWrong)

/-- 'hazellaw10.RevBuckets': WHATEVER THE INPUT: true; the input reads as it did. -/
def revBucketsSpec : ChangeSpec := { name := "revBuckets", fn := fun _ => fun
  | [d1, d2] => { results := [.lit (.bool true)], args := [d1, d2] }
  | _ => none }
def revBucketsRow : OpenClaim := { program := "ytpmhaigheadeeaa", sum := "9420aa30484d9fdf02553e9a33a151faa52ed177e769bcae8db14eb54b2410f9", func := "hazel/hazellaw10.RevBuckets", spec := "revBuckets", apart := false }
def RevBucketsSaid : Prop := revBucketsRow.holds Try.pinned (OpenSpec.ofChange revBucketsSpec)

/-- ITS FALSE NEIGHBOUR: 'it returns false'. Refute it at one input. -/
def revBucketsWrong : ChangeSpec := { name := "revBuckets", fn := fun _ => fun
  | [d1, d2] => { results := [.lit (.bool false)], args := [d1, d2] }
  | _ => none }
def RevBucketsWrongFalsely : Prop := revBucketsRow.holds Try.pinned (OpenSpec.ofChange revBucketsWrong)

/-- 'hazellaw10.RevOrder': WHATEVER THE INPUT: true; the input reads as it did. -/
def revOrderSpec : ChangeSpec := { name := "revOrder", fn := fun _ => fun
  | [d] => { results := [.lit (.bool true)], args := [d] }
  | _ => none }
def revOrderRow : OpenClaim := { program := "ytpmhaigheadeeaa", sum := "9420aa30484d9fdf02553e9a33a151faa52ed177e769bcae8db14eb54b2410f9", func := "hazel/hazellaw10.RevOrder", spec := "revOrder", apart := false }
def RevOrderSaid : Prop := revOrderRow.holds Try.pinned (OpenSpec.ofChange revOrderSpec)

/-- ITS FALSE NEIGHBOUR: 'it returns false'. Refute it at one input. -/
def revOrderWrong : ChangeSpec := { name := "revOrder", fn := fun _ => fun
  | [d] => { results := [.lit (.bool false)], args := [d] }
  | _ => none }
def RevOrderWrongFalsely : Prop := revOrderRow.holds Try.pinned (OpenSpec.ofChange revOrderWrong)

/- THE SECOND FORM. 'bulk': how many values and letters a reading holds, each counted each time it is reached (what is shared counts as often as it is met; a slice's spare places count too). A statement '..UptoSaid' is the law's where the arguments, and the package variables that the reading takes, are together of bulk at most 1048576: NARROWER than '..Said'. Prove '..Said' where nothing that the law and all that it calls make is longer than what came in: it says more and counts as full. Else prove '..UptoSaid'. A law counts once. -/
mutual
def uptoBulk {H : Type} : DataW H → Nat
  | .lit (.string bytes) => bytes.length + 1
  | .lit _ => 1
  | .nil => 1
  | .ptr d => uptoBulk d + 1
  | .slice elems spare => uptoBulkAll elems + uptoBulkAll spare + 1
  | .agg parts => uptoBulkAll parts + 1
  | .iface _ d => uptoBulk d + 1
  | .map entries => uptoBulkEntries entries + 1
  | .held _ => 1
def uptoBulkAll {H : Type} : List (DataW H) → Nat
  | [] => 0
  | d :: r => uptoBulk d + uptoBulkAll r
def uptoBulkEntries {H : Type} : List (Lit × DataW H) → Nat
  | [] => 0
  | x :: r => uptoBulkEntry x + uptoBulkEntries r
def uptoBulkEntry {H : Type} : Lit × DataW H → Nat
  | (.string bytes, d) => bytes.length + uptoBulk d + 1
  | (_, d) => uptoBulk d + 1
 end
def uptoSmall : (H : Type) → List (DataW H) → Bool := fun _ ds => decide (uptoBulkAll ds ≤ 1048576)
def OpenSpec.upto (s : _root_.Go.ChangeSpec) : _root_.Go.OpenSpec := { _root_.Go.OpenSpec.ofChange s with cond := some uptoSmall }

/-- 'hazellaw10.RevTells', WHERE WHAT IT READS IS OF BULK AT MOST 1048576: true; the input reads as it did. -/
def revTellsUptoRow : OpenClaim := { program := "ytpmhaigheadeeaa", sum := "9420aa30484d9fdf02553e9a33a151faa52ed177e769bcae8db14eb54b2410f9", func := "hazel/hazellaw10.RevTells", spec := "revTells", apart := false, narrowed := true }
def RevTellsUptoSaid : Prop := revTellsUptoRow.holds Try.pinned (OpenSpec.upto revTellsSpec)

/-- 'hazellaw10.RevBack', WHERE WHAT IT READS IS OF BULK AT MOST 1048576: true; the input reads as it did. -/
def revBackUptoRow : OpenClaim := { program := "ytpmhaigheadeeaa", sum := "9420aa30484d9fdf02553e9a33a151faa52ed177e769bcae8db14eb54b2410f9", func := "hazel/hazellaw10.RevBack", spec := "revBack", apart := false, narrowed := true }
def RevBackUptoSaid : Prop := revBackUptoRow.holds Try.pinned (OpenSpec.upto revBackSpec)

/-- 'hazellaw10.RevSplits', WHERE WHAT IT READS IS OF BULK AT MOST 1048576: true; the input reads as it did. -/
def revSplitsUptoRow : OpenClaim := { program := "ytpmhaigheadeeaa", sum := "9420aa30484d9fdf02553e9a33a151faa52ed177e769bcae8db14eb54b2410f9", func := "hazel/hazellaw10.RevSplits", spec := "revSplits", apart := false, narrowed := true }
def RevSplitsUptoSaid : Prop := revSplitsUptoRow.holds Try.pinned (OpenSpec.upto revSplitsSpec)

/-- 'hazellaw10.RevParents', WHERE WHAT IT READS IS OF BULK AT MOST 1048576: true; the input reads as it did. -/
def revParentsUptoRow : OpenClaim := { program := "ytpmhaigheadeeaa", sum := "9420aa30484d9fdf02553e9a33a151faa52ed177e769bcae8db14eb54b2410f9", func := "hazel/hazellaw10.RevParents", spec := "revParents", apart := false, narrowed := true }
def RevParentsUptoSaid : Prop := revParentsUptoRow.holds Try.pinned (OpenSpec.upto revParentsSpec)

/-- 'hazellaw10.RevBits', WHERE WHAT IT READS IS OF BULK AT MOST 1048576: true; the input reads as it did. -/
def revBitsUptoRow : OpenClaim := { program := "ytpmhaigheadeeaa", sum := "9420aa30484d9fdf02553e9a33a151faa52ed177e769bcae8db14eb54b2410f9", func := "hazel/hazellaw10.RevBits", spec := "revBits", apart := false, narrowed := true }
def RevBitsUptoSaid : Prop := revBitsUptoRow.holds Try.pinned (OpenSpec.upto revBitsSpec)

/-- 'hazellaw10.RevNames', WHERE WHAT IT READS IS OF BULK AT MOST 1048576: true; the input reads as it did. -/
def revNamesUptoRow : OpenClaim := { program := "ytpmhaigheadeeaa", sum := "9420aa30484d9fdf02553e9a33a151faa52ed177e769bcae8db14eb54b2410f9", func := "hazel/hazellaw10.RevNames", spec := "revNames", apart := false, narrowed := true }
def RevNamesUptoSaid : Prop := revNamesUptoRow.holds Try.pinned (OpenSpec.upto revNamesSpec)

/-- 'hazellaw10.RevBuckets', WHERE WHAT IT READS IS OF BULK AT MOST 1048576: true; the input reads as it did. -/
def revBucketsUptoRow : OpenClaim := { program := "ytpmhaigheadeeaa", sum := "9420aa30484d9fdf02553e9a33a151faa52ed177e769bcae8db14eb54b2410f9", func := "hazel/hazellaw10.RevBuckets", spec := "revBuckets", apart := false, narrowed := true }
def RevBucketsUptoSaid : Prop := revBucketsUptoRow.holds Try.pinned (OpenSpec.upto revBucketsSpec)

/-- 'hazellaw10.RevOrder', WHERE WHAT IT READS IS OF BULK AT MOST 1048576: true; the input reads as it did. -/
def revOrderUptoRow : OpenClaim := { program := "ytpmhaigheadeeaa", sum := "9420aa30484d9fdf02553e9a33a151faa52ed177e769bcae8db14eb54b2410f9", func := "hazel/hazellaw10.RevOrder", spec := "revOrder", apart := false, narrowed := true }
def RevOrderUptoSaid : Prop := revOrderUptoRow.holds Try.pinned (OpenSpec.upto revOrderSpec)

end Rows
end Go.Proofs.Ytpmhaigheadeeaa
