/-
  No cell of these rows narrows 'for every input' (looked for: loops, veiled, ifaces, maps, wideKeys, modest, calm, conditions, laid).
  DERIVED. THE GIVEN ROWS OF THIS SEAT. 5 by the template 'for every input the law returns true; each argument reads behind the call as it read before'; 0 by the template 'total and deterministic' (their statements: YtjeiopkfdgllhaaGreatTotals.lean).
  GIVEN WITH THE SEED: the statements are not yours to turn. If you find one false, say at which input.
  Laid BY PROGRAM, IN A SANDBOX (cutbox-rows.mjs): the forced cells as the released guide's own fill.sh prints them over the translation 90d6d4655df809fb… (all of the seat's roots in one cut). By AI agents, Wed Nov 11 2026. No macro, syntax, notation, axiom, sorry.
-/
import Derived.Test.YtjeiopkfdgllhaaGreatChecked
import GoSem.Claim
import GoSem.ClaimJoined
import GoSem.ClaimMapViews
import Derived.JoinedTies
import Derived.KernelRfl
namespace Go.Proofs.YtjeiopkfdgllhaaGreat
/- THE CELL 'sum', in the pinned program and in every row, IS THE sha256 OF THE DUMP (.gsa) THAT YtjeiopkfdgllhaaGreatProg.lean LOADS. Nothing in Lean hashes anything: it is a label: what it is worth is what the hold of that sum in a sandbox is worth. -/
noncomputable def Tryz.pinned : Pinned := { name := "ytjeiopkfdgllhaagreat", sum := "90d6d4655df809fb09b74a858deb3ce72b56fb35432f87884915db64e1dd0592", checked := Tryz.checked }
namespace Rows
def none {H : Type} : Left H := { results := [], args := [] }

/-- 'hazellaw06.ScanTells': WHATEVER THE INPUT: true; the input reads as it did. -/
def scanTellsSpec : ChangeSpec := { name := "scanTells", fn := fun _ => fun
  | [d] => { results := [.lit (.bool true)], args := [d] }
  | _ => none }
def scanTellsRow : OpenClaim := { program := "ytjeiopkfdgllhaagreat", sum := "90d6d4655df809fb09b74a858deb3ce72b56fb35432f87884915db64e1dd0592", func := "hazel/hazellaw06.ScanTells", spec := "scanTells", unfollowed := true, recurses := true, apart := false }
def ScanTellsSaid : Prop := scanTellsRow.holds Tryz.pinned (OpenSpec.ofChange scanTellsSpec)

/-- ITS FALSE NEIGHBOUR: 'it returns false'. Refute it at one input. -/
def scanTellsWrong : ChangeSpec := { name := "scanTells", fn := fun _ => fun
  | [d] => { results := [.lit (.bool false)], args := [d] }
  | _ => none }
def ScanTellsWrongFalsely : Prop := scanTellsRow.holds Tryz.pinned (OpenSpec.ofChange scanTellsWrong)

/-- 'hazellaw07.AllocTells': WHATEVER THE INPUT: true; the input reads as it did. -/
def allocTellsSpec : ChangeSpec := { name := "allocTells", fn := fun _ => fun
  | [d] => { results := [.lit (.bool true)], args := [d] }
  | _ => none }
def allocTellsRow : OpenClaim := { program := "ytjeiopkfdgllhaagreat", sum := "90d6d4655df809fb09b74a858deb3ce72b56fb35432f87884915db64e1dd0592", func := "hazel/hazellaw07.AllocTells", spec := "allocTells", unfollowed := true, recurses := true, apart := false }
def AllocTellsSaid : Prop := allocTellsRow.holds Tryz.pinned (OpenSpec.ofChange allocTellsSpec)

/-- ITS FALSE NEIGHBOUR: 'it returns false'. Refute it at one input. -/
def allocTellsWrong : ChangeSpec := { name := "allocTells", fn := fun _ => fun
  | [d] => { results := [.lit (.bool false)], args := [d] }
  | _ => none }
def AllocTellsWrongFalsely : Prop := allocTellsRow.holds Tryz.pinned (OpenSpec.ofChange allocTellsWrong)

/-- 'hazellaw07.AllocAll': WHATEVER THE INPUT: true; the input reads as it did. -/
def allocAllSpec : ChangeSpec := { name := "allocAll", fn := fun _ => fun
  | [d1, d2, d3] => { results := [.lit (.bool true)], args := [d1, d2, d3] }
  | _ => none }
def allocAllRow : OpenClaim := { program := "ytjeiopkfdgllhaagreat", sum := "90d6d4655df809fb09b74a858deb3ce72b56fb35432f87884915db64e1dd0592", func := "hazel/hazellaw07.AllocAll", spec := "allocAll", unfollowed := true, recurses := true, apart := false }
def AllocAllSaid : Prop := allocAllRow.holds Tryz.pinned (OpenSpec.ofChange allocAllSpec)

/-- ITS FALSE NEIGHBOUR: 'it returns false'. Refute it at one input. -/
def allocAllWrong : ChangeSpec := { name := "allocAll", fn := fun _ => fun
  | [d1, d2, d3] => { results := [.lit (.bool false)], args := [d1, d2, d3] }
  | _ => none }
def AllocAllWrongFalsely : Prop := allocAllRow.holds Tryz.pinned (OpenSpec.ofChange allocAllWrong)

/-- 'hazellaw07.AllocDrops': WHATEVER THE INPUT: true; the input reads as it did. -/
def allocDropsSpec : ChangeSpec := { name := "allocDrops", fn := fun _ => fun
  | [d1, d2, d3] => { results := [.lit (.bool true)], args := [d1, d2, d3] }
  | _ => none }
def allocDropsRow : OpenClaim := { program := "ytjeiopkfdgllhaagreat", sum := "90d6d4655df809fb09b74a858deb3ce72b56fb35432f87884915db64e1dd0592", func := "hazel/hazellaw07.AllocDrops", spec := "allocDrops", unfollowed := true, recurses := true, apart := false }
def AllocDropsSaid : Prop := allocDropsRow.holds Tryz.pinned (OpenSpec.ofChange allocDropsSpec)

/-- ITS FALSE NEIGHBOUR: 'it returns false'. Refute it at one input. -/
def allocDropsWrong : ChangeSpec := { name := "allocDrops", fn := fun _ => fun
  | [d1, d2, d3] => { results := [.lit (.bool false)], args := [d1, d2, d3] }
  | _ => none }
def AllocDropsWrongFalsely : Prop := allocDropsRow.holds Tryz.pinned (OpenSpec.ofChange allocDropsWrong)

/-- 'hazellaw07.AllocLower': WHATEVER THE INPUT: true; the input reads as it did. -/
def allocLowerSpec : ChangeSpec := { name := "allocLower", fn := fun _ => fun
  | [d1, d2] => { results := [.lit (.bool true)], args := [d1, d2] }
  | _ => none }
def allocLowerRow : OpenClaim := { program := "ytjeiopkfdgllhaagreat", sum := "90d6d4655df809fb09b74a858deb3ce72b56fb35432f87884915db64e1dd0592", func := "hazel/hazellaw07.AllocLower", spec := "allocLower", unfollowed := true, recurses := true, apart := false }
def AllocLowerSaid : Prop := allocLowerRow.holds Tryz.pinned (OpenSpec.ofChange allocLowerSpec)

/-- ITS FALSE NEIGHBOUR: 'it returns false'. Refute it at one input. -/
def allocLowerWrong : ChangeSpec := { name := "allocLower", fn := fun _ => fun
  | [d1, d2] => { results := [.lit (.bool false)], args := [d1, d2] }
  | _ => none }
def AllocLowerWrongFalsely : Prop := allocLowerRow.holds Tryz.pinned (OpenSpec.ofChange allocLowerWrong)

/- THE SECOND FORM. 'bulk': how many values and letters a reading holds, each counted each time it is reached (what is shared counts as often as it is met; a slice's spare places count too). A statement '..UptoSaid' is the law's where the arguments, and the package variables that the reading takes, are together of bulk at most 1048576: NARROWER than '..Said'. Prove '..Said' where nothing that the law and all that it calls make is longer than what came in: it says more and counts as full. Else prove '..UptoSaid'. A law counts once. -/
mutual
def uptoBulk {H : Type} : DataW H → Nat
  | .lit (.string bytes) => bytes.length + 1
  | .lit _ => 1
  | .nil => 1
  | .ptr d => uptoBulk d + 1
  | .slice elems spare => uptoBulkAll elems + uptoBulkAll spare + 1
  | .agg parts => uptoBulkAll parts + 1
  | .iface _ d => uptoBulk d + 1
  | .map entries => uptoBulkEntries entries + 1
  | .held _ => 1
def uptoBulkAll {H : Type} : List (DataW H) → Nat
  | [] => 0
  | d :: r => uptoBulk d + uptoBulkAll r
def uptoBulkEntries {H : Type} : List (Lit × DataW H) → Nat
  | [] => 0
  | x :: r => uptoBulkEntry x + uptoBulkEntries r
def uptoBulkEntry {H : Type} : Lit × DataW H → Nat
  | (.string bytes, d) => bytes.length + uptoBulk d + 1
  | (_, d) => uptoBulk d + 1
 end
def uptoSmall : (H : Type) → List (DataW H) → Bool := fun _ ds => decide (uptoBulkAll ds ≤ 1048576)
def OpenSpec.upto (s : _root_.Go.ChangeSpec) : _root_.Go.OpenSpec := { _root_.Go.OpenSpec.ofChange s with cond := some uptoSmall }

/-- 'hazellaw06.ScanTells', WHERE WHAT IT READS IS OF BULK AT MOST 1048576: true; the input reads as it did. -/
def scanTellsUptoRow : OpenClaim := { program := "ytjeiopkfdgllhaagreat", sum := "90d6d4655df809fb09b74a858deb3ce72b56fb35432f87884915db64e1dd0592", func := "hazel/hazellaw06.ScanTells", spec := "scanTells", unfollowed := true, recurses := true, apart := false, narrowed := true }
def ScanTellsUptoSaid : Prop := scanTellsUptoRow.holds Tryz.pinned (OpenSpec.upto scanTellsSpec)

/-- 'hazellaw07.AllocTells', WHERE WHAT IT READS IS OF BULK AT MOST 1048576: true; the input reads as it did. -/
def allocTellsUptoRow : OpenClaim := { program := "ytjeiopkfdgllhaagreat", sum := "90d6d4655df809fb09b74a858deb3ce72b56fb35432f87884915db64e1dd0592", func := "hazel/hazellaw07.AllocTells", spec := "allocTells", unfollowed := true, recurses := true, apart := false, narrowed := true }
def AllocTellsUptoSaid : Prop := allocTellsUptoRow.holds Tryz.pinned (OpenSpec.upto allocTellsSpec)

/-- 'hazellaw07.AllocAll', WHERE WHAT IT READS IS OF BULK AT MOST 1048576: true; the input reads as it did. -/
def allocAllUptoRow : OpenClaim := { program := "ytjeiopkfdgllhaagreat", sum := "90d6d4655df809fb09b74a858deb3ce72b56fb35432f87884915db64e1dd0592", func := "hazel/hazellaw07.AllocAll", spec := "allocAll", unfollowed := true, recurses := true, apart := false, narrowed := true }
def AllocAllUptoSaid : Prop := allocAllUptoRow.holds Tryz.pinned (OpenSpec.upto allocAllSpec)

/-- 'hazellaw07.AllocDrops', WHERE WHAT IT READS IS OF BULK AT MOST 1048576: true; the input reads as it did. -/
def allocDropsUptoRow : OpenClaim := { program := "ytjeiopkfdgllhaagreat", sum := "90d6d4655df809fb09b74a858deb3ce72b56fb35432f87884915db64e1dd0592", func := "hazel/hazellaw07.AllocDrops", spec := "allocDrops", unfollowed := true, recurses := true, apart := false, narrowed := true }
def AllocDropsUptoSaid : Prop := allocDropsUptoRow.holds Tryz.pinned (OpenSpec.upto allocDropsSpec)

/-- 'hazellaw07.AllocLower', WHERE WHAT IT READS IS OF BULK AT MOST 1048576: true; the input reads as it did. -/
def allocLowerUptoRow : OpenClaim := { program := "ytjeiopkfdgllhaagreat", sum := "90d6d4655df809fb09b74a858deb3ce72b56fb35432f87884915db64e1dd0592", func := "hazel/hazellaw07.AllocLower", spec := "allocLower", unfollowed := true, recurses := true, apart := false, narrowed := true }
def AllocLowerUptoSaid : Prop := allocLowerUptoRow.holds Tryz.pinned (OpenSpec.upto allocLowerSpec)

end Rows
end Go.Proofs.YtjeiopkfdgllhaaGreat
