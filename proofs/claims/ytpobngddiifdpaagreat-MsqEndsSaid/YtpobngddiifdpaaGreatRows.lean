/-
  No cell of these rows narrows 'for every input' (looked for: loops, veiled, ifaces, maps, wideKeys, modest, calm, conditions, laid).
  DERIVED. THE GIVEN ROWS OF THIS SEAT. 12 by the template 'for every input the law returns true; each argument reads behind the call as it read before'; 0 by the template 'total and deterministic' (their statements: YtpobngddiifdpaaGreatTotals.lean).
  GIVEN WITH THE SEED: the statements are not yours to turn. If you find one false, say at which input.
  Laid BY PROGRAM, IN A SANDBOX (cutbox-rows.mjs): the forced cells as the released guide's own fill.sh prints them over the translation 5c4185d5731ea34b… (all of the seat's roots in one cut). By AI agents, Wed Nov 11 2026. No macro, syntax, notation, axiom, sorry.
-/
import Derived.Test.YtpobngddiifdpaaGreatChecked
import GoSem.Claim
import GoSem.ClaimJoined
import GoSem.ClaimMapViews
import Derived.JoinedTies
import Derived.KernelRfl
namespace Go.Proofs.YtpobngddiifdpaaGreat
/- THE CELL 'sum', in the pinned program and in every row, IS THE sha256 OF THE DUMP (.gsa) THAT YtpobngddiifdpaaGreatProg.lean LOADS. Nothing in Lean hashes anything: it is a label: what it is worth is what the hold of that sum in a sandbox is worth. -/
noncomputable def Tryz.pinned : Pinned := { name := "ytpobngddiifdpaagreat", sum := "5c4185d5731ea34b548e2511cdef606caa070bd802725a03b9f536dcd7e407be", checked := Tryz.checked }
namespace Rows
def none {H : Type} : Left H := { results := [], args := [] }

/-- 'hazellaw08.MsqTells': WHATEVER THE INPUT: true; the input reads as it did. -/
def msqTellsSpec : ChangeSpec := { name := "msqTells", fn := fun _ => fun
  | [d] => { results := [.lit (.bool true)], args := [d] }
  | _ => none }
def msqTellsRow : OpenClaim := { program := "ytpobngddiifdpaagreat", sum := "5c4185d5731ea34b548e2511cdef606caa070bd802725a03b9f536dcd7e407be", func := "hazel/hazellaw08.MsqTells", spec := "msqTells", unfollowed := true, recurses := true, apart := false }
def MsqTellsSaid : Prop := msqTellsRow.holds Tryz.pinned (OpenSpec.ofChange msqTellsSpec)

/-- ITS FALSE NEIGHBOUR: 'it returns false'. Refute it at one input. -/
def msqTellsWrong : ChangeSpec := { name := "msqTells", fn := fun _ => fun
  | [d] => { results := [.lit (.bool false)], args := [d] }
  | _ => none }
def MsqTellsWrongFalsely : Prop := msqTellsRow.holds Tryz.pinned (OpenSpec.ofChange msqTellsWrong)

/-- 'hazellaw08.MsqLegal': WHATEVER THE INPUT: true; the input reads as it did. -/
def msqLegalSpec : ChangeSpec := { name := "msqLegal", fn := fun _ => fun
  | [d1, d2, d3] => { results := [.lit (.bool true)], args := [d1, d2, d3] }
  | _ => none }
def msqLegalRow : OpenClaim := { program := "ytpobngddiifdpaagreat", sum := "5c4185d5731ea34b548e2511cdef606caa070bd802725a03b9f536dcd7e407be", func := "hazel/hazellaw08.MsqLegal", spec := "msqLegal", unfollowed := true, recurses := true, apart := false }
def MsqLegalSaid : Prop := msqLegalRow.holds Tryz.pinned (OpenSpec.ofChange msqLegalSpec)

/-- ITS FALSE NEIGHBOUR: 'it returns false'. Refute it at one input. -/
def msqLegalWrong : ChangeSpec := { name := "msqLegal", fn := fun _ => fun
  | [d1, d2, d3] => { results := [.lit (.bool false)], args := [d1, d2, d3] }
  | _ => none }
def MsqLegalWrongFalsely : Prop := msqLegalRow.holds Tryz.pinned (OpenSpec.ofChange msqLegalWrong)

/-- 'hazellaw08.MsqOnce': WHATEVER THE INPUT: true; the input reads as it did. -/
def msqOnceSpec : ChangeSpec := { name := "msqOnce", fn := fun _ => fun
  | [d1, d2, d3] => { results := [.lit (.bool true)], args := [d1, d2, d3] }
  | _ => none }
def msqOnceRow : OpenClaim := { program := "ytpobngddiifdpaagreat", sum := "5c4185d5731ea34b548e2511cdef606caa070bd802725a03b9f536dcd7e407be", func := "hazel/hazellaw08.MsqOnce", spec := "msqOnce", unfollowed := true, recurses := true, apart := false }
def MsqOnceSaid : Prop := msqOnceRow.holds Tryz.pinned (OpenSpec.ofChange msqOnceSpec)

/-- ITS FALSE NEIGHBOUR: 'it returns false'. Refute it at one input. -/
def msqOnceWrong : ChangeSpec := { name := "msqOnce", fn := fun _ => fun
  | [d1, d2, d3] => { results := [.lit (.bool false)], args := [d1, d2, d3] }
  | _ => none }
def MsqOnceWrongFalsely : Prop := msqOnceRow.holds Tryz.pinned (OpenSpec.ofChange msqOnceWrong)

/-- 'hazellaw08.MsqMoves': WHATEVER THE INPUT: true; the input reads as it did. -/
def msqMovesSpec : ChangeSpec := { name := "msqMoves", fn := fun _ => fun
  | [d1, d2, d3] => { results := [.lit (.bool true)], args := [d1, d2, d3] }
  | _ => none }
def msqMovesRow : OpenClaim := { program := "ytpobngddiifdpaagreat", sum := "5c4185d5731ea34b548e2511cdef606caa070bd802725a03b9f536dcd7e407be", func := "hazel/hazellaw08.MsqMoves", spec := "msqMoves", unfollowed := true, recurses := true, apart := false }
def MsqMovesSaid : Prop := msqMovesRow.holds Tryz.pinned (OpenSpec.ofChange msqMovesSpec)

/-- ITS FALSE NEIGHBOUR: 'it returns false'. Refute it at one input. -/
def msqMovesWrong : ChangeSpec := { name := "msqMoves", fn := fun _ => fun
  | [d1, d2, d3] => { results := [.lit (.bool false)], args := [d1, d2, d3] }
  | _ => none }
def MsqMovesWrongFalsely : Prop := msqMovesRow.holds Tryz.pinned (OpenSpec.ofChange msqMovesWrong)

/-- 'hazellaw08.MsqEnds': WHATEVER THE INPUT: true; the input reads as it did. -/
def msqEndsSpec : ChangeSpec := { name := "msqEnds", fn := fun _ => fun
  | [d1, d2, d3] => { results := [.lit (.bool true)], args := [d1, d2, d3] }
  | _ => none }
def msqEndsRow : OpenClaim := { program := "ytpobngddiifdpaagreat", sum := "5c4185d5731ea34b548e2511cdef606caa070bd802725a03b9f536dcd7e407be", func := "hazel/hazellaw08.MsqEnds", spec := "msqEnds", unfollowed := true, recurses := true, apart := false }
def MsqEndsSaid : Prop := msqEndsRow.holds Tryz.pinned (OpenSpec.ofChange msqEndsSpec)

/-- ITS FALSE NEIGHBOUR: 'it returns false'. Refute it at one input. -/
def msqEndsWrong : ChangeSpec := { name := "msqEnds", fn := fun _ => fun
  | [d1, d2, d3] => { results := [.lit (.bool false)], args := [d1, d2, d3] }
  | _ => none }
def MsqEndsWrongFalsely : Prop := msqEndsRow.holds Tryz.pinned (OpenSpec.ofChange msqEndsWrong)

/-- 'hazellaw09.ListTells': WHATEVER THE INPUT: true; the input reads as it did. -/
def listTellsSpec : ChangeSpec := { name := "listTells", fn := fun _ => fun
  | [d] => { results := [.lit (.bool true)], args := [d] }
  | _ => none }
def listTellsRow : OpenClaim := { program := "ytpobngddiifdpaagreat", sum := "5c4185d5731ea34b548e2511cdef606caa070bd802725a03b9f536dcd7e407be", func := "hazel/hazellaw09.ListTells", spec := "listTells", unfollowed := true, recurses := true, apart := false }
def ListTellsSaid : Prop := listTellsRow.holds Tryz.pinned (OpenSpec.ofChange listTellsSpec)

/-- ITS FALSE NEIGHBOUR: 'it returns false'. Refute it at one input. -/
def listTellsWrong : ChangeSpec := { name := "listTells", fn := fun _ => fun
  | [d] => { results := [.lit (.bool false)], args := [d] }
  | _ => none }
def ListTellsWrongFalsely : Prop := listTellsRow.holds Tryz.pinned (OpenSpec.ofChange listTellsWrong)

/-- 'hazellaw09.ListLegal': WHATEVER THE INPUT: true; the input reads as it did. -/
def listLegalSpec : ChangeSpec := { name := "listLegal", fn := fun _ => fun
  | [d1, d2, d3] => { results := [.lit (.bool true)], args := [d1, d2, d3] }
  | _ => none }
def listLegalRow : OpenClaim := { program := "ytpobngddiifdpaagreat", sum := "5c4185d5731ea34b548e2511cdef606caa070bd802725a03b9f536dcd7e407be", func := "hazel/hazellaw09.ListLegal", spec := "listLegal", unfollowed := true, recurses := true, apart := false }
def ListLegalSaid : Prop := listLegalRow.holds Tryz.pinned (OpenSpec.ofChange listLegalSpec)

/-- ITS FALSE NEIGHBOUR: 'it returns false'. Refute it at one input. -/
def listLegalWrong : ChangeSpec := { name := "listLegal", fn := fun _ => fun
  | [d1, d2, d3] => { results := [.lit (.bool false)], args := [d1, d2, d3] }
  | _ => none }
def ListLegalWrongFalsely : Prop := listLegalRow.holds Tryz.pinned (OpenSpec.ofChange listLegalWrong)

/-- 'hazellaw09.ListOnce': WHATEVER THE INPUT: true; the input reads as it did. -/
def listOnceSpec : ChangeSpec := { name := "listOnce", fn := fun _ => fun
  | [d1, d2, d3] => { results := [.lit (.bool true)], args := [d1, d2, d3] }
  | _ => none }
def listOnceRow : OpenClaim := { program := "ytpobngddiifdpaagreat", sum := "5c4185d5731ea34b548e2511cdef606caa070bd802725a03b9f536dcd7e407be", func := "hazel/hazellaw09.ListOnce", spec := "listOnce", unfollowed := true, recurses := true, apart := false }
def ListOnceSaid : Prop := listOnceRow.holds Tryz.pinned (OpenSpec.ofChange listOnceSpec)

/-- ITS FALSE NEIGHBOUR: 'it returns false'. Refute it at one input. -/
def listOnceWrong : ChangeSpec := { name := "listOnce", fn := fun _ => fun
  | [d1, d2, d3] => { results := [.lit (.bool false)], args := [d1, d2, d3] }
  | _ => none }
def ListOnceWrongFalsely : Prop := listOnceRow.holds Tryz.pinned (OpenSpec.ofChange listOnceWrong)

/-- 'hazellaw09.ListParts': WHATEVER THE INPUT: true; the input reads as it did. -/
def listPartsSpec : ChangeSpec := { name := "listParts", fn := fun _ => fun
  | [d1, d2, d3] => { results := [.lit (.bool true)], args := [d1, d2, d3] }
  | _ => none }
def listPartsRow : OpenClaim := { program := "ytpobngddiifdpaagreat", sum := "5c4185d5731ea34b548e2511cdef606caa070bd802725a03b9f536dcd7e407be", func := "hazel/hazellaw09.ListParts", spec := "listParts", unfollowed := true, recurses := true, apart := false }
def ListPartsSaid : Prop := listPartsRow.holds Tryz.pinned (OpenSpec.ofChange listPartsSpec)

/-- ITS FALSE NEIGHBOUR: 'it returns false'. Refute it at one input. -/
def listPartsWrong : ChangeSpec := { name := "listParts", fn := fun _ => fun
  | [d1, d2, d3] => { results := [.lit (.bool false)], args := [d1, d2, d3] }
  | _ => none }
def ListPartsWrongFalsely : Prop := listPartsRow.holds Tryz.pinned (OpenSpec.ofChange listPartsWrong)

/-- 'hazellaw09.ListAlone': WHATEVER THE INPUT: true; the input reads as it did. -/
def listAloneSpec : ChangeSpec := { name := "listAlone", fn := fun _ => fun
  | [d1, d2] => { results := [.lit (.bool true)], args := [d1, d2] }
  | _ => none }
def listAloneRow : OpenClaim := { program := "ytpobngddiifdpaagreat", sum := "5c4185d5731ea34b548e2511cdef606caa070bd802725a03b9f536dcd7e407be", func := "hazel/hazellaw09.ListAlone", spec := "listAlone", unfollowed := true, recurses := true, apart := false }
def ListAloneSaid : Prop := listAloneRow.holds Tryz.pinned (OpenSpec.ofChange listAloneSpec)

/-- ITS FALSE NEIGHBOUR: 'it returns false'. Refute it at one input. -/
def listAloneWrong : ChangeSpec := { name := "listAlone", fn := fun _ => fun
  | [d1, d2] => { results := [.lit (.bool false)], args := [d1, d2] }
  | _ => none }
def ListAloneWrongFalsely : Prop := listAloneRow.holds Tryz.pinned (OpenSpec.ofChange listAloneWrong)

/-- 'hazellaw09.ListRises': WHATEVER THE INPUT: true; the input reads as it did. -/
def listRisesSpec : ChangeSpec := { name := "listRises", fn := fun _ => fun
  | [d1, d2, d3] => { results := [.lit (.bool true)], args := [d1, d2, d3] }
  | _ => none }
def listRisesRow : OpenClaim := { program := "ytpobngddiifdpaagreat", sum := "5c4185d5731ea34b548e2511cdef606caa070bd802725a03b9f536dcd7e407be", func := "hazel/hazellaw09.ListRises", spec := "listRises", unfollowed := true, recurses := true, apart := false }
def ListRisesSaid : Prop := listRisesRow.holds Tryz.pinned (OpenSpec.ofChange listRisesSpec)

/-- ITS FALSE NEIGHBOUR: 'it returns false'. Refute it at one input. -/
def listRisesWrong : ChangeSpec := { name := "listRises", fn := fun _ => fun
  | [d1, d2, d3] => { results := [.lit (.bool false)], args := [d1, d2, d3] }
  | _ => none }
def ListRisesWrongFalsely : Prop := listRisesRow.holds Tryz.pinned (OpenSpec.ofChange listRisesWrong)

/-- 'hazellaw09.ListMarks': WHATEVER THE INPUT: true; the input reads as it did. -/
def listMarksSpec : ChangeSpec := { name := "listMarks", fn := fun _ => fun
  | [d1, d2, d3] => { results := [.lit (.bool true)], args := [d1, d2, d3] }
  | _ => none }
def listMarksRow : OpenClaim := { program := "ytpobngddiifdpaagreat", sum := "5c4185d5731ea34b548e2511cdef606caa070bd802725a03b9f536dcd7e407be", func := "hazel/hazellaw09.ListMarks", spec := "listMarks", unfollowed := true, recurses := true, apart := false }
def ListMarksSaid : Prop := listMarksRow.holds Tryz.pinned (OpenSpec.ofChange listMarksSpec)

/-- ITS FALSE NEIGHBOUR: 'it returns false'. Refute it at one input. -/
def listMarksWrong : ChangeSpec := { name := "listMarks", fn := fun _ => fun
  | [d1, d2, d3] => { results := [.lit (.bool false)], args := [d1, d2, d3] }
  | _ => none }
def ListMarksWrongFalsely : Prop := listMarksRow.holds Tryz.pinned (OpenSpec.ofChange listMarksWrong)

/- THE SECOND FORM. 'bulk': how many values and letters a reading holds, each counted each time it is reached (what is shared counts as often as it is met; a slice's spare places count too). A statement '..UptoSaid' is the law's where the arguments, and the package variables that the reading takes, are together of bulk at most 1048576: NARROWER than '..Said'. Prove '..Said' where nothing that the law and all that it calls make is longer than what came in: it says more and counts as full. Else prove '..UptoSaid'. A law counts once. -/
mutual
def uptoBulk {H : Type} : DataW H → Nat
  | .lit (.string bytes) => bytes.length + 1
  | .lit _ => 1
  | .nil => 1
  | .ptr d => uptoBulk d + 1
  | .slice elems spare => uptoBulkAll elems + uptoBulkAll spare + 1
  | .agg parts => uptoBulkAll parts + 1
  | .iface _ d => uptoBulk d + 1
  | .map entries => uptoBulkEntries entries + 1
  | .held _ => 1
def uptoBulkAll {H : Type} : List (DataW H) → Nat
  | [] => 0
  | d :: r => uptoBulk d + uptoBulkAll r
def uptoBulkEntries {H : Type} : List (Lit × DataW H) → Nat
  | [] => 0
  | x :: r => uptoBulkEntry x + uptoBulkEntries r
def uptoBulkEntry {H : Type} : Lit × DataW H → Nat
  | (.string bytes, d) => bytes.length + uptoBulk d + 1
  | (_, d) => uptoBulk d + 1
 end
def uptoSmall : (H : Type) → List (DataW H) → Bool := fun _ ds => decide (uptoBulkAll ds ≤ 1048576)
def OpenSpec.upto (s : _root_.Go.ChangeSpec) : _root_.Go.OpenSpec := { _root_.Go.OpenSpec.ofChange s with cond := some uptoSmall }

/-- 'hazellaw08.MsqTells', WHERE WHAT IT READS IS OF BULK AT MOST 1048576: true; the input reads as it did. -/
def msqTellsUptoRow : OpenClaim := { program := "ytpobngddiifdpaagreat", sum := "5c4185d5731ea34b548e2511cdef606caa070bd802725a03b9f536dcd7e407be", func := "hazel/hazellaw08.MsqTells", spec := "msqTells", unfollowed := true, recurses := true, apart := false, narrowed := true }
def MsqTellsUptoSaid : Prop := msqTellsUptoRow.holds Tryz.pinned (OpenSpec.upto msqTellsSpec)

/-- 'hazellaw08.MsqLegal', WHERE WHAT IT READS IS OF BULK AT MOST 1048576: true; the input reads as it did. -/
def msqLegalUptoRow : OpenClaim := { program := "ytpobngddiifdpaagreat", sum := "5c4185d5731ea34b548e2511cdef606caa070bd802725a03b9f536dcd7e407be", func := "hazel/hazellaw08.MsqLegal", spec := "msqLegal", unfollowed := true, recurses := true, apart := false, narrowed := true }
def MsqLegalUptoSaid : Prop := msqLegalUptoRow.holds Tryz.pinned (OpenSpec.upto msqLegalSpec)

/-- 'hazellaw08.MsqOnce', WHERE WHAT IT READS IS OF BULK AT MOST 1048576: true; the input reads as it did. -/
def msqOnceUptoRow : OpenClaim := { program := "ytpobngddiifdpaagreat", sum := "5c4185d5731ea34b548e2511cdef606caa070bd802725a03b9f536dcd7e407be", func := "hazel/hazellaw08.MsqOnce", spec := "msqOnce", unfollowed := true, recurses := true, apart := false, narrowed := true }
def MsqOnceUptoSaid : Prop := msqOnceUptoRow.holds Tryz.pinned (OpenSpec.upto msqOnceSpec)

/-- 'hazellaw08.MsqMoves', WHERE WHAT IT READS IS OF BULK AT MOST 1048576: true; the input reads as it did. -/
def msqMovesUptoRow : OpenClaim := { program := "ytpobngddiifdpaagreat", sum := "5c4185d5731ea34b548e2511cdef606caa070bd802725a03b9f536dcd7e407be", func := "hazel/hazellaw08.MsqMoves", spec := "msqMoves", unfollowed := true, recurses := true, apart := false, narrowed := true }
def MsqMovesUptoSaid : Prop := msqMovesUptoRow.holds Tryz.pinned (OpenSpec.upto msqMovesSpec)

/-- 'hazellaw08.MsqEnds', WHERE WHAT IT READS IS OF BULK AT MOST 1048576: true; the input reads as it did. -/
def msqEndsUptoRow : OpenClaim := { program := "ytpobngddiifdpaagreat", sum := "5c4185d5731ea34b548e2511cdef606caa070bd802725a03b9f536dcd7e407be", func := "hazel/hazellaw08.MsqEnds", spec := "msqEnds", unfollowed := true, recurses := true, apart := false, narrowed := true }
def MsqEndsUptoSaid : Prop := msqEndsUptoRow.holds Tryz.pinned (OpenSpec.upto msqEndsSpec)

/-- 'hazellaw09.ListTells', WHERE WHAT IT READS IS OF BULK AT MOST 1048576: true; the input reads as it did. -/
def listTellsUptoRow : OpenClaim := { program := "ytpobngddiifdpaagreat", sum := "5c4185d5731ea34b548e2511cdef606caa070bd802725a03b9f536dcd7e407be", func := "hazel/hazellaw09.ListTells", spec := "listTells", unfollowed := true, recurses := true, apart := false, narrowed := true }
def ListTellsUptoSaid : Prop := listTellsUptoRow.holds Tryz.pinned (OpenSpec.upto listTellsSpec)

/-- 'hazellaw09.ListLegal', WHERE WHAT IT READS IS OF BULK AT MOST 1048576: true; the input reads as it did. -/
def listLegalUptoRow : OpenClaim := { program := "ytpobngddiifdpaagreat", sum := "5c4185d5731ea34b548e2511cdef606caa070bd802725a03b9f536dcd7e407be", func := "hazel/hazellaw09.ListLegal", spec := "listLegal", unfollowed := true, recurses := true, apart := false, narrowed := true }
def ListLegalUptoSaid : Prop := listLegalUptoRow.holds Tryz.pinned (OpenSpec.upto listLegalSpec)

/-- 'hazellaw09.ListOnce', WHERE WHAT IT READS IS OF BULK AT MOST 1048576: true; the input reads as it did. -/
def listOnceUptoRow : OpenClaim := { program := "ytpobngddiifdpaagreat", sum := "5c4185d5731ea34b548e2511cdef606caa070bd802725a03b9f536dcd7e407be", func := "hazel/hazellaw09.ListOnce", spec := "listOnce", unfollowed := true, recurses := true, apart := false, narrowed := true }
def ListOnceUptoSaid : Prop := listOnceUptoRow.holds Tryz.pinned (OpenSpec.upto listOnceSpec)

/-- 'hazellaw09.ListParts', WHERE WHAT IT READS IS OF BULK AT MOST 1048576: true; the input reads as it did. -/
def listPartsUptoRow : OpenClaim := { program := "ytpobngddiifdpaagreat", sum := "5c4185d5731ea34b548e2511cdef606caa070bd802725a03b9f536dcd7e407be", func := "hazel/hazellaw09.ListParts", spec := "listParts", unfollowed := true, recurses := true, apart := false, narrowed := true }
def ListPartsUptoSaid : Prop := listPartsUptoRow.holds Tryz.pinned (OpenSpec.upto listPartsSpec)

/-- 'hazellaw09.ListAlone', WHERE WHAT IT READS IS OF BULK AT MOST 1048576: true; the input reads as it did. -/
def listAloneUptoRow : OpenClaim := { program := "ytpobngddiifdpaagreat", sum := "5c4185d5731ea34b548e2511cdef606caa070bd802725a03b9f536dcd7e407be", func := "hazel/hazellaw09.ListAlone", spec := "listAlone", unfollowed := true, recurses := true, apart := false, narrowed := true }
def ListAloneUptoSaid : Prop := listAloneUptoRow.holds Tryz.pinned (OpenSpec.upto listAloneSpec)

/-- 'hazellaw09.ListRises', WHERE WHAT IT READS IS OF BULK AT MOST 1048576: true; the input reads as it did. -/
def listRisesUptoRow : OpenClaim := { program := "ytpobngddiifdpaagreat", sum := "5c4185d5731ea34b548e2511cdef606caa070bd802725a03b9f536dcd7e407be", func := "hazel/hazellaw09.ListRises", spec := "listRises", unfollowed := true, recurses := true, apart := false, narrowed := true }
def ListRisesUptoSaid : Prop := listRisesUptoRow.holds Tryz.pinned (OpenSpec.upto listRisesSpec)

/-- 'hazellaw09.ListMarks', WHERE WHAT IT READS IS OF BULK AT MOST 1048576: true; the input reads as it did. -/
def listMarksUptoRow : OpenClaim := { program := "ytpobngddiifdpaagreat", sum := "5c4185d5731ea34b548e2511cdef606caa070bd802725a03b9f536dcd7e407be", func := "hazel/hazellaw09.ListMarks", spec := "listMarks", unfollowed := true, recurses := true, apart := false, narrowed := true }
def ListMarksUptoSaid : Prop := listMarksUptoRow.holds Tryz.pinned (OpenSpec.upto listMarksSpec)

end Rows
end Go.Proofs.YtpobngddiifdpaaGreat
