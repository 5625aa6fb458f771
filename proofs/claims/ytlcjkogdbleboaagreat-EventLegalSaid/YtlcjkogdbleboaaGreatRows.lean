/-
  No cell of these rows narrows 'for every input' (looked for: loops, veiled, ifaces, maps, wideKeys, modest, calm, conditions, laid).
  DERIVED. THE GIVEN ROWS OF THIS SEAT. 10 by the template 'for every input the law returns true; each argument reads behind the call as it read before'; 0 by the template 'total and deterministic' (their statements: YtlcjkogdbleboaaGreatTotals.lean).
  GIVEN WITH THE SEED: the statements are not yours to turn. If you find one false, say at which input.
  Laid BY PROGRAM, IN A SANDBOX (cutbox-rows.mjs): the forced cells as the released guide's own fill.sh prints them over the translation 00c78df99515f459… (all of the seat's roots in one cut). By AI agents, Wed Nov 11 2026. No macro, syntax, notation, axiom, sorry.
-/
import Derived.Test.YtlcjkogdbleboaaGreatChecked
import GoSem.Claim
import GoSem.ClaimJoined
import GoSem.ClaimMapViews
import Derived.JoinedTies
import Derived.KernelRfl
namespace Go.Proofs.YtlcjkogdbleboaaGreat
/- THE CELL 'sum', in the pinned program and in every row, IS THE sha256 OF THE DUMP (.gsa) THAT YtlcjkogdbleboaaGreatProg.lean LOADS. Nothing in Lean hashes anything: it is a label: what it is worth is what the hold of that sum in a sandbox is worth. -/
noncomputable def Tryz.pinned : Pinned := { name := "ytlcjkogdbleboaagreat", sum := "00c78df99515f4596a9095835b4e0e8a9ba417336ff10408e253a2b134ce1f70", checked := Tryz.checked }
namespace Rows
def none {H : Type} : Left H := { results := [], args := [] }

/-- 'hazellaw08.MsqTells': WHATEVER THE INPUT: true; the input reads as it did. -/
def msqTellsSpec : ChangeSpec := { name := "msqTells", fn := fun _ => fun
  | [d] => { results := [.lit (.bool true)], args := [d] }
  | _ => none }
def msqTellsRow : OpenClaim := { program := "ytlcjkogdbleboaagreat", sum := "00c78df99515f4596a9095835b4e0e8a9ba417336ff10408e253a2b134ce1f70", func := "hazel/hazellaw08.MsqTells", spec := "msqTells", unfollowed := true, recurses := true, apart := false }
def MsqTellsSaid : Prop := msqTellsRow.holds Tryz.pinned (OpenSpec.ofChange msqTellsSpec)

/-- ITS FALSE NEIGHBOUR: 'it returns false'. Refute it at one input. -/
def msqTellsWrong : ChangeSpec := { name := "msqTells", fn := fun _ => fun
  | [d] => { results := [.lit (.bool false)], args := [d] }
  | _ => none }
def MsqTellsWrongFalsely : Prop := msqTellsRow.holds Tryz.pinned (OpenSpec.ofChange msqTellsWrong)

/-- 'hazellaw09.ListTells': WHATEVER THE INPUT: true; the input reads as it did. -/
def listTellsSpec : ChangeSpec := { name := "listTells", fn := fun _ => fun
  | [d] => { results := [.lit (.bool true)], args := [d] }
  | _ => none }
def listTellsRow : OpenClaim := { program := "ytlcjkogdbleboaagreat", sum := "00c78df99515f4596a9095835b4e0e8a9ba417336ff10408e253a2b134ce1f70", func := "hazel/hazellaw09.ListTells", spec := "listTells", unfollowed := true, recurses := true, apart := false }
def ListTellsSaid : Prop := listTellsRow.holds Tryz.pinned (OpenSpec.ofChange listTellsSpec)

/-- ITS FALSE NEIGHBOUR: 'it returns false'. Refute it at one input. -/
def listTellsWrong : ChangeSpec := { name := "listTells", fn := fun _ => fun
  | [d] => { results := [.lit (.bool false)], args := [d] }
  | _ => none }
def ListTellsWrongFalsely : Prop := listTellsRow.holds Tryz.pinned (OpenSpec.ofChange listTellsWrong)

/-- 'hazellaw12.EventTells': WHATEVER THE INPUT: true; the input reads as it did. -/
def eventTellsSpec : ChangeSpec := { name := "eventTells", fn := fun _ => fun
  | [d] => { results := [.lit (.bool true)], args := [d] }
  | _ => none }
def eventTellsRow : OpenClaim := { program := "ytlcjkogdbleboaagreat", sum := "00c78df99515f4596a9095835b4e0e8a9ba417336ff10408e253a2b134ce1f70", func := "hazel/hazellaw12.EventTells", spec := "eventTells", unfollowed := true, recurses := true, apart := false }
def EventTellsSaid : Prop := eventTellsRow.holds Tryz.pinned (OpenSpec.ofChange eventTellsSpec)

/-- ITS FALSE NEIGHBOUR: 'it returns false'. Refute it at one input. -/
def eventTellsWrong : ChangeSpec := { name := "eventTells", fn := fun _ => fun
  | [d] => { results := [.lit (.bool false)], args := [d] }
  | _ => none }
def EventTellsWrongFalsely : Prop := eventTellsRow.holds Tryz.pinned (OpenSpec.ofChange eventTellsWrong)

/-- 'hazellaw12.EventLegal': WHATEVER THE INPUT: true; the input reads as it did. -/
def eventLegalSpec : ChangeSpec := { name := "eventLegal", fn := fun _ => fun
  | [d1, d2] => { results := [.lit (.bool true)], args := [d1, d2] }
  | _ => none }
def eventLegalRow : OpenClaim := { program := "ytlcjkogdbleboaagreat", sum := "00c78df99515f4596a9095835b4e0e8a9ba417336ff10408e253a2b134ce1f70", func := "hazel/hazellaw12.EventLegal", spec := "eventLegal", unfollowed := true, recurses := true, apart := false }
def EventLegalSaid : Prop := eventLegalRow.holds Tryz.pinned (OpenSpec.ofChange eventLegalSpec)

/-- ITS FALSE NEIGHBOUR: 'it returns false'. Refute it at one input. -/
def eventLegalWrong : ChangeSpec := { name := "eventLegal", fn := fun _ => fun
  | [d1, d2] => { results := [.lit (.bool false)], args := [d1, d2] }
  | _ => none }
def EventLegalWrongFalsely : Prop := eventLegalRow.holds Tryz.pinned (OpenSpec.ofChange eventLegalWrong)

/-- 'hazellaw12.EventOnce': WHATEVER THE INPUT: true; the input reads as it did. -/
def eventOnceSpec : ChangeSpec := { name := "eventOnce", fn := fun _ => fun
  | [d1, d2, d3] => { results := [.lit (.bool true)], args := [d1, d2, d3] }
  | _ => none }
def eventOnceRow : OpenClaim := { program := "ytlcjkogdbleboaagreat", sum := "00c78df99515f4596a9095835b4e0e8a9ba417336ff10408e253a2b134ce1f70", func := "hazel/hazellaw12.EventOnce", spec := "eventOnce", unfollowed := true, recurses := true, apart := false }
def EventOnceSaid : Prop := eventOnceRow.holds Tryz.pinned (OpenSpec.ofChange eventOnceSpec)

/-- ITS FALSE NEIGHBOUR: 'it returns false'. Refute it at one input. -/
def eventOnceWrong : ChangeSpec := { name := "eventOnce", fn := fun _ => fun
  | [d1, d2, d3] => { results := [.lit (.bool false)], args := [d1, d2, d3] }
  | _ => none }
def EventOnceWrongFalsely : Prop := eventOnceRow.holds Tryz.pinned (OpenSpec.ofChange eventOnceWrong)

/-- 'hazellaw12.EventSpots': WHATEVER THE INPUT: true; the input reads as it did. -/
def eventSpotsSpec : ChangeSpec := { name := "eventSpots", fn := fun _ => fun
  | [d1, d2, d3] => { results := [.lit (.bool true)], args := [d1, d2, d3] }
  | _ => none }
def eventSpotsRow : OpenClaim := { program := "ytlcjkogdbleboaagreat", sum := "00c78df99515f4596a9095835b4e0e8a9ba417336ff10408e253a2b134ce1f70", func := "hazel/hazellaw12.EventSpots", spec := "eventSpots", unfollowed := true, recurses := true, apart := false }
def EventSpotsSaid : Prop := eventSpotsRow.holds Tryz.pinned (OpenSpec.ofChange eventSpotsSpec)

/-- ITS FALSE NEIGHBOUR: 'it returns false'. Refute it at one input. -/
def eventSpotsWrong : ChangeSpec := { name := "eventSpots", fn := fun _ => fun
  | [d1, d2, d3] => { results := [.lit (.bool false)], args := [d1, d2, d3] }
  | _ => none }
def EventSpotsWrongFalsely : Prop := eventSpotsRow.holds Tryz.pinned (OpenSpec.ofChange eventSpotsWrong)

/-- 'hazellaw12.EventMakes': WHATEVER THE INPUT: true; the input reads as it did. -/
def eventMakesSpec : ChangeSpec := { name := "eventMakes", fn := fun _ => fun
  | [d] => { results := [.lit (.bool true)], args := [d] }
  | _ => none }
def eventMakesRow : OpenClaim := { program := "ytlcjkogdbleboaagreat", sum := "00c78df99515f4596a9095835b4e0e8a9ba417336ff10408e253a2b134ce1f70", func := "hazel/hazellaw12.EventMakes", spec := "eventMakes", unfollowed := true, recurses := true, apart := false }
def EventMakesSaid : Prop := eventMakesRow.holds Tryz.pinned (OpenSpec.ofChange eventMakesSpec)

/-- ITS FALSE NEIGHBOUR: 'it returns false'. Refute it at one input. -/
def eventMakesWrong : ChangeSpec := { name := "eventMakes", fn := fun _ => fun
  | [d] => { results := [.lit (.bool false)], args := [d] }
  | _ => none }
def EventMakesWrongFalsely : Prop := eventMakesRow.holds Tryz.pinned (OpenSpec.ofChange eventMakesWrong)

/-- 'hazellaw12.EventTags': WHATEVER THE INPUT: true; the input reads as it did. -/
def eventTagsSpec : ChangeSpec := { name := "eventTags", fn := fun _ => fun
  | [d1, d2, d3] => { results := [.lit (.bool true)], args := [d1, d2, d3] }
  | _ => none }
def eventTagsRow : OpenClaim := { program := "ytlcjkogdbleboaagreat", sum := "00c78df99515f4596a9095835b4e0e8a9ba417336ff10408e253a2b134ce1f70", func := "hazel/hazellaw12.EventTags", spec := "eventTags", unfollowed := true, recurses := true, apart := false }
def EventTagsSaid : Prop := eventTagsRow.holds Tryz.pinned (OpenSpec.ofChange eventTagsSpec)

/-- ITS FALSE NEIGHBOUR: 'it returns false'. Refute it at one input. -/
def eventTagsWrong : ChangeSpec := { name := "eventTags", fn := fun _ => fun
  | [d1, d2, d3] => { results := [.lit (.bool false)], args := [d1, d2, d3] }
  | _ => none }
def EventTagsWrongFalsely : Prop := eventTagsRow.holds Tryz.pinned (OpenSpec.ofChange eventTagsWrong)

/-- 'hazellaw12.EventWaits': WHATEVER THE INPUT: true; the input reads as it did. -/
def eventWaitsSpec : ChangeSpec := { name := "eventWaits", fn := fun _ => fun
  | [d] => { results := [.lit (.bool true)], args := [d] }
  | _ => none }
def eventWaitsRow : OpenClaim := { program := "ytlcjkogdbleboaagreat", sum := "00c78df99515f4596a9095835b4e0e8a9ba417336ff10408e253a2b134ce1f70", func := "hazel/hazellaw12.EventWaits", spec := "eventWaits", unfollowed := true, recurses := true, apart := false }
def EventWaitsSaid : Prop := eventWaitsRow.holds Tryz.pinned (OpenSpec.ofChange eventWaitsSpec)

/-- ITS FALSE NEIGHBOUR: 'it returns false'. Refute it at one input. -/
def eventWaitsWrong : ChangeSpec := { name := "eventWaits", fn := fun _ => fun
  | [d] => { results := [.lit (.bool false)], args := [d] }
  | _ => none }
def EventWaitsWrongFalsely : Prop := eventWaitsRow.holds Tryz.pinned (OpenSpec.ofChange eventWaitsWrong)

/-- 'hazellaw11.TableTells': WHATEVER THE INPUT: true; the input reads as it did. -/
def tableTellsSpec : ChangeSpec := { name := "tableTells", fn := fun _ => fun
  | [d] => { results := [.lit (.bool true)], args := [d] }
  | _ => none }
def tableTellsRow : OpenClaim := { program := "ytlcjkogdbleboaagreat", sum := "00c78df99515f4596a9095835b4e0e8a9ba417336ff10408e253a2b134ce1f70", func := "hazel/hazellaw11.TableTells", spec := "tableTells", unfollowed := true, recurses := true, apart := false }
def TableTellsSaid : Prop := tableTellsRow.holds Tryz.pinned (OpenSpec.ofChange tableTellsSpec)

/-- ITS FALSE NEIGHBOUR: 'it returns false'. Refute it at one input. -/
def tableTellsWrong : ChangeSpec := { name := "tableTells", fn := fun _ => fun
  | [d] => { results := [.lit (.bool false)], args := [d] }
  | _ => none }
def TableTellsWrongFalsely : Prop := tableTellsRow.holds Tryz.pinned (OpenSpec.ofChange tableTellsWrong)

/- THE SECOND FORM. 'bulk': how many values and letters a reading holds, each counted each time it is reached (what is shared counts as often as it is met; a slice's spare places count too). A statement '..UptoSaid' is the law's where the arguments, and the package variables that the reading takes, are together of bulk at most 1048576: NARROWER than '..Said'. Prove '..Said' where nothing that the law and all that it calls make is longer than what came in: it says more and counts as full. Else prove '..UptoSaid'. A law counts once. -/
mutual
def uptoBulk {H : Type} : DataW H → Nat
  | .lit (.string bytes) => bytes.length + 1
  | .lit _ => 1
  | .nil => 1
  | .ptr d => uptoBulk d + 1
  | .slice elems spare => uptoBulkAll elems + uptoBulkAll spare + 1
  | .agg parts => uptoBulkAll parts + 1
  | .iface _ d => uptoBulk d + 1
  | .map entries => uptoBulkEntries entries + 1
  | .held _ => 1
def uptoBulkAll {H : Type} : List (DataW H) → Nat
  | [] => 0
  | d :: r => uptoBulk d + uptoBulkAll r
def uptoBulkEntries {H : Type} : List (Lit × DataW H) → Nat
  | [] => 0
  | x :: r => uptoBulkEntry x + uptoBulkEntries r
def uptoBulkEntry {H : Type} : Lit × DataW H → Nat
  | (.string bytes, d) => bytes.length + uptoBulk d + 1
  | (_, d) => uptoBulk d + 1
 end
def uptoSmall : (H : Type) → List (DataW H) → Bool := fun _ ds => decide (uptoBulkAll ds ≤ 1048576)
def OpenSpec.upto (s : _root_.Go.ChangeSpec) : _root_.Go.OpenSpec := { _root_.Go.OpenSpec.ofChange s with cond := some uptoSmall }

/-- 'hazellaw08.MsqTells', WHERE WHAT IT READS IS OF BULK AT MOST 1048576: true; the input reads as it did. -/
def msqTellsUptoRow : OpenClaim := { program := "ytlcjkogdbleboaagreat", sum := "00c78df99515f4596a9095835b4e0e8a9ba417336ff10408e253a2b134ce1f70", func := "hazel/hazellaw08.MsqTells", spec := "msqTells", unfollowed := true, recurses := true, apart := false, narrowed := true }
def MsqTellsUptoSaid : Prop := msqTellsUptoRow.holds Tryz.pinned (OpenSpec.upto msqTellsSpec)

/-- 'hazellaw09.ListTells', WHERE WHAT IT READS IS OF BULK AT MOST 1048576: true; the input reads as it did. -/
def listTellsUptoRow : OpenClaim := { program := "ytlcjkogdbleboaagreat", sum := "00c78df99515f4596a9095835b4e0e8a9ba417336ff10408e253a2b134ce1f70", func := "hazel/hazellaw09.ListTells", spec := "listTells", unfollowed := true, recurses := true, apart := false, narrowed := true }
def ListTellsUptoSaid : Prop := listTellsUptoRow.holds Tryz.pinned (OpenSpec.upto listTellsSpec)

/-- 'hazellaw12.EventTells', WHERE WHAT IT READS IS OF BULK AT MOST 1048576: true; the input reads as it did. -/
def eventTellsUptoRow : OpenClaim := { program := "ytlcjkogdbleboaagreat", sum := "00c78df99515f4596a9095835b4e0e8a9ba417336ff10408e253a2b134ce1f70", func := "hazel/hazellaw12.EventTells", spec := "eventTells", unfollowed := true, recurses := true, apart := false, narrowed := true }
def EventTellsUptoSaid : Prop := eventTellsUptoRow.holds Tryz.pinned (OpenSpec.upto eventTellsSpec)

/-- 'hazellaw12.EventLegal', WHERE WHAT IT READS IS OF BULK AT MOST 1048576: true; the input reads as it did. -/
def eventLegalUptoRow : OpenClaim := { program := "ytlcjkogdbleboaagreat", sum := "00c78df99515f4596a9095835b4e0e8a9ba417336ff10408e253a2b134ce1f70", func := "hazel/hazellaw12.EventLegal", spec := "eventLegal", unfollowed := true, recurses := true, apart := false, narrowed := true }
def EventLegalUptoSaid : Prop := eventLegalUptoRow.holds Tryz.pinned (OpenSpec.upto eventLegalSpec)

/-- 'hazellaw12.EventOnce', WHERE WHAT IT READS IS OF BULK AT MOST 1048576: true; the input reads as it did. -/
def eventOnceUptoRow : OpenClaim := { program := "ytlcjkogdbleboaagreat", sum := "00c78df99515f4596a9095835b4e0e8a9ba417336ff10408e253a2b134ce1f70", func := "hazel/hazellaw12.EventOnce", spec := "eventOnce", unfollowed := true, recurses := true, apart := false, narrowed := true }
def EventOnceUptoSaid : Prop := eventOnceUptoRow.holds Tryz.pinned (OpenSpec.upto eventOnceSpec)

/-- 'hazellaw12.EventSpots', WHERE WHAT IT READS IS OF BULK AT MOST 1048576: true; the input reads as it did. -/
def eventSpotsUptoRow : OpenClaim := { program := "ytlcjkogdbleboaagreat", sum := "00c78df99515f4596a9095835b4e0e8a9ba417336ff10408e253a2b134ce1f70", func := "hazel/hazellaw12.EventSpots", spec := "eventSpots", unfollowed := true, recurses := true, apart := false, narrowed := true }
def EventSpotsUptoSaid : Prop := eventSpotsUptoRow.holds Tryz.pinned (OpenSpec.upto eventSpotsSpec)

/-- 'hazellaw12.EventMakes', WHERE WHAT IT READS IS OF BULK AT MOST 1048576: true; the input reads as it did. -/
def eventMakesUptoRow : OpenClaim := { program := "ytlcjkogdbleboaagreat", sum := "00c78df99515f4596a9095835b4e0e8a9ba417336ff10408e253a2b134ce1f70", func := "hazel/hazellaw12.EventMakes", spec := "eventMakes", unfollowed := true, recurses := true, apart := false, narrowed := true }
def EventMakesUptoSaid : Prop := eventMakesUptoRow.holds Tryz.pinned (OpenSpec.upto eventMakesSpec)

/-- 'hazellaw12.EventTags', WHERE WHAT IT READS IS OF BULK AT MOST 1048576: true; the input reads as it did. -/
def eventTagsUptoRow : OpenClaim := { program := "ytlcjkogdbleboaagreat", sum := "00c78df99515f4596a9095835b4e0e8a9ba417336ff10408e253a2b134ce1f70", func := "hazel/hazellaw12.EventTags", spec := "eventTags", unfollowed := true, recurses := true, apart := false, narrowed := true }
def EventTagsUptoSaid : Prop := eventTagsUptoRow.holds Tryz.pinned (OpenSpec.upto eventTagsSpec)

/-- 'hazellaw12.EventWaits', WHERE WHAT IT READS IS OF BULK AT MOST 1048576: true; the input reads as it did. -/
def eventWaitsUptoRow : OpenClaim := { program := "ytlcjkogdbleboaagreat", sum := "00c78df99515f4596a9095835b4e0e8a9ba417336ff10408e253a2b134ce1f70", func := "hazel/hazellaw12.EventWaits", spec := "eventWaits", unfollowed := true, recurses := true, apart := false, narrowed := true }
def EventWaitsUptoSaid : Prop := eventWaitsUptoRow.holds Tryz.pinned (OpenSpec.upto eventWaitsSpec)

/-- 'hazellaw11.TableTells', WHERE WHAT IT READS IS OF BULK AT MOST 1048576: true; the input reads as it did. -/
def tableTellsUptoRow : OpenClaim := { program := "ytlcjkogdbleboaagreat", sum := "00c78df99515f4596a9095835b4e0e8a9ba417336ff10408e253a2b134ce1f70", func := "hazel/hazellaw11.TableTells", spec := "tableTells", unfollowed := true, recurses := true, apart := false, narrowed := true }
def TableTellsUptoSaid : Prop := tableTellsUptoRow.holds Tryz.pinned (OpenSpec.upto tableTellsSpec)

end Rows
end Go.Proofs.YtlcjkogdbleboaaGreat
