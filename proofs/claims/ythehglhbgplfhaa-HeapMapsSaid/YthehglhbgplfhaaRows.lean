/-
  No cell of these rows narrows 'for every input' (looked for: loops, veiled, ifaces, maps, wideKeys, modest, calm, conditions, laid).
  DERIVED. THE GIVEN ROWS OF THIS SEAT. 9 by the template 'for every input the law returns true; each argument reads behind the call as it read before'; 0 by the template 'total and deterministic' (their statements: YthehglhbgplfhaaTotals.lean).
  GIVEN WITH THE SEED: the statements are not yours to turn. If you find one false, say at which input.
  Laid BY PROGRAM, IN A SANDBOX (cutbox-rows.mjs): the forced cells as the released guide's own fill.sh prints them over the translation d8c94787ddd7df6d… (all of the seat's roots in one cut). By AI agents, Wed Nov 11 2026. No macro, syntax, notation, axiom, sorry.
-/
import Derived.Test.YthehglhbgplfhaaChecked
import GoSem.Claim
import GoSem.ClaimJoined
import GoSem.ClaimMapViews
import Derived.JoinedTies
import Derived.KernelRfl
namespace Go.Proofs.Ythehglhbgplfhaa
/- THE CELL 'sum', in the pinned program and in every row, IS THE sha256 OF THE DUMP (.gsa) THAT YthehglhbgplfhaaProg.lean LOADS. Nothing in Lean hashes anything: it is a label: what it is worth is what the hold of that sum in a sandbox is worth. -/
noncomputable def Try.pinned : Pinned := { name := "ythehglhbgplfhaa", sum := "d8c94787ddd7df6da79b5ac4012d769301bd4d73c46109bbe98d9a477550bd47", checked := Try.checked }
namespace Rows
def none {H : Type} : Left H := { results := [], args := [] }

/-- 'jettylaw15.HeapPlaces': WHATEVER THE INPUT: true; the input reads as it did. -/
def heapPlacesSpec : ChangeSpec := { name := "heapPlaces", fn := fun _ => fun
  | [d] => { results := [.lit (.bool true)], args := [d] }
  | _ => none }
def heapPlacesRow : OpenClaim := { program := "ythehglhbgplfhaa", sum := "d8c94787ddd7df6da79b5ac4012d769301bd4d73c46109bbe98d9a477550bd47", func := "jetty/jettylaw15.HeapPlaces", spec := "heapPlaces", unfollowed := true, recurses := true, apart := false }
def HeapPlacesSaid : Prop := heapPlacesRow.holds Try.pinned (OpenSpec.ofChange heapPlacesSpec)

/-- ITS FALSE NEIGHBOUR: 'it returns false'. Refute it at one input. -/
def heapPlacesWrong : ChangeSpec := { name := "heapPlaces", fn := fun _ => fun
  | [d] => { results := [.lit (.bool false)], args := [d] }
  | _ => none }
def HeapPlacesWrongFalsely : Prop := heapPlacesRow.holds Try.pinned (OpenSpec.ofChange heapPlacesWrong)

/-- 'jettylaw13.StageOver': WHATEVER THE INPUT: true; the input reads as it did. -/
def stageOverSpec : ChangeSpec := { name := "stageOver", fn := fun _ => fun
  | [d1, d2] => { results := [.lit (.bool true)], args := [d1, d2] }
  | _ => none }
def stageOverRow : OpenClaim := { program := "ythehglhbgplfhaa", sum := "d8c94787ddd7df6da79b5ac4012d769301bd4d73c46109bbe98d9a477550bd47", func := "jetty/jettylaw13.StageOver", spec := "stageOver", unfollowed := true, recurses := true, apart := false }
def StageOverSaid : Prop := stageOverRow.holds Try.pinned (OpenSpec.ofChange stageOverSpec)

/-- ITS FALSE NEIGHBOUR: 'it returns false'. Refute it at one input. -/
def stageOverWrong : ChangeSpec := { name := "stageOver", fn := fun _ => fun
  | [d1, d2] => { results := [.lit (.bool false)], args := [d1, d2] }
  | _ => none }
def StageOverWrongFalsely : Prop := stageOverRow.holds Try.pinned (OpenSpec.ofChange stageOverWrong)

/-- 'jettylaw13.StageLands': WHATEVER THE INPUT: true; the input reads as it did. -/
def stageLandsSpec : ChangeSpec := { name := "stageLands", fn := fun _ => fun
  | [d1, d2, d3] => { results := [.lit (.bool true)], args := [d1, d2, d3] }
  | _ => none }
def stageLandsRow : OpenClaim := { program := "ythehglhbgplfhaa", sum := "d8c94787ddd7df6da79b5ac4012d769301bd4d73c46109bbe98d9a477550bd47", func := "jetty/jettylaw13.StageLands", spec := "stageLands", unfollowed := true, recurses := true, apart := false }
def StageLandsSaid : Prop := stageLandsRow.holds Try.pinned (OpenSpec.ofChange stageLandsSpec)

/-- ITS FALSE NEIGHBOUR: 'it returns false'. Refute it at one input. -/
def stageLandsWrong : ChangeSpec := { name := "stageLands", fn := fun _ => fun
  | [d1, d2, d3] => { results := [.lit (.bool false)], args := [d1, d2, d3] }
  | _ => none }
def StageLandsWrongFalsely : Prop := stageLandsRow.holds Try.pinned (OpenSpec.ofChange stageLandsWrong)

/-- 'jettylaw13.StageAll': WHATEVER THE INPUT: true; the input reads as it did. -/
def stageAllSpec : ChangeSpec := { name := "stageAll", fn := fun _ => fun
  | [d1, d2] => { results := [.lit (.bool true)], args := [d1, d2] }
  | _ => none }
def stageAllRow : OpenClaim := { program := "ythehglhbgplfhaa", sum := "d8c94787ddd7df6da79b5ac4012d769301bd4d73c46109bbe98d9a477550bd47", func := "jetty/jettylaw13.StageAll", spec := "stageAll", unfollowed := true, recurses := true, apart := false }
def StageAllSaid : Prop := stageAllRow.holds Try.pinned (OpenSpec.ofChange stageAllSpec)

/-- ITS FALSE NEIGHBOUR: 'it returns false'. Refute it at one input. -/
def stageAllWrong : ChangeSpec := { name := "stageAll", fn := fun _ => fun
  | [d1, d2] => { results := [.lit (.bool false)], args := [d1, d2] }
  | _ => none }
def StageAllWrongFalsely : Prop := stageAllRow.holds Try.pinned (OpenSpec.ofChange stageAllWrong)

/-- 'jettylaw13.StageRuns': WHATEVER THE INPUT: true; the input reads as it did. -/
def stageRunsSpec : ChangeSpec := { name := "stageRuns", fn := fun _ => fun
  | [d1, d2] => { results := [.lit (.bool true)], args := [d1, d2] }
  | _ => none }
def stageRunsRow : OpenClaim := { program := "ythehglhbgplfhaa", sum := "d8c94787ddd7df6da79b5ac4012d769301bd4d73c46109bbe98d9a477550bd47", func := "jetty/jettylaw13.StageRuns", spec := "stageRuns", unfollowed := true, recurses := true, apart := false }
def StageRunsSaid : Prop := stageRunsRow.holds Try.pinned (OpenSpec.ofChange stageRunsSpec)

/-- ITS FALSE NEIGHBOUR: 'it returns false'. Refute it at one input. -/
def stageRunsWrong : ChangeSpec := { name := "stageRuns", fn := fun _ => fun
  | [d1, d2] => { results := [.lit (.bool false)], args := [d1, d2] }
  | _ => none }
def StageRunsWrongFalsely : Prop := stageRunsRow.holds Try.pinned (OpenSpec.ofChange stageRunsWrong)

/-- 'jettylaw15.HeapMaps': WHATEVER THE INPUT: true; the input reads as it did. -/
def heapMapsSpec : ChangeSpec := { name := "heapMaps", fn := fun _ => fun
  | [d1, d2] => { results := [.lit (.bool true)], args := [d1, d2] }
  | _ => none }
def heapMapsRow : OpenClaim := { program := "ythehglhbgplfhaa", sum := "d8c94787ddd7df6da79b5ac4012d769301bd4d73c46109bbe98d9a477550bd47", func := "jetty/jettylaw15.HeapMaps", spec := "heapMaps", unfollowed := true, recurses := true, apart := false }
def HeapMapsSaid : Prop := heapMapsRow.holds Try.pinned (OpenSpec.ofChange heapMapsSpec)

/-- ITS FALSE NEIGHBOUR: 'it returns false'. Refute it at one input. -/
def heapMapsWrong : ChangeSpec := { name := "heapMaps", fn := fun _ => fun
  | [d1, d2] => { results := [.lit (.bool false)], args := [d1, d2] }
  | _ => none }
def HeapMapsWrongFalsely : Prop := heapMapsRow.holds Try.pinned (OpenSpec.ofChange heapMapsWrong)

/-- 'jettylaw15.HeapBack': WHATEVER THE INPUT: true; the input reads as it did. -/
def heapBackSpec : ChangeSpec := { name := "heapBack", fn := fun _ => fun
  | [d1, d2, d3] => { results := [.lit (.bool true)], args := [d1, d2, d3] }
  | _ => none }
def heapBackRow : OpenClaim := { program := "ythehglhbgplfhaa", sum := "d8c94787ddd7df6da79b5ac4012d769301bd4d73c46109bbe98d9a477550bd47", func := "jetty/jettylaw15.HeapBack", spec := "heapBack", unfollowed := true, recurses := true, apart := false }
def HeapBackSaid : Prop := heapBackRow.holds Try.pinned (OpenSpec.ofChange heapBackSpec)

/-- ITS FALSE NEIGHBOUR: 'it returns false'. Refute it at one input. -/
def heapBackWrong : ChangeSpec := { name := "heapBack", fn := fun _ => fun
  | [d1, d2, d3] => { results := [.lit (.bool false)], args := [d1, d2, d3] }
  | _ => none }
def HeapBackWrongFalsely : Prop := heapBackRow.holds Try.pinned (OpenSpec.ofChange heapBackWrong)

/-- 'jettylaw15.HeapKept': WHATEVER THE INPUT: true; the input reads as it did. -/
def heapKeptSpec : ChangeSpec := { name := "heapKept", fn := fun _ => fun
  | [d1, d2] => { results := [.lit (.bool true)], args := [d1, d2] }
  | _ => none }
def heapKeptRow : OpenClaim := { program := "ythehglhbgplfhaa", sum := "d8c94787ddd7df6da79b5ac4012d769301bd4d73c46109bbe98d9a477550bd47", func := "jetty/jettylaw15.HeapKept", spec := "heapKept", unfollowed := true, recurses := true, apart := false }
def HeapKeptSaid : Prop := heapKeptRow.holds Try.pinned (OpenSpec.ofChange heapKeptSpec)

/-- ITS FALSE NEIGHBOUR: 'it returns false'. Refute it at one input. -/
def heapKeptWrong : ChangeSpec := { name := "heapKept", fn := fun _ => fun
  | [d1, d2] => { results := [.lit (.bool false)], args := [d1, d2] }
  | _ => none }
def HeapKeptWrongFalsely : Prop := heapKeptRow.holds Try.pinned (OpenSpec.ofChange heapKeptWrong)

/-- 'jettylaw15.HeapLists': WHATEVER THE INPUT: true; the input reads as it did. -/
def heapListsSpec : ChangeSpec := { name := "heapLists", fn := fun _ => fun
  | [d] => { results := [.lit (.bool true)], args := [d] }
  | _ => none }
def heapListsRow : OpenClaim := { program := "ythehglhbgplfhaa", sum := "d8c94787ddd7df6da79b5ac4012d769301bd4d73c46109bbe98d9a477550bd47", func := "jetty/jettylaw15.HeapLists", spec := "heapLists", unfollowed := true, recurses := true, apart := false }
def HeapListsSaid : Prop := heapListsRow.holds Try.pinned (OpenSpec.ofChange heapListsSpec)

/-- ITS FALSE NEIGHBOUR: 'it returns false'. Refute it at one input. -/
def heapListsWrong : ChangeSpec := { name := "heapLists", fn := fun _ => fun
  | [d] => { results := [.lit (.bool false)], args := [d] }
  | _ => none }
def HeapListsWrongFalsely : Prop := heapListsRow.holds Try.pinned (OpenSpec.ofChange heapListsWrong)

/- THE SECOND FORM. 'bulk': how many values and letters a reading holds, each counted each time it is reached (what is shared counts as often as it is met; a slice's spare places count too). A statement '..UptoSaid' is the law's where the arguments, and the package variables that the reading takes, are together of bulk at most 1048576: NARROWER than '..Said'. Prove '..Said' where nothing that the law and all that it calls make is longer than what came in: it says more and counts as full. Else prove '..UptoSaid'. A law counts once. -/
mutual
def uptoBulk {H : Type} : DataW H → Nat
  | .lit (.string bytes) => bytes.length + 1
  | .lit _ => 1
  | .nil => 1
  | .ptr d => uptoBulk d + 1
  | .slice elems spare => uptoBulkAll elems + uptoBulkAll spare + 1
  | .agg parts => uptoBulkAll parts + 1
  | .iface _ d => uptoBulk d + 1
  | .map entries => uptoBulkEntries entries + 1
  | .held _ => 1
def uptoBulkAll {H : Type} : List (DataW H) → Nat
  | [] => 0
  | d :: r => uptoBulk d + uptoBulkAll r
def uptoBulkEntries {H : Type} : List (Lit × DataW H) → Nat
  | [] => 0
  | x :: r => uptoBulkEntry x + uptoBulkEntries r
def uptoBulkEntry {H : Type} : Lit × DataW H → Nat
  | (.string bytes, d) => bytes.length + uptoBulk d + 1
  | (_, d) => uptoBulk d + 1
 end
def uptoSmall : (H : Type) → List (DataW H) → Bool := fun _ ds => decide (uptoBulkAll ds ≤ 1048576)
def OpenSpec.upto (s : _root_.Go.ChangeSpec) : _root_.Go.OpenSpec := { _root_.Go.OpenSpec.ofChange s with cond := some uptoSmall }

/-- 'jettylaw15.HeapPlaces', WHERE WHAT IT READS IS OF BULK AT MOST 1048576: true; the input reads as it did. -/
def heapPlacesUptoRow : OpenClaim := { program := "ythehglhbgplfhaa", sum := "d8c94787ddd7df6da79b5ac4012d769301bd4d73c46109bbe98d9a477550bd47", func := "jetty/jettylaw15.HeapPlaces", spec := "heapPlaces", unfollowed := true, recurses := true, apart := false, narrowed := true }
def HeapPlacesUptoSaid : Prop := heapPlacesUptoRow.holds Try.pinned (OpenSpec.upto heapPlacesSpec)

/-- 'jettylaw13.StageOver', WHERE WHAT IT READS IS OF BULK AT MOST 1048576: true; the input reads as it did. -/
def stageOverUptoRow : OpenClaim := { program := "ythehglhbgplfhaa", sum := "d8c94787ddd7df6da79b5ac4012d769301bd4d73c46109bbe98d9a477550bd47", func := "jetty/jettylaw13.StageOver", spec := "stageOver", unfollowed := true, recurses := true, apart := false, narrowed := true }
def StageOverUptoSaid : Prop := stageOverUptoRow.holds Try.pinned (OpenSpec.upto stageOverSpec)

/-- 'jettylaw13.StageLands', WHERE WHAT IT READS IS OF BULK AT MOST 1048576: true; the input reads as it did. -/
def stageLandsUptoRow : OpenClaim := { program := "ythehglhbgplfhaa", sum := "d8c94787ddd7df6da79b5ac4012d769301bd4d73c46109bbe98d9a477550bd47", func := "jetty/jettylaw13.StageLands", spec := "stageLands", unfollowed := true, recurses := true, apart := false, narrowed := true }
def StageLandsUptoSaid : Prop := stageLandsUptoRow.holds Try.pinned (OpenSpec.upto stageLandsSpec)

/-- 'jettylaw13.StageAll', WHERE WHAT IT READS IS OF BULK AT MOST 1048576: true; the input reads as it did. -/
def stageAllUptoRow : OpenClaim := { program := "ythehglhbgplfhaa", sum := "d8c94787ddd7df6da79b5ac4012d769301bd4d73c46109bbe98d9a477550bd47", func := "jetty/jettylaw13.StageAll", spec := "stageAll", unfollowed := true, recurses := true, apart := false, narrowed := true }
def StageAllUptoSaid : Prop := stageAllUptoRow.holds Try.pinned (OpenSpec.upto stageAllSpec)

/-- 'jettylaw13.StageRuns', WHERE WHAT IT READS IS OF BULK AT MOST 1048576: true; the input reads as it did. -/
def stageRunsUptoRow : OpenClaim := { program := "ythehglhbgplfhaa", sum := "d8c94787ddd7df6da79b5ac4012d769301bd4d73c46109bbe98d9a477550bd47", func := "jetty/jettylaw13.StageRuns", spec := "stageRuns", unfollowed := true, recurses := true, apart := false, narrowed := true }
def StageRunsUptoSaid : Prop := stageRunsUptoRow.holds Try.pinned (OpenSpec.upto stageRunsSpec)

/-- 'jettylaw15.HeapMaps', WHERE WHAT IT READS IS OF BULK AT MOST 1048576: true; the input reads as it did. -/
def heapMapsUptoRow : OpenClaim := { program := "ythehglhbgplfhaa", sum := "d8c94787ddd7df6da79b5ac4012d769301bd4d73c46109bbe98d9a477550bd47", func := "jetty/jettylaw15.HeapMaps", spec := "heapMaps", unfollowed := true, recurses := true, apart := false, narrowed := true }
def HeapMapsUptoSaid : Prop := heapMapsUptoRow.holds Try.pinned (OpenSpec.upto heapMapsSpec)

/-- 'jettylaw15.HeapBack', WHERE WHAT IT READS IS OF BULK AT MOST 1048576: true; the input reads as it did. -/
def heapBackUptoRow : OpenClaim := { program := "ythehglhbgplfhaa", sum := "d8c94787ddd7df6da79b5ac4012d769301bd4d73c46109bbe98d9a477550bd47", func := "jetty/jettylaw15.HeapBack", spec := "heapBack", unfollowed := true, recurses := true, apart := false, narrowed := true }
def HeapBackUptoSaid : Prop := heapBackUptoRow.holds Try.pinned (OpenSpec.upto heapBackSpec)

/-- 'jettylaw15.HeapKept', WHERE WHAT IT READS IS OF BULK AT MOST 1048576: true; the input reads as it did. -/
def heapKeptUptoRow : OpenClaim := { program := "ythehglhbgplfhaa", sum := "d8c94787ddd7df6da79b5ac4012d769301bd4d73c46109bbe98d9a477550bd47", func := "jetty/jettylaw15.HeapKept", spec := "heapKept", unfollowed := true, recurses := true, apart := false, narrowed := true }
def HeapKeptUptoSaid : Prop := heapKeptUptoRow.holds Try.pinned (OpenSpec.upto heapKeptSpec)

/-- 'jettylaw15.HeapLists', WHERE WHAT IT READS IS OF BULK AT MOST 1048576: true; the input reads as it did. -/
def heapListsUptoRow : OpenClaim := { program := "ythehglhbgplfhaa", sum := "d8c94787ddd7df6da79b5ac4012d769301bd4d73c46109bbe98d9a477550bd47", func := "jetty/jettylaw15.HeapLists", spec := "heapLists", unfollowed := true, recurses := true, apart := false, narrowed := true }
def HeapListsUptoSaid : Prop := heapListsUptoRow.holds Try.pinned (OpenSpec.upto heapListsSpec)

end Rows
end Go.Proofs.Ythehglhbgplfhaa
