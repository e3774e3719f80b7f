/-
  No cell of these rows narrows 'for every input' (looked for: loops, veiled, ifaces, maps, wideKeys, modest, calm, conditions, laid).
  DERIVED. THE GIVEN ROWS OF THIS SEAT. 3 by the template 'for every input the law returns true; each argument reads behind the call as it read before'; 0 by the template 'total and deterministic' (their statements: YtdppidnjjdhnaaaTotals.lean).
  GIVEN WITH THE SEED: the statements are not yours to turn. If you find one false, say at which input.
  Laid BY PROGRAM, IN A SANDBOX (cutbox-rows.mjs): the forced cells as the released guide's own fill.sh prints them over the translation 457f7614f125da6c… (all of the seat's roots in one cut). By AI agents, Wed Nov 11 2026. No macro, syntax, notation, axiom, sorry.
-/
import Derived.Test.YtdppidnjjdhnaaaChecked
import GoSem.Claim
import GoSem.ClaimJoined
import GoSem.ClaimMapViews
import Derived.JoinedTies
import Derived.KernelRfl
namespace Go.Proofs.Ytdppidnjjdhnaaa
/- THE CELL 'sum', in the pinned program and in every row, IS THE sha256 OF THE DUMP (.gsa) THAT YtdppidnjjdhnaaaProg.lean LOADS. Nothing in Lean hashes anything: it is a label: what it is worth is what the hold of that sum in a sandbox is worth. -/
noncomputable def Try.pinned : Pinned := { name := "ytdppidnjjdhnaaa", sum := "457f7614f125da6c2ab22e48f493338d7e3f50924cbf815afdbbc0ddc93ab094", checked := Try.checked }
namespace Rows
def none {H : Type} : Left H := { results := [], args := [] }

/-- 'jettylaw20.PlanNeeds': WHATEVER THE INPUT: true; the input reads as it did. -/
def planNeedsSpec : ChangeSpec := { name := "planNeeds", fn := fun _ => fun
  | [d] => { results := [.lit (.bool true)], args := [d] }
  | _ => none }
def planNeedsRow : OpenClaim := { program := "ytdppidnjjdhnaaa", sum := "457f7614f125da6c2ab22e48f493338d7e3f50924cbf815afdbbc0ddc93ab094", func := "jetty/jettylaw20.PlanNeeds", spec := "planNeeds", unfollowed := true, recurses := true, apart := false }
def PlanNeedsSaid : Prop := planNeedsRow.holds Try.pinned (OpenSpec.ofChange planNeedsSpec)

/-- ITS FALSE NEIGHBOUR: 'it returns false'. Refute it at one input. -/
def planNeedsWrong : ChangeSpec := { name := "planNeeds", fn := fun _ => fun
  | [d] => { results := [.lit (.bool false)], args := [d] }
  | _ => none }
def PlanNeedsWrongFalsely : Prop := planNeedsRow.holds Try.pinned (OpenSpec.ofChange planNeedsWrong)

/-- 'jettylaw20.PlanPure': WHATEVER THE INPUT: true; the input reads as it did. -/
def planPureSpec : ChangeSpec := { name := "planPure", fn := fun _ => fun
  | [d1, d2] => { results := [.lit (.bool true)], args := [d1, d2] }
  | _ => none }
def planPureRow : OpenClaim := { program := "ytdppidnjjdhnaaa", sum := "457f7614f125da6c2ab22e48f493338d7e3f50924cbf815afdbbc0ddc93ab094", func := "jetty/jettylaw20.PlanPure", spec := "planPure", unfollowed := true, recurses := true, apart := false }
def PlanPureSaid : Prop := planPureRow.holds Try.pinned (OpenSpec.ofChange planPureSpec)

/-- ITS FALSE NEIGHBOUR: 'it returns false'. Refute it at one input. -/
def planPureWrong : ChangeSpec := { name := "planPure", fn := fun _ => fun
  | [d1, d2] => { results := [.lit (.bool false)], args := [d1, d2] }
  | _ => none }
def PlanPureWrongFalsely : Prop := planPureRow.holds Try.pinned (OpenSpec.ofChange planPureWrong)

/-- 'jettylaw20.PlanAbove': WHATEVER THE INPUT: true; the input reads as it did. -/
def planAboveSpec : ChangeSpec := { name := "planAbove", fn := fun _ => fun
  | [d1, d2, d3] => { results := [.lit (.bool true)], args := [d1, d2, d3] }
  | _ => none }
def planAboveRow : OpenClaim := { program := "ytdppidnjjdhnaaa", sum := "457f7614f125da6c2ab22e48f493338d7e3f50924cbf815afdbbc0ddc93ab094", func := "jetty/jettylaw20.PlanAbove", spec := "planAbove", unfollowed := true, recurses := true, apart := false }
def PlanAboveSaid : Prop := planAboveRow.holds Try.pinned (OpenSpec.ofChange planAboveSpec)

/-- ITS FALSE NEIGHBOUR: 'it returns false'. Refute it at one input. -/
def planAboveWrong : ChangeSpec := { name := "planAbove", fn := fun _ => fun
  | [d1, d2, d3] => { results := [.lit (.bool false)], args := [d1, d2, d3] }
  | _ => none }
def PlanAboveWrongFalsely : Prop := planAboveRow.holds Try.pinned (OpenSpec.ofChange planAboveWrong)

/- THE SECOND FORM. 'bulk': how many values and letters a reading holds, each counted each time it is reached (what is shared counts as often as it is met; a slice's spare places count too). A statement '..UptoSaid' is the law's where the arguments, and the package variables that the reading takes, are together of bulk at most 1048576: NARROWER than '..Said'. Prove '..Said' where nothing that the law and all that it calls make is longer than what came in: it says more and counts as full. Else prove '..UptoSaid'. A law counts once. -/
mutual
def uptoBulk {H : Type} : DataW H → Nat
  | .lit (.string bytes) => bytes.length + 1
  | .lit _ => 1
  | .nil => 1
  | .ptr d => uptoBulk d + 1
  | .slice elems spare => uptoBulkAll elems + uptoBulkAll spare + 1
  | .agg parts => uptoBulkAll parts + 1
  | .iface _ d => uptoBulk d + 1
  | .map entries => uptoBulkEntries entries + 1
  | .held _ => 1
def uptoBulkAll {H : Type} : List (DataW H) → Nat
  | [] => 0
  | d :: r => uptoBulk d + uptoBulkAll r
def uptoBulkEntries {H : Type} : List (Lit × DataW H) → Nat
  | [] => 0
  | x :: r => uptoBulkEntry x + uptoBulkEntries r
def uptoBulkEntry {H : Type} : Lit × DataW H → Nat
  | (.string bytes, d) => bytes.length + uptoBulk d + 1
  | (_, d) => uptoBulk d + 1
 end
def uptoSmall : (H : Type) → List (DataW H) → Bool := fun _ ds => decide (uptoBulkAll ds ≤ 1048576)
def OpenSpec.upto (s : _root_.Go.ChangeSpec) : _root_.Go.OpenSpec := { _root_.Go.OpenSpec.ofChange s with cond := some uptoSmall }

/-- 'jettylaw20.PlanNeeds', WHERE WHAT IT READS IS OF BULK AT MOST 1048576: true; the input reads as it did. -/
def planNeedsUptoRow : OpenClaim := { program := "ytdppidnjjdhnaaa", sum := "457f7614f125da6c2ab22e48f493338d7e3f50924cbf815afdbbc0ddc93ab094", func := "jetty/jettylaw20.PlanNeeds", spec := "planNeeds", unfollowed := true, recurses := true, apart := false, narrowed := true }
def PlanNeedsUptoSaid : Prop := planNeedsUptoRow.holds Try.pinned (OpenSpec.upto planNeedsSpec)

/-- 'jettylaw20.PlanPure', WHERE WHAT IT READS IS OF BULK AT MOST 1048576: true; the input reads as it did. -/
def planPureUptoRow : OpenClaim := { program := "ytdppidnjjdhnaaa", sum := "457f7614f125da6c2ab22e48f493338d7e3f50924cbf815afdbbc0ddc93ab094", func := "jetty/jettylaw20.PlanPure", spec := "planPure", unfollowed := true, recurses := true, apart := false, narrowed := true }
def PlanPureUptoSaid : Prop := planPureUptoRow.holds Try.pinned (OpenSpec.upto planPureSpec)

/-- 'jettylaw20.PlanAbove', WHERE WHAT IT READS IS OF BULK AT MOST 1048576: true; the input reads as it did. -/
def planAboveUptoRow : OpenClaim := { program := "ytdppidnjjdhnaaa", sum := "457f7614f125da6c2ab22e48f493338d7e3f50924cbf815afdbbc0ddc93ab094", func := "jetty/jettylaw20.PlanAbove", spec := "planAbove", unfollowed := true, recurses := true, apart := false, narrowed := true }
def PlanAboveUptoSaid : Prop := planAboveUptoRow.holds Try.pinned (OpenSpec.upto planAboveSpec)

end Rows
end Go.Proofs.Ytdppidnjjdhnaaa
