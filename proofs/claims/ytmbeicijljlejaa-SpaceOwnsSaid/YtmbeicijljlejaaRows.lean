/-
  No cell of these rows narrows 'for every input' (looked for: loops, veiled, ifaces, maps, wideKeys, modest, calm, conditions, laid).
  DERIVED. THE GIVEN ROWS OF THIS SEAT. 4 by the template 'for every input the law returns true; each argument reads behind the call as it read before'; 0 by the template 'total and deterministic' (their statements: YtmbeicijljlejaaTotals.lean).
  GIVEN WITH THE SEED: the statements are not yours to turn. If you find one false, say at which input.
  Laid BY PROGRAM, IN A SANDBOX (cutbox-rows.mjs): the forced cells as the released guide's own fill.sh prints them over the translation 4b49478822da1e0e… (all of the seat's roots in one cut). By AI agents, Wed Nov 11 2026. No macro, syntax, notation, axiom, sorry.
-/
import Derived.Test.YtmbeicijljlejaaChecked
import GoSem.Claim
import GoSem.ClaimJoined
import GoSem.ClaimMapViews
import Derived.JoinedTies
import Derived.KernelRfl
namespace Go.Proofs.Ytmbeicijljlejaa
/- THE CELL 'sum', in the pinned program and in every row, IS THE sha256 OF THE DUMP (.gsa) THAT YtmbeicijljlejaaProg.lean LOADS. Nothing in Lean hashes anything: it is a label: what it is worth is what the hold of that sum in a sandbox is worth. -/
noncomputable def Try.pinned : Pinned := { name := "ytmbeicijljlejaa", sum := "4b49478822da1e0e78604e4116410ce259a73dad6f64e8ec079ef963a1f3986d", checked := Try.checked }
namespace Rows
def none {H : Type} : Left H := { results := [], args := [] }

/-- 'jettylaw14.SpaceGhosts': WHATEVER THE INPUT: true; the input reads as it did. -/
def spaceGhostsSpec : ChangeSpec := { name := "spaceGhosts", fn := fun _ => fun
  | [d1, d2] => { results := [.lit (.bool true)], args := [d1, d2] }
  | _ => none }
def spaceGhostsRow : OpenClaim := { program := "ytmbeicijljlejaa", sum := "4b49478822da1e0e78604e4116410ce259a73dad6f64e8ec079ef963a1f3986d", func := "jetty/jettylaw14.SpaceGhosts", spec := "spaceGhosts", unfollowed := true, recurses := true, apart := false }
def SpaceGhostsSaid : Prop := spaceGhostsRow.holds Try.pinned (OpenSpec.ofChange spaceGhostsSpec)

/-- ITS FALSE NEIGHBOUR: 'it returns false'. Refute it at one input. -/
def spaceGhostsWrong : ChangeSpec := { name := "spaceGhosts", fn := fun _ => fun
  | [d1, d2] => { results := [.lit (.bool false)], args := [d1, d2] }
  | _ => none }
def SpaceGhostsWrongFalsely : Prop := spaceGhostsRow.holds Try.pinned (OpenSpec.ofChange spaceGhostsWrong)

/-- 'jettylaw14.SpaceLowest': WHATEVER THE INPUT: true; the input reads as it did. -/
def spaceLowestSpec : ChangeSpec := { name := "spaceLowest", fn := fun _ => fun
  | [d1, d2] => { results := [.lit (.bool true)], args := [d1, d2] }
  | _ => none }
def spaceLowestRow : OpenClaim := { program := "ytmbeicijljlejaa", sum := "4b49478822da1e0e78604e4116410ce259a73dad6f64e8ec079ef963a1f3986d", func := "jetty/jettylaw14.SpaceLowest", spec := "spaceLowest", unfollowed := true, recurses := true, apart := false }
def SpaceLowestSaid : Prop := spaceLowestRow.holds Try.pinned (OpenSpec.ofChange spaceLowestSpec)

/-- ITS FALSE NEIGHBOUR: 'it returns false'. Refute it at one input. -/
def spaceLowestWrong : ChangeSpec := { name := "spaceLowest", fn := fun _ => fun
  | [d1, d2] => { results := [.lit (.bool false)], args := [d1, d2] }
  | _ => none }
def SpaceLowestWrongFalsely : Prop := spaceLowestRow.holds Try.pinned (OpenSpec.ofChange spaceLowestWrong)

/-- 'jettylaw14.SpaceOwns': WHATEVER THE INPUT: true; the input reads as it did. -/
def spaceOwnsSpec : ChangeSpec := { name := "spaceOwns", fn := fun _ => fun
  | [d1, d2, d3] => { results := [.lit (.bool true)], args := [d1, d2, d3] }
  | _ => none }
def spaceOwnsRow : OpenClaim := { program := "ytmbeicijljlejaa", sum := "4b49478822da1e0e78604e4116410ce259a73dad6f64e8ec079ef963a1f3986d", func := "jetty/jettylaw14.SpaceOwns", spec := "spaceOwns", unfollowed := true, recurses := true, apart := false }
def SpaceOwnsSaid : Prop := spaceOwnsRow.holds Try.pinned (OpenSpec.ofChange spaceOwnsSpec)

/-- ITS FALSE NEIGHBOUR: 'it returns false'. Refute it at one input. -/
def spaceOwnsWrong : ChangeSpec := { name := "spaceOwns", fn := fun _ => fun
  | [d1, d2, d3] => { results := [.lit (.bool false)], args := [d1, d2, d3] }
  | _ => none }
def SpaceOwnsWrongFalsely : Prop := spaceOwnsRow.holds Try.pinned (OpenSpec.ofChange spaceOwnsWrong)

/-- 'jettylaw14.SpaceStores': WHATEVER THE INPUT: true; the input reads as it did. -/
def spaceStoresSpec : ChangeSpec := { name := "spaceStores", fn := fun _ => fun
  | [d1, d2] => { results := [.lit (.bool true)], args := [d1, d2] }
  | _ => none }
def spaceStoresRow : OpenClaim := { program := "ytmbeicijljlejaa", sum := "4b49478822da1e0e78604e4116410ce259a73dad6f64e8ec079ef963a1f3986d", func := "jetty/jettylaw14.SpaceStores", spec := "spaceStores", unfollowed := true, recurses := true, apart := false }
def SpaceStoresSaid : Prop := spaceStoresRow.holds Try.pinned (OpenSpec.ofChange spaceStoresSpec)

/-- ITS FALSE NEIGHBOUR: 'it returns false'. Refute it at one input. -/
def spaceStoresWrong : ChangeSpec := { name := "spaceStores", fn := fun _ => fun
  | [d1, d2] => { results := [.lit (.bool false)], args := [d1, d2] }
  | _ => none }
def SpaceStoresWrongFalsely : Prop := spaceStoresRow.holds Try.pinned (OpenSpec.ofChange spaceStoresWrong)

/- THE SECOND FORM. 'bulk': how many values and letters a reading holds, each counted each time it is reached (what is shared counts as often as it is met; a slice's spare places count too). A statement '..UptoSaid' is the law's where the arguments, and the package variables that the reading takes, are together of bulk at most 1048576: NARROWER than '..Said'. Prove '..Said' where nothing that the law and all that it calls make is longer than what came in: it says more and counts as full. Else prove '..UptoSaid'. A law counts once. -/
mutual
def uptoBulk {H : Type} : DataW H → Nat
  | .lit (.string bytes) => bytes.length + 1
  | .lit _ => 1
  | .nil => 1
  | .ptr d => uptoBulk d + 1
  | .slice elems spare => uptoBulkAll elems + uptoBulkAll spare + 1
  | .agg parts => uptoBulkAll parts + 1
  | .iface _ d => uptoBulk d + 1
  | .map entries => uptoBulkEntries entries + 1
  | .held _ => 1
def uptoBulkAll {H : Type} : List (DataW H) → Nat
  | [] => 0
  | d :: r => uptoBulk d + uptoBulkAll r
def uptoBulkEntries {H : Type} : List (Lit × DataW H) → Nat
  | [] => 0
  | x :: r => uptoBulkEntry x + uptoBulkEntries r
def uptoBulkEntry {H : Type} : Lit × DataW H → Nat
  | (.string bytes, d) => bytes.length + uptoBulk d + 1
  | (_, d) => uptoBulk d + 1
 end
def uptoSmall : (H : Type) → List (DataW H) → Bool := fun _ ds => decide (uptoBulkAll ds ≤ 1048576)
def OpenSpec.upto (s : _root_.Go.ChangeSpec) : _root_.Go.OpenSpec := { _root_.Go.OpenSpec.ofChange s with cond := some uptoSmall }

/-- 'jettylaw14.SpaceGhosts', WHERE WHAT IT READS IS OF BULK AT MOST 1048576: true; the input reads as it did. -/
def spaceGhostsUptoRow : OpenClaim := { program := "ytmbeicijljlejaa", sum := "4b49478822da1e0e78604e4116410ce259a73dad6f64e8ec079ef963a1f3986d", func := "jetty/jettylaw14.SpaceGhosts", spec := "spaceGhosts", unfollowed := true, recurses := true, apart := false, narrowed := true }
def SpaceGhostsUptoSaid : Prop := spaceGhostsUptoRow.holds Try.pinned (OpenSpec.upto spaceGhostsSpec)

/-- 'jettylaw14.SpaceLowest', WHERE WHAT IT READS IS OF BULK AT MOST 1048576: true; the input reads as it did. -/
def spaceLowestUptoRow : OpenClaim := { program := "ytmbeicijljlejaa", sum := "4b49478822da1e0e78604e4116410ce259a73dad6f64e8ec079ef963a1f3986d", func := "jetty/jettylaw14.SpaceLowest", spec := "spaceLowest", unfollowed := true, recurses := true, apart := false, narrowed := true }
def SpaceLowestUptoSaid : Prop := spaceLowestUptoRow.holds Try.pinned (OpenSpec.upto spaceLowestSpec)

/-- 'jettylaw14.SpaceOwns', WHERE WHAT IT READS IS OF BULK AT MOST 1048576: true; the input reads as it did. -/
def spaceOwnsUptoRow : OpenClaim := { program := "ytmbeicijljlejaa", sum := "4b49478822da1e0e78604e4116410ce259a73dad6f64e8ec079ef963a1f3986d", func := "jetty/jettylaw14.SpaceOwns", spec := "spaceOwns", unfollowed := true, recurses := true, apart := false, narrowed := true }
def SpaceOwnsUptoSaid : Prop := spaceOwnsUptoRow.holds Try.pinned (OpenSpec.upto spaceOwnsSpec)

/-- 'jettylaw14.SpaceStores', WHERE WHAT IT READS IS OF BULK AT MOST 1048576: true; the input reads as it did. -/
def spaceStoresUptoRow : OpenClaim := { program := "ytmbeicijljlejaa", sum := "4b49478822da1e0e78604e4116410ce259a73dad6f64e8ec079ef963a1f3986d", func := "jetty/jettylaw14.SpaceStores", spec := "spaceStores", unfollowed := true, recurses := true, apart := false, narrowed := true }
def SpaceStoresUptoSaid : Prop := spaceStoresUptoRow.holds Try.pinned (OpenSpec.upto spaceStoresSpec)

end Rows
end Go.Proofs.Ytmbeicijljlejaa
