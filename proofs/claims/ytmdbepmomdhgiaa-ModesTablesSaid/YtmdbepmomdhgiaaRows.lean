/-
  No cell of these rows narrows 'for every input' (looked for: loops, veiled, ifaces, maps, wideKeys, modest, calm, conditions, laid).
  DERIVED. THE GIVEN ROWS OF THIS SEAT. 4 by the template 'for every input the law returns true; each argument reads behind the call as it read before'; 0 by the template 'total and deterministic' (their statements: YtmdbepmomdhgiaaTotals.lean).
  GIVEN WITH THE SEED: the statements are not yours to turn. If you find one false, say at which input.
  Laid BY PROGRAM, IN A SANDBOX (cutbox-rows.mjs): the forced cells as the released guide's own fill.sh prints them over the translation c5cecf068255a73d… (all of the seat's roots in one cut). By AI agents, Wed Nov 11 2026. No macro, syntax, notation, axiom, sorry.
-/
import Derived.Test.YtmdbepmomdhgiaaChecked
import GoSem.Claim
import GoSem.ClaimJoined
import GoSem.ClaimMapViews
import Derived.JoinedTies
import Derived.KernelRfl
namespace Go.Proofs.Ytmdbepmomdhgiaa
/- THE CELL 'sum', in the pinned program and in every row, IS THE sha256 OF THE DUMP (.gsa) THAT YtmdbepmomdhgiaaProg.lean LOADS. Nothing in Lean hashes anything: it is a label: what it is worth is what the hold of that sum in a sandbox is worth. -/
noncomputable def Try.pinned : Pinned := { name := "ytmdbepmomdhgiaa", sum := "c5cecf068255a73d7274f631d6316bea1d12afddd18bd3b86cfbdeda3a99b39c", checked := Try.checked }
namespace Rows
def none {H : Type} : Left H := { results := [], args := [] }

/-- 'jettylaw08.ModesJoin': WHATEVER THE INPUT: true; the input reads as it did. -/
def modesJoinSpec : ChangeSpec := { name := "modesJoin", fn := fun _ => fun
  | [d1, d2, d3] => { results := [.lit (.bool true)], args := [d1, d2, d3] }
  | _ => none }
def modesJoinRow : OpenClaim := { program := "ytmdbepmomdhgiaa", sum := "c5cecf068255a73d7274f631d6316bea1d12afddd18bd3b86cfbdeda3a99b39c", func := "jetty/jettylaw08.ModesJoin", spec := "modesJoin", apart := false }
def ModesJoinSaid : Prop := modesJoinRow.holds Try.pinned (OpenSpec.ofChange modesJoinSpec)

/-- ITS FALSE NEIGHBOUR: 'it returns false'. Refute it at one input. -/
def modesJoinWrong : ChangeSpec := { name := "modesJoin", fn := fun _ => fun
  | [d1, d2, d3] => { results := [.lit (.bool false)], args := [d1, d2, d3] }
  | _ => none }
def ModesJoinWrongFalsely : Prop := modesJoinRow.holds Try.pinned (OpenSpec.ofChange modesJoinWrong)

/-- 'jettylaw08.ModesOrder': WHATEVER THE INPUT: true; the input reads as it did. -/
def modesOrderSpec : ChangeSpec := { name := "modesOrder", fn := fun _ => fun
  | [d1, d2, d3] => { results := [.lit (.bool true)], args := [d1, d2, d3] }
  | _ => none }
def modesOrderRow : OpenClaim := { program := "ytmdbepmomdhgiaa", sum := "c5cecf068255a73d7274f631d6316bea1d12afddd18bd3b86cfbdeda3a99b39c", func := "jetty/jettylaw08.ModesOrder", spec := "modesOrder", apart := false }
def ModesOrderSaid : Prop := modesOrderRow.holds Try.pinned (OpenSpec.ofChange modesOrderSpec)

/-- ITS FALSE NEIGHBOUR: 'it returns false'. Refute it at one input. -/
def modesOrderWrong : ChangeSpec := { name := "modesOrder", fn := fun _ => fun
  | [d1, d2, d3] => { results := [.lit (.bool false)], args := [d1, d2, d3] }
  | _ => none }
def ModesOrderWrongFalsely : Prop := modesOrderRow.holds Try.pinned (OpenSpec.ofChange modesOrderWrong)

/-- 'jettylaw08.ModesTables': WHATEVER THE INPUT: true; the input reads as it did. -/
def modesTablesSpec : ChangeSpec := { name := "modesTables", fn := fun _ => fun
  | [d1, d2] => { results := [.lit (.bool true)], args := [d1, d2] }
  | _ => none }
def modesTablesRow : OpenClaim := { program := "ytmdbepmomdhgiaa", sum := "c5cecf068255a73d7274f631d6316bea1d12afddd18bd3b86cfbdeda3a99b39c", func := "jetty/jettylaw08.ModesTables", spec := "modesTables", apart := false }
def ModesTablesSaid : Prop := modesTablesRow.holds Try.pinned (OpenSpec.ofChange modesTablesSpec)

/-- ITS FALSE NEIGHBOUR: 'it returns false'. Refute it at one input. -/
def modesTablesWrong : ChangeSpec := { name := "modesTables", fn := fun _ => fun
  | [d1, d2] => { results := [.lit (.bool false)], args := [d1, d2] }
  | _ => none }
def ModesTablesWrongFalsely : Prop := modesTablesRow.holds Try.pinned (OpenSpec.ofChange modesTablesWrong)

/-- 'jettylaw08.ModesWeaker': WHATEVER THE INPUT: true; the input reads as it did. -/
def modesWeakerSpec : ChangeSpec := { name := "modesWeaker", fn := fun _ => fun
  | [d1, d2, d3] => { results := [.lit (.bool true)], args := [d1, d2, d3] }
  | _ => none }
def modesWeakerRow : OpenClaim := { program := "ytmdbepmomdhgiaa", sum := "c5cecf068255a73d7274f631d6316bea1d12afddd18bd3b86cfbdeda3a99b39c", func := "jetty/jettylaw08.ModesWeaker", spec := "modesWeaker", apart := false }
def ModesWeakerSaid : Prop := modesWeakerRow.holds Try.pinned (OpenSpec.ofChange modesWeakerSpec)

/-- ITS FALSE NEIGHBOUR: 'it returns false'. Refute it at one input. -/
def modesWeakerWrong : ChangeSpec := { name := "modesWeaker", fn := fun _ => fun
  | [d1, d2, d3] => { results := [.lit (.bool false)], args := [d1, d2, d3] }
  | _ => none }
def ModesWeakerWrongFalsely : Prop := modesWeakerRow.holds Try.pinned (OpenSpec.ofChange modesWeakerWrong)

/- THE SECOND FORM. 'bulk': how many values and letters a reading holds, each counted each time it is reached (what is shared counts as often as it is met; a slice's spare places count too). A statement '..UptoSaid' is the law's where the arguments, and the package variables that the reading takes, are together of bulk at most 1048576: NARROWER than '..Said'. Prove '..Said' where nothing that the law and all that it calls make is longer than what came in: it says more and counts as full. Else prove '..UptoSaid'. A law counts once. -/
mutual
def uptoBulk {H : Type} : DataW H → Nat
  | .lit (.string bytes) => bytes.length + 1
  | .lit _ => 1
  | .nil => 1
  | .ptr d => uptoBulk d + 1
  | .slice elems spare => uptoBulkAll elems + uptoBulkAll spare + 1
  | .agg parts => uptoBulkAll parts + 1
  | .iface _ d => uptoBulk d + 1
  | .map entries => uptoBulkEntries entries + 1
  | .held _ => 1
def uptoBulkAll {H : Type} : List (DataW H) → Nat
  | [] => 0
  | d :: r => uptoBulk d + uptoBulkAll r
def uptoBulkEntries {H : Type} : List (Lit × DataW H) → Nat
  | [] => 0
  | x :: r => uptoBulkEntry x + uptoBulkEntries r
def uptoBulkEntry {H : Type} : Lit × DataW H → Nat
  | (.string bytes, d) => bytes.length + uptoBulk d + 1
  | (_, d) => uptoBulk d + 1
 end
def uptoSmall : (H : Type) → List (DataW H) → Bool := fun _ ds => decide (uptoBulkAll ds ≤ 1048576)
def OpenSpec.upto (s : _root_.Go.ChangeSpec) : _root_.Go.OpenSpec := { _root_.Go.OpenSpec.ofChange s with cond := some uptoSmall }

/-- 'jettylaw08.ModesJoin', WHERE WHAT IT READS IS OF BULK AT MOST 1048576: true; the input reads as it did. -/
def modesJoinUptoRow : OpenClaim := { program := "ytmdbepmomdhgiaa", sum := "c5cecf068255a73d7274f631d6316bea1d12afddd18bd3b86cfbdeda3a99b39c", func := "jetty/jettylaw08.ModesJoin", spec := "modesJoin", apart := false, narrowed := true }
def ModesJoinUptoSaid : Prop := modesJoinUptoRow.holds Try.pinned (OpenSpec.upto modesJoinSpec)

/-- 'jettylaw08.ModesOrder', WHERE WHAT IT READS IS OF BULK AT MOST 1048576: true; the input reads as it did. -/
def modesOrderUptoRow : OpenClaim := { program := "ytmdbepmomdhgiaa", sum := "c5cecf068255a73d7274f631d6316bea1d12afddd18bd3b86cfbdeda3a99b39c", func := "jetty/jettylaw08.ModesOrder", spec := "modesOrder", apart := false, narrowed := true }
def ModesOrderUptoSaid : Prop := modesOrderUptoRow.holds Try.pinned (OpenSpec.upto modesOrderSpec)

/-- 'jettylaw08.ModesTables', WHERE WHAT IT READS IS OF BULK AT MOST 1048576: true; the input reads as it did. -/
def modesTablesUptoRow : OpenClaim := { program := "ytmdbepmomdhgiaa", sum := "c5cecf068255a73d7274f631d6316bea1d12afddd18bd3b86cfbdeda3a99b39c", func := "jetty/jettylaw08.ModesTables", spec := "modesTables", apart := false, narrowed := true }
def ModesTablesUptoSaid : Prop := modesTablesUptoRow.holds Try.pinned (OpenSpec.upto modesTablesSpec)

/-- 'jettylaw08.ModesWeaker', WHERE WHAT IT READS IS OF BULK AT MOST 1048576: true; the input reads as it did. -/
def modesWeakerUptoRow : OpenClaim := { program := "ytmdbepmomdhgiaa", sum := "c5cecf068255a73d7274f631d6316bea1d12afddd18bd3b86cfbdeda3a99b39c", func := "jetty/jettylaw08.ModesWeaker", spec := "modesWeaker", apart := false, narrowed := true }
def ModesWeakerUptoSaid : Prop := modesWeakerUptoRow.holds Try.pinned (OpenSpec.upto modesWeakerSpec)

end Rows
end Go.Proofs.Ytmdbepmomdhgiaa
