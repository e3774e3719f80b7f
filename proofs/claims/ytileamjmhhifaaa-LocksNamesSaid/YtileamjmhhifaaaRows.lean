/-
  No cell of these rows narrows 'for every input' (looked for: loops, veiled, ifaces, maps, wideKeys, modest, calm, conditions, laid).
  DERIVED. THE GIVEN ROWS OF THIS SEAT. 6 by the template 'for every input the law returns true; each argument reads behind the call as it read before'; 0 by the template 'total and deterministic' (their statements: YtileamjmhhifaaaTotals.lean).
  GIVEN WITH THE SEED: the statements are not yours to turn. If you find one false, say at which input.
  Laid BY PROGRAM, IN A SANDBOX (cutbox-rows.mjs): the forced cells as the released guide's own fill.sh prints them over the translation a7a9b60a930cdfea… (all of the seat's roots in one cut). By AI agents, Wed Nov 11 2026. No macro, syntax, notation, axiom, sorry.
-/
import Derived.Test.YtileamjmhhifaaaChecked
import GoSem.Claim
import GoSem.ClaimJoined
import GoSem.ClaimMapViews
import Derived.JoinedTies
import Derived.KernelRfl
namespace Go.Proofs.Ytileamjmhhifaaa
/- THE CELL 'sum', in the pinned program and in every row, IS THE sha256 OF THE DUMP (.gsa) THAT YtileamjmhhifaaaProg.lean LOADS. Nothing in Lean hashes anything: it is a label: what it is worth is what the hold of that sum in a sandbox is worth. -/
noncomputable def Try.pinned : Pinned := { name := "ytileamjmhhifaaa", sum := "a7a9b60a930cdfeae098d17957a5af0ca970e029e119b77545699fe89ce5a4f9", checked := Try.checked }
namespace Rows
def none {H : Type} : Left H := { results := [], args := [] }

/-- 'jettylaw09.LocksNames': WHATEVER THE INPUT: true; the input reads as it did. -/
def locksNamesSpec : ChangeSpec := { name := "locksNames", fn := fun _ => fun
  | [d1, d2] => { results := [.lit (.bool true)], args := [d1, d2] }
  | _ => none }
def locksNamesRow : OpenClaim := { program := "ytileamjmhhifaaa", sum := "a7a9b60a930cdfeae098d17957a5af0ca970e029e119b77545699fe89ce5a4f9", func := "jetty/jettylaw09.LocksNames", spec := "locksNames", unfollowed := true, recurses := true, plainKeys := false, apart := false }
def LocksNamesSaid : Prop := locksNamesRow.holds Try.pinned (OpenSpec.ofChange locksNamesSpec)

/-- ITS FALSE NEIGHBOUR: 'it returns false'. Refute it at one input. -/
def locksNamesWrong : ChangeSpec := { name := "locksNames", fn := fun _ => fun
  | [d1, d2] => { results := [.lit (.bool false)], args := [d1, d2] }
  | _ => none }
def LocksNamesWrongFalsely : Prop := locksNamesRow.holds Try.pinned (OpenSpec.ofChange locksNamesWrong)

/-- 'jettylaw09.LocksGreater': WHATEVER THE INPUT: true; the input reads as it did. -/
def locksGreaterSpec : ChangeSpec := { name := "locksGreater", fn := fun _ => fun
  | [d1, d2] => { results := [.lit (.bool true)], args := [d1, d2] }
  | _ => none }
def locksGreaterRow : OpenClaim := { program := "ytileamjmhhifaaa", sum := "a7a9b60a930cdfeae098d17957a5af0ca970e029e119b77545699fe89ce5a4f9", func := "jetty/jettylaw09.LocksGreater", spec := "locksGreater", unfollowed := true, recurses := true, plainKeys := false, apart := false }
def LocksGreaterSaid : Prop := locksGreaterRow.holds Try.pinned (OpenSpec.ofChange locksGreaterSpec)

/-- ITS FALSE NEIGHBOUR: 'it returns false'. Refute it at one input. -/
def locksGreaterWrong : ChangeSpec := { name := "locksGreater", fn := fun _ => fun
  | [d1, d2] => { results := [.lit (.bool false)], args := [d1, d2] }
  | _ => none }
def LocksGreaterWrongFalsely : Prop := locksGreaterRow.holds Try.pinned (OpenSpec.ofChange locksGreaterWrong)

/-- 'jettylaw09.LocksTogether': WHATEVER THE INPUT: true; the input reads as it did. -/
def locksTogetherSpec : ChangeSpec := { name := "locksTogether", fn := fun _ => fun
  | [d] => { results := [.lit (.bool true)], args := [d] }
  | _ => none }
def locksTogetherRow : OpenClaim := { program := "ytileamjmhhifaaa", sum := "a7a9b60a930cdfeae098d17957a5af0ca970e029e119b77545699fe89ce5a4f9", func := "jetty/jettylaw09.LocksTogether", spec := "locksTogether", unfollowed := true, recurses := true, plainKeys := false, apart := false }
def LocksTogetherSaid : Prop := locksTogetherRow.holds Try.pinned (OpenSpec.ofChange locksTogetherSpec)

/-- ITS FALSE NEIGHBOUR: 'it returns false'. Refute it at one input. -/
def locksTogetherWrong : ChangeSpec := { name := "locksTogether", fn := fun _ => fun
  | [d] => { results := [.lit (.bool false)], args := [d] }
  | _ => none }
def LocksTogetherWrongFalsely : Prop := locksTogetherRow.holds Try.pinned (OpenSpec.ofChange locksTogetherWrong)

/-- 'jettylaw09.LocksFair': WHATEVER THE INPUT: true; the input reads as it did. -/
def locksFairSpec : ChangeSpec := { name := "locksFair", fn := fun _ => fun
  | [d] => { results := [.lit (.bool true)], args := [d] }
  | _ => none }
def locksFairRow : OpenClaim := { program := "ytileamjmhhifaaa", sum := "a7a9b60a930cdfeae098d17957a5af0ca970e029e119b77545699fe89ce5a4f9", func := "jetty/jettylaw09.LocksFair", spec := "locksFair", unfollowed := true, recurses := true, plainKeys := false, apart := false }
def LocksFairSaid : Prop := locksFairRow.holds Try.pinned (OpenSpec.ofChange locksFairSpec)

/-- ITS FALSE NEIGHBOUR: 'it returns false'. Refute it at one input. -/
def locksFairWrong : ChangeSpec := { name := "locksFair", fn := fun _ => fun
  | [d] => { results := [.lit (.bool false)], args := [d] }
  | _ => none }
def LocksFairWrongFalsely : Prop := locksFairRow.holds Try.pinned (OpenSpec.ofChange locksFairWrong)

/-- 'jettylaw09.LocksAlone': WHATEVER THE INPUT: true; the input reads as it did. -/
def locksAloneSpec : ChangeSpec := { name := "locksAlone", fn := fun _ => fun
  | [d] => { results := [.lit (.bool true)], args := [d] }
  | _ => none }
def locksAloneRow : OpenClaim := { program := "ytileamjmhhifaaa", sum := "a7a9b60a930cdfeae098d17957a5af0ca970e029e119b77545699fe89ce5a4f9", func := "jetty/jettylaw09.LocksAlone", spec := "locksAlone", unfollowed := true, recurses := true, plainKeys := false, apart := false }
def LocksAloneSaid : Prop := locksAloneRow.holds Try.pinned (OpenSpec.ofChange locksAloneSpec)

/-- ITS FALSE NEIGHBOUR: 'it returns false'. Refute it at one input. -/
def locksAloneWrong : ChangeSpec := { name := "locksAlone", fn := fun _ => fun
  | [d] => { results := [.lit (.bool false)], args := [d] }
  | _ => none }
def LocksAloneWrongFalsely : Prop := locksAloneRow.holds Try.pinned (OpenSpec.ofChange locksAloneWrong)

/-- 'jettylaw09.LocksFirst': WHATEVER THE INPUT: true; the input reads as it did. -/
def locksFirstSpec : ChangeSpec := { name := "locksFirst", fn := fun _ => fun
  | [d1, d2] => { results := [.lit (.bool true)], args := [d1, d2] }
  | _ => none }
def locksFirstRow : OpenClaim := { program := "ytileamjmhhifaaa", sum := "a7a9b60a930cdfeae098d17957a5af0ca970e029e119b77545699fe89ce5a4f9", func := "jetty/jettylaw09.LocksFirst", spec := "locksFirst", unfollowed := true, recurses := true, plainKeys := false, apart := false }
def LocksFirstSaid : Prop := locksFirstRow.holds Try.pinned (OpenSpec.ofChange locksFirstSpec)

/-- ITS FALSE NEIGHBOUR: 'it returns false'. Refute it at one input. -/
def locksFirstWrong : ChangeSpec := { name := "locksFirst", fn := fun _ => fun
  | [d1, d2] => { results := [.lit (.bool false)], args := [d1, d2] }
  | _ => none }
def LocksFirstWrongFalsely : Prop := locksFirstRow.holds Try.pinned (OpenSpec.ofChange locksFirstWrong)

/- THE SECOND FORM. 'bulk': how many values and letters a reading holds, each counted each time it is reached (what is shared counts as often as it is met; a slice's spare places count too). A statement '..UptoSaid' is the law's where the arguments, and the package variables that the reading takes, are together of bulk at most 1048576: NARROWER than '..Said'. Prove '..Said' where nothing that the law and all that it calls make is longer than what came in: it says more and counts as full. Else prove '..UptoSaid'. A law counts once. -/
mutual
def uptoBulk {H : Type} : DataW H → Nat
  | .lit (.string bytes) => bytes.length + 1
  | .lit _ => 1
  | .nil => 1
  | .ptr d => uptoBulk d + 1
  | .slice elems spare => uptoBulkAll elems + uptoBulkAll spare + 1
  | .agg parts => uptoBulkAll parts + 1
  | .iface _ d => uptoBulk d + 1
  | .map entries => uptoBulkEntries entries + 1
  | .held _ => 1
def uptoBulkAll {H : Type} : List (DataW H) → Nat
  | [] => 0
  | d :: r => uptoBulk d + uptoBulkAll r
def uptoBulkEntries {H : Type} : List (Lit × DataW H) → Nat
  | [] => 0
  | x :: r => uptoBulkEntry x + uptoBulkEntries r
def uptoBulkEntry {H : Type} : Lit × DataW H → Nat
  | (.string bytes, d) => bytes.length + uptoBulk d + 1
  | (_, d) => uptoBulk d + 1
 end
def uptoSmall : (H : Type) → List (DataW H) → Bool := fun _ ds => decide (uptoBulkAll ds ≤ 1048576)
def OpenSpec.upto (s : _root_.Go.ChangeSpec) : _root_.Go.OpenSpec := { _root_.Go.OpenSpec.ofChange s with cond := some uptoSmall }

/-- 'jettylaw09.LocksNames', WHERE WHAT IT READS IS OF BULK AT MOST 1048576: true; the input reads as it did. -/
def locksNamesUptoRow : OpenClaim := { program := "ytileamjmhhifaaa", sum := "a7a9b60a930cdfeae098d17957a5af0ca970e029e119b77545699fe89ce5a4f9", func := "jetty/jettylaw09.LocksNames", spec := "locksNames", unfollowed := true, recurses := true, plainKeys := false, apart := false, narrowed := true }
def LocksNamesUptoSaid : Prop := locksNamesUptoRow.holds Try.pinned (OpenSpec.upto locksNamesSpec)

/-- 'jettylaw09.LocksGreater', WHERE WHAT IT READS IS OF BULK AT MOST 1048576: true; the input reads as it did. -/
def locksGreaterUptoRow : OpenClaim := { program := "ytileamjmhhifaaa", sum := "a7a9b60a930cdfeae098d17957a5af0ca970e029e119b77545699fe89ce5a4f9", func := "jetty/jettylaw09.LocksGreater", spec := "locksGreater", unfollowed := true, recurses := true, plainKeys := false, apart := false, narrowed := true }
def LocksGreaterUptoSaid : Prop := locksGreaterUptoRow.holds Try.pinned (OpenSpec.upto locksGreaterSpec)

/-- 'jettylaw09.LocksTogether', WHERE WHAT IT READS IS OF BULK AT MOST 1048576: true; the input reads as it did. -/
def locksTogetherUptoRow : OpenClaim := { program := "ytileamjmhhifaaa", sum := "a7a9b60a930cdfeae098d17957a5af0ca970e029e119b77545699fe89ce5a4f9", func := "jetty/jettylaw09.LocksTogether", spec := "locksTogether", unfollowed := true, recurses := true, plainKeys := false, apart := false, narrowed := true }
def LocksTogetherUptoSaid : Prop := locksTogetherUptoRow.holds Try.pinned (OpenSpec.upto locksTogetherSpec)

/-- 'jettylaw09.LocksFair', WHERE WHAT IT READS IS OF BULK AT MOST 1048576: true; the input reads as it did. -/
def locksFairUptoRow : OpenClaim := { program := "ytileamjmhhifaaa", sum := "a7a9b60a930cdfeae098d17957a5af0ca970e029e119b77545699fe89ce5a4f9", func := "jetty/jettylaw09.LocksFair", spec := "locksFair", unfollowed := true, recurses := true, plainKeys := false, apart := false, narrowed := true }
def LocksFairUptoSaid : Prop := locksFairUptoRow.holds Try.pinned (OpenSpec.upto locksFairSpec)

/-- 'jettylaw09.LocksAlone', WHERE WHAT IT READS IS OF BULK AT MOST 1048576: true; the input reads as it did. -/
def locksAloneUptoRow : OpenClaim := { program := "ytileamjmhhifaaa", sum := "a7a9b60a930cdfeae098d17957a5af0ca970e029e119b77545699fe89ce5a4f9", func := "jetty/jettylaw09.LocksAlone", spec := "locksAlone", unfollowed := true, recurses := true, plainKeys := false, apart := false, narrowed := true }
def LocksAloneUptoSaid : Prop := locksAloneUptoRow.holds Try.pinned (OpenSpec.upto locksAloneSpec)

/-- 'jettylaw09.LocksFirst', WHERE WHAT IT READS IS OF BULK AT MOST 1048576: true; the input reads as it did. -/
def locksFirstUptoRow : OpenClaim := { program := "ytileamjmhhifaaa", sum := "a7a9b60a930cdfeae098d17957a5af0ca970e029e119b77545699fe89ce5a4f9", func := "jetty/jettylaw09.LocksFirst", spec := "locksFirst", unfollowed := true, recurses := true, plainKeys := false, apart := false, narrowed := true }
def LocksFirstUptoSaid : Prop := locksFirstUptoRow.holds Try.pinned (OpenSpec.upto locksFirstSpec)

end Rows
end Go.Proofs.Ytileamjmhhifaaa
