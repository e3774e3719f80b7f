/-
  No cell of these rows narrows 'for every input' (looked for: loops, veiled, ifaces, maps, wideKeys, modest, calm, conditions, laid).
  DERIVED. THE GIVEN ROWS OF THIS SEAT. 11 by the template 'for every input the law returns true; each argument reads behind the call as it read before'; 0 by the template 'total and deterministic' (their statements: YtljommhbhpappaaTotals.lean).
  GIVEN WITH THE SEED: the statements are not yours to turn. If you find one false, say at which input.
  Laid BY PROGRAM, IN A SANDBOX (cutbox-rows.mjs): the forced cells as the released guide's own fill.sh prints them over the translation d7cf974b64d261db… (all of the seat's roots in one cut). By AI agents, Wed Nov 11 2026. No macro, syntax, notation, axiom, sorry.
-/
import Derived.Test.YtljommhbhpappaaChecked
import GoSem.Claim
import GoSem.ClaimJoined
import GoSem.ClaimMapViews
import Derived.JoinedTies
import Derived.KernelRfl
namespace Go.Proofs.Ytljommhbhpappaa
/- THE CELL 'sum', in the pinned program and in every row, IS THE sha256 OF THE DUMP (.gsa) THAT YtljommhbhpappaaProg.lean LOADS. Nothing in Lean hashes anything: it is a label: what it is worth is what the hold of that sum in a sandbox is worth. -/
noncomputable def Try.pinned : Pinned := { name := "ytljommhbhpappaa", sum := "d7cf974b64d261db1c99aaa509ba5c125be93326187bd0ab6ee1665337f6509d", checked := Try.checked }
namespace Rows
def none {H : Type} : Left H := { results := [], args := [] }

/-- 'jettylaw17.LobKeys': WHATEVER THE INPUT: true; the input reads as it did. -/
def lobKeysSpec : ChangeSpec := { name := "lobKeys", fn := fun _ => fun
  | [d] => { results := [.lit (.bool true)], args := [d] }
  | _ => none }
def lobKeysRow : OpenClaim := { program := "ytljommhbhpappaa", sum := "d7cf974b64d261db1c99aaa509ba5c125be93326187bd0ab6ee1665337f6509d", func := "jetty/jettylaw17.LobKeys", spec := "lobKeys", inPlace := ["internal/bytealg.abigen_runtime_cmpstring"], unfollowed := true, recurses := true, apart := false }
def LobKeysSaid : Prop := lobKeysRow.holds Try.pinned (OpenSpec.ofChange lobKeysSpec)

/-- ITS FALSE NEIGHBOUR: 'it returns false'. Refute it at one input. -/
def lobKeysWrong : ChangeSpec := { name := "lobKeys", fn := fun _ => fun
  | [d] => { results := [.lit (.bool false)], args := [d] }
  | _ => none }
def LobKeysWrongFalsely : Prop := lobKeysRow.holds Try.pinned (OpenSpec.ofChange lobKeysWrong)

/-- 'jettylaw17.LobPieces': WHATEVER THE INPUT: true; the input reads as it did. -/
def lobPiecesSpec : ChangeSpec := { name := "lobPieces", fn := fun _ => fun
  | [d1, d2] => { results := [.lit (.bool true)], args := [d1, d2] }
  | _ => none }
def lobPiecesRow : OpenClaim := { program := "ytljommhbhpappaa", sum := "d7cf974b64d261db1c99aaa509ba5c125be93326187bd0ab6ee1665337f6509d", func := "jetty/jettylaw17.LobPieces", spec := "lobPieces", inPlace := ["internal/bytealg.abigen_runtime_cmpstring"], unfollowed := true, recurses := true, apart := false }
def LobPiecesSaid : Prop := lobPiecesRow.holds Try.pinned (OpenSpec.ofChange lobPiecesSpec)

/-- ITS FALSE NEIGHBOUR: 'it returns false'. Refute it at one input. -/
def lobPiecesWrong : ChangeSpec := { name := "lobPieces", fn := fun _ => fun
  | [d1, d2] => { results := [.lit (.bool false)], args := [d1, d2] }
  | _ => none }
def LobPiecesWrongFalsely : Prop := lobPiecesRow.holds Try.pinned (OpenSpec.ofChange lobPiecesWrong)

/-- 'jettylaw17.LobSteps': WHATEVER THE INPUT: true; the input reads as it did. -/
def lobStepsSpec : ChangeSpec := { name := "lobSteps", fn := fun _ => fun
  | [d1, d2] => { results := [.lit (.bool true)], args := [d1, d2] }
  | _ => none }
def lobStepsRow : OpenClaim := { program := "ytljommhbhpappaa", sum := "d7cf974b64d261db1c99aaa509ba5c125be93326187bd0ab6ee1665337f6509d", func := "jetty/jettylaw17.LobSteps", spec := "lobSteps", inPlace := ["internal/bytealg.abigen_runtime_cmpstring"], unfollowed := true, recurses := true, apart := false }
def LobStepsSaid : Prop := lobStepsRow.holds Try.pinned (OpenSpec.ofChange lobStepsSpec)

/-- ITS FALSE NEIGHBOUR: 'it returns false'. Refute it at one input. -/
def lobStepsWrong : ChangeSpec := { name := "lobSteps", fn := fun _ => fun
  | [d1, d2] => { results := [.lit (.bool false)], args := [d1, d2] }
  | _ => none }
def LobStepsWrongFalsely : Prop := lobStepsRow.holds Try.pinned (OpenSpec.ofChange lobStepsWrong)

/-- 'jettylaw17.LobApart': WHATEVER THE INPUT: true; the input reads as it did. -/
def lobApartSpec : ChangeSpec := { name := "lobApart", fn := fun _ => fun
  | [d1, d2] => { results := [.lit (.bool true)], args := [d1, d2] }
  | _ => none }
def lobApartRow : OpenClaim := { program := "ytljommhbhpappaa", sum := "d7cf974b64d261db1c99aaa509ba5c125be93326187bd0ab6ee1665337f6509d", func := "jetty/jettylaw17.LobApart", spec := "lobApart", inPlace := ["internal/bytealg.abigen_runtime_cmpstring"], unfollowed := true, recurses := true, apart := false }
def LobApartSaid : Prop := lobApartRow.holds Try.pinned (OpenSpec.ofChange lobApartSpec)

/-- ITS FALSE NEIGHBOUR: 'it returns false'. Refute it at one input. -/
def lobApartWrong : ChangeSpec := { name := "lobApart", fn := fun _ => fun
  | [d1, d2] => { results := [.lit (.bool false)], args := [d1, d2] }
  | _ => none }
def LobApartWrongFalsely : Prop := lobApartRow.holds Try.pinned (OpenSpec.ofChange lobApartWrong)

/-- 'jettylaw17.LobRuns': WHATEVER THE INPUT: true; the input reads as it did. -/
def lobRunsSpec : ChangeSpec := { name := "lobRuns", fn := fun _ => fun
  | [d] => { results := [.lit (.bool true)], args := [d] }
  | _ => none }
def lobRunsRow : OpenClaim := { program := "ytljommhbhpappaa", sum := "d7cf974b64d261db1c99aaa509ba5c125be93326187bd0ab6ee1665337f6509d", func := "jetty/jettylaw17.LobRuns", spec := "lobRuns", inPlace := ["internal/bytealg.abigen_runtime_cmpstring"], unfollowed := true, recurses := true, apart := false }
def LobRunsSaid : Prop := lobRunsRow.holds Try.pinned (OpenSpec.ofChange lobRunsSpec)

/-- ITS FALSE NEIGHBOUR: 'it returns false'. Refute it at one input. -/
def lobRunsWrong : ChangeSpec := { name := "lobRuns", fn := fun _ => fun
  | [d] => { results := [.lit (.bool false)], args := [d] }
  | _ => none }
def LobRunsWrongFalsely : Prop := lobRunsRow.holds Try.pinned (OpenSpec.ofChange lobRunsWrong)

/-- 'jettylaw22.AuditNew': WHATEVER THE INPUT: true; the input reads as it did. -/
def auditNewSpec : ChangeSpec := { name := "auditNew", fn := fun _ => fun
  | [d1, d2] => { results := [.lit (.bool true)], args := [d1, d2] }
  | _ => none }
def auditNewRow : OpenClaim := { program := "ytljommhbhpappaa", sum := "d7cf974b64d261db1c99aaa509ba5c125be93326187bd0ab6ee1665337f6509d", func := "jetty/jettylaw22.AuditNew", spec := "auditNew", inPlace := ["internal/bytealg.abigen_runtime_cmpstring"], unfollowed := true, recurses := true, apart := false }
def AuditNewSaid : Prop := auditNewRow.holds Try.pinned (OpenSpec.ofChange auditNewSpec)

/-- ITS FALSE NEIGHBOUR: 'it returns false'. Refute it at one input. -/
def auditNewWrong : ChangeSpec := { name := "auditNew", fn := fun _ => fun
  | [d1, d2] => { results := [.lit (.bool false)], args := [d1, d2] }
  | _ => none }
def AuditNewWrongFalsely : Prop := auditNewRow.holds Try.pinned (OpenSpec.ofChange auditNewWrong)

/-- 'jettylaw16.TreeKept': WHATEVER THE INPUT: true; the input reads as it did. -/
def treeKeptSpec : ChangeSpec := { name := "treeKept", fn := fun _ => fun
  | [d1, d2] => { results := [.lit (.bool true)], args := [d1, d2] }
  | _ => none }
def treeKeptRow : OpenClaim := { program := "ytljommhbhpappaa", sum := "d7cf974b64d261db1c99aaa509ba5c125be93326187bd0ab6ee1665337f6509d", func := "jetty/jettylaw16.TreeKept", spec := "treeKept", inPlace := ["internal/bytealg.abigen_runtime_cmpstring"], unfollowed := true, recurses := true, apart := false }
def TreeKeptSaid : Prop := treeKeptRow.holds Try.pinned (OpenSpec.ofChange treeKeptSpec)

/-- ITS FALSE NEIGHBOUR: 'it returns false'. Refute it at one input. -/
def treeKeptWrong : ChangeSpec := { name := "treeKept", fn := fun _ => fun
  | [d1, d2] => { results := [.lit (.bool false)], args := [d1, d2] }
  | _ => none }
def TreeKeptWrongFalsely : Prop := treeKeptRow.holds Try.pinned (OpenSpec.ofChange treeKeptWrong)

/-- 'jettylaw16.TreeOrder': WHATEVER THE INPUT: true; the input reads as it did. -/
def treeOrderSpec : ChangeSpec := { name := "treeOrder", fn := fun _ => fun
  | [d1, d2] => { results := [.lit (.bool true)], args := [d1, d2] }
  | _ => none }
def treeOrderRow : OpenClaim := { program := "ytljommhbhpappaa", sum := "d7cf974b64d261db1c99aaa509ba5c125be93326187bd0ab6ee1665337f6509d", func := "jetty/jettylaw16.TreeOrder", spec := "treeOrder", inPlace := ["internal/bytealg.abigen_runtime_cmpstring"], unfollowed := true, recurses := true, apart := false }
def TreeOrderSaid : Prop := treeOrderRow.holds Try.pinned (OpenSpec.ofChange treeOrderSpec)

/-- ITS FALSE NEIGHBOUR: 'it returns false'. Refute it at one input. -/
def treeOrderWrong : ChangeSpec := { name := "treeOrder", fn := fun _ => fun
  | [d1, d2] => { results := [.lit (.bool false)], args := [d1, d2] }
  | _ => none }
def TreeOrderWrongFalsely : Prop := treeOrderRow.holds Try.pinned (OpenSpec.ofChange treeOrderWrong)

/-- 'jettylaw16.TreeBack': WHATEVER THE INPUT: true; the input reads as it did. -/
def treeBackSpec : ChangeSpec := { name := "treeBack", fn := fun _ => fun
  | [d1, d2] => { results := [.lit (.bool true)], args := [d1, d2] }
  | _ => none }
def treeBackRow : OpenClaim := { program := "ytljommhbhpappaa", sum := "d7cf974b64d261db1c99aaa509ba5c125be93326187bd0ab6ee1665337f6509d", func := "jetty/jettylaw16.TreeBack", spec := "treeBack", inPlace := ["internal/bytealg.abigen_runtime_cmpstring"], unfollowed := true, recurses := true, apart := false }
def TreeBackSaid : Prop := treeBackRow.holds Try.pinned (OpenSpec.ofChange treeBackSpec)

/-- ITS FALSE NEIGHBOUR: 'it returns false'. Refute it at one input. -/
def treeBackWrong : ChangeSpec := { name := "treeBack", fn := fun _ => fun
  | [d1, d2] => { results := [.lit (.bool false)], args := [d1, d2] }
  | _ => none }
def TreeBackWrongFalsely : Prop := treeBackRow.holds Try.pinned (OpenSpec.ofChange treeBackWrong)

/-- 'jettylaw16.TreeParts': WHATEVER THE INPUT: true; the input reads as it did. -/
def treePartsSpec : ChangeSpec := { name := "treeParts", fn := fun _ => fun
  | [d1, d2] => { results := [.lit (.bool true)], args := [d1, d2] }
  | _ => none }
def treePartsRow : OpenClaim := { program := "ytljommhbhpappaa", sum := "d7cf974b64d261db1c99aaa509ba5c125be93326187bd0ab6ee1665337f6509d", func := "jetty/jettylaw16.TreeParts", spec := "treeParts", inPlace := ["internal/bytealg.abigen_runtime_cmpstring"], unfollowed := true, recurses := true, apart := false }
def TreePartsSaid : Prop := treePartsRow.holds Try.pinned (OpenSpec.ofChange treePartsSpec)

/-- ITS FALSE NEIGHBOUR: 'it returns false'. Refute it at one input. -/
def treePartsWrong : ChangeSpec := { name := "treeParts", fn := fun _ => fun
  | [d1, d2] => { results := [.lit (.bool false)], args := [d1, d2] }
  | _ => none }
def TreePartsWrongFalsely : Prop := treePartsRow.holds Try.pinned (OpenSpec.ofChange treePartsWrong)

/-- 'jettylaw22.AuditOrder': WHATEVER THE INPUT: true; the input reads as it did. -/
def auditOrderSpec : ChangeSpec := { name := "auditOrder", fn := fun _ => fun
  | [d1, d2, d3] => { results := [.lit (.bool true)], args := [d1, d2, d3] }
  | _ => none }
def auditOrderRow : OpenClaim := { program := "ytljommhbhpappaa", sum := "d7cf974b64d261db1c99aaa509ba5c125be93326187bd0ab6ee1665337f6509d", func := "jetty/jettylaw22.AuditOrder", spec := "auditOrder", inPlace := ["internal/bytealg.abigen_runtime_cmpstring"], unfollowed := true, recurses := true, apart := false }
def AuditOrderSaid : Prop := auditOrderRow.holds Try.pinned (OpenSpec.ofChange auditOrderSpec)

/-- ITS FALSE NEIGHBOUR: 'it returns false'. Refute it at one input. -/
def auditOrderWrong : ChangeSpec := { name := "auditOrder", fn := fun _ => fun
  | [d1, d2, d3] => { results := [.lit (.bool false)], args := [d1, d2, d3] }
  | _ => none }
def AuditOrderWrongFalsely : Prop := auditOrderRow.holds Try.pinned (OpenSpec.ofChange auditOrderWrong)

/- THE SECOND FORM. 'bulk': how many values and letters a reading holds, each counted each time it is reached (what is shared counts as often as it is met; a slice's spare places count too). A statement '..UptoSaid' is the law's where the arguments, and the package variables that the reading takes, are together of bulk at most 1048576: NARROWER than '..Said'. Prove '..Said' where nothing that the law and all that it calls make is longer than what came in: it says more and counts as full. Else prove '..UptoSaid'. A law counts once. -/
mutual
def uptoBulk {H : Type} : DataW H → Nat
  | .lit (.string bytes) => bytes.length + 1
  | .lit _ => 1
  | .nil => 1
  | .ptr d => uptoBulk d + 1
  | .slice elems spare => uptoBulkAll elems + uptoBulkAll spare + 1
  | .agg parts => uptoBulkAll parts + 1
  | .iface _ d => uptoBulk d + 1
  | .map entries => uptoBulkEntries entries + 1
  | .held _ => 1
def uptoBulkAll {H : Type} : List (DataW H) → Nat
  | [] => 0
  | d :: r => uptoBulk d + uptoBulkAll r
def uptoBulkEntries {H : Type} : List (Lit × DataW H) → Nat
  | [] => 0
  | x :: r => uptoBulkEntry x + uptoBulkEntries r
def uptoBulkEntry {H : Type} : Lit × DataW H → Nat
  | (.string bytes, d) => bytes.length + uptoBulk d + 1
  | (_, d) => uptoBulk d + 1
 end
def uptoSmall : (H : Type) → List (DataW H) → Bool := fun _ ds => decide (uptoBulkAll ds ≤ 1048576)
def OpenSpec.upto (s : _root_.Go.ChangeSpec) : _root_.Go.OpenSpec := { _root_.Go.OpenSpec.ofChange s with cond := some uptoSmall }

/-- 'jettylaw17.LobKeys', WHERE WHAT IT READS IS OF BULK AT MOST 1048576: true; the input reads as it did. -/
def lobKeysUptoRow : OpenClaim := { program := "ytljommhbhpappaa", sum := "d7cf974b64d261db1c99aaa509ba5c125be93326187bd0ab6ee1665337f6509d", func := "jetty/jettylaw17.LobKeys", spec := "lobKeys", inPlace := ["internal/bytealg.abigen_runtime_cmpstring"], unfollowed := true, recurses := true, apart := false, narrowed := true }
def LobKeysUptoSaid : Prop := lobKeysUptoRow.holds Try.pinned (OpenSpec.upto lobKeysSpec)

/-- 'jettylaw17.LobPieces', WHERE WHAT IT READS IS OF BULK AT MOST 1048576: true; the input reads as it did. -/
def lobPiecesUptoRow : OpenClaim := { program := "ytljommhbhpappaa", sum := "d7cf974b64d261db1c99aaa509ba5c125be93326187bd0ab6ee1665337f6509d", func := "jetty/jettylaw17.LobPieces", spec := "lobPieces", inPlace := ["internal/bytealg.abigen_runtime_cmpstring"], unfollowed := true, recurses := true, apart := false, narrowed := true }
def LobPiecesUptoSaid : Prop := lobPiecesUptoRow.holds Try.pinned (OpenSpec.upto lobPiecesSpec)

/-- 'jettylaw17.LobSteps', WHERE WHAT IT READS IS OF BULK AT MOST 1048576: true; the input reads as it did. -/
def lobStepsUptoRow : OpenClaim := { program := "ytljommhbhpappaa", sum := "d7cf974b64d261db1c99aaa509ba5c125be93326187bd0ab6ee1665337f6509d", func := "jetty/jettylaw17.LobSteps", spec := "lobSteps", inPlace := ["internal/bytealg.abigen_runtime_cmpstring"], unfollowed := true, recurses := true, apart := false, narrowed := true }
def LobStepsUptoSaid : Prop := lobStepsUptoRow.holds Try.pinned (OpenSpec.upto lobStepsSpec)

/-- 'jettylaw17.LobApart', WHERE WHAT IT READS IS OF BULK AT MOST 1048576: true; the input reads as it did. -/
def lobApartUptoRow : OpenClaim := { program := "ytljommhbhpappaa", sum := "d7cf974b64d261db1c99aaa509ba5c125be93326187bd0ab6ee1665337f6509d", func := "jetty/jettylaw17.LobApart", spec := "lobApart", inPlace := ["internal/bytealg.abigen_runtime_cmpstring"], unfollowed := true, recurses := true, apart := false, narrowed := true }
def LobApartUptoSaid : Prop := lobApartUptoRow.holds Try.pinned (OpenSpec.upto lobApartSpec)

/-- 'jettylaw17.LobRuns', WHERE WHAT IT READS IS OF BULK AT MOST 1048576: true; the input reads as it did. -/
def lobRunsUptoRow : OpenClaim := { program := "ytljommhbhpappaa", sum := "d7cf974b64d261db1c99aaa509ba5c125be93326187bd0ab6ee1665337f6509d", func := "jetty/jettylaw17.LobRuns", spec := "lobRuns", inPlace := ["internal/bytealg.abigen_runtime_cmpstring"], unfollowed := true, recurses := true, apart := false, narrowed := true }
def LobRunsUptoSaid : Prop := lobRunsUptoRow.holds Try.pinned (OpenSpec.upto lobRunsSpec)

/-- 'jettylaw22.AuditNew', WHERE WHAT IT READS IS OF BULK AT MOST 1048576: true; the input reads as it did. -/
def auditNewUptoRow : OpenClaim := { program := "ytljommhbhpappaa", sum := "d7cf974b64d261db1c99aaa509ba5c125be93326187bd0ab6ee1665337f6509d", func := "jetty/jettylaw22.AuditNew", spec := "auditNew", inPlace := ["internal/bytealg.abigen_runtime_cmpstring"], unfollowed := true, recurses := true, apart := false, narrowed := true }
def AuditNewUptoSaid : Prop := auditNewUptoRow.holds Try.pinned (OpenSpec.upto auditNewSpec)

/-- 'jettylaw16.TreeKept', WHERE WHAT IT READS IS OF BULK AT MOST 1048576: true; the input reads as it did. -/
def treeKeptUptoRow : OpenClaim := { program := "ytljommhbhpappaa", sum := "d7cf974b64d261db1c99aaa509ba5c125be93326187bd0ab6ee1665337f6509d", func := "jetty/jettylaw16.TreeKept", spec := "treeKept", inPlace := ["internal/bytealg.abigen_runtime_cmpstring"], unfollowed := true, recurses := true, apart := false, narrowed := true }
def TreeKeptUptoSaid : Prop := treeKeptUptoRow.holds Try.pinned (OpenSpec.upto treeKeptSpec)

/-- 'jettylaw16.TreeOrder', WHERE WHAT IT READS IS OF BULK AT MOST 1048576: true; the input reads as it did. -/
def treeOrderUptoRow : OpenClaim := { program := "ytljommhbhpappaa", sum := "d7cf974b64d261db1c99aaa509ba5c125be93326187bd0ab6ee1665337f6509d", func := "jetty/jettylaw16.TreeOrder", spec := "treeOrder", inPlace := ["internal/bytealg.abigen_runtime_cmpstring"], unfollowed := true, recurses := true, apart := false, narrowed := true }
def TreeOrderUptoSaid : Prop := treeOrderUptoRow.holds Try.pinned (OpenSpec.upto treeOrderSpec)

/-- 'jettylaw16.TreeBack', WHERE WHAT IT READS IS OF BULK AT MOST 1048576: true; the input reads as it did. -/
def treeBackUptoRow : OpenClaim := { program := "ytljommhbhpappaa", sum := "d7cf974b64d261db1c99aaa509ba5c125be93326187bd0ab6ee1665337f6509d", func := "jetty/jettylaw16.TreeBack", spec := "treeBack", inPlace := ["internal/bytealg.abigen_runtime_cmpstring"], unfollowed := true, recurses := true, apart := false, narrowed := true }
def TreeBackUptoSaid : Prop := treeBackUptoRow.holds Try.pinned (OpenSpec.upto treeBackSpec)

/-- 'jettylaw16.TreeParts', WHERE WHAT IT READS IS OF BULK AT MOST 1048576: true; the input reads as it did. -/
def treePartsUptoRow : OpenClaim := { program := "ytljommhbhpappaa", sum := "d7cf974b64d261db1c99aaa509ba5c125be93326187bd0ab6ee1665337f6509d", func := "jetty/jettylaw16.TreeParts", spec := "treeParts", inPlace := ["internal/bytealg.abigen_runtime_cmpstring"], unfollowed := true, recurses := true, apart := false, narrowed := true }
def TreePartsUptoSaid : Prop := treePartsUptoRow.holds Try.pinned (OpenSpec.upto treePartsSpec)

/-- 'jettylaw22.AuditOrder', WHERE WHAT IT READS IS OF BULK AT MOST 1048576: true; the input reads as it did. -/
def auditOrderUptoRow : OpenClaim := { program := "ytljommhbhpappaa", sum := "d7cf974b64d261db1c99aaa509ba5c125be93326187bd0ab6ee1665337f6509d", func := "jetty/jettylaw22.AuditOrder", spec := "auditOrder", inPlace := ["internal/bytealg.abigen_runtime_cmpstring"], unfollowed := true, recurses := true, apart := false, narrowed := true }
def AuditOrderUptoSaid : Prop := auditOrderUptoRow.holds Try.pinned (OpenSpec.upto auditOrderSpec)

end Rows
end Go.Proofs.Ytljommhbhpappaa
