/-
  Layer 14 (space): the contracts of Used and Forget.
-/
import Derived.Test.YthehglhbgplfhaaSpace7
import Derived.OwnWalk
import Derived.Deep.AppendLies
namespace Go.Proofs.Ythehglhbgplfhaa
open Go.RowKit Go.Joins
set_option linter.unusedVariables false
set_option linter.unusedSimpArgs false

/-- the pages that belong to somebody, below a number -/
def usedTo (m : Pg) (k : Nat) : List Nat := (List.range k).filter fun j => bitAt m j
def idVals (l : List Nat) : List Value := l.map fun j : Nat => .int .i64 (j : Int)
theorem usedTo_succ (m : Pg) (k : Nat) : usedTo m (k + 1) = if bitAt m k then usedTo m k ++ [k] else usedTo m k := by
  unfold usedTo
  rw [List.range_succ, List.filter_append]
  cases h : bitAt m k <;> simp [h]

theorem usedTo_len (m : Pg) (k : Nat) : (usedTo m k).length ≤ k := by
  unfold usedTo
  exact Nat.le_trans (List.length_filter_le _ _) (by simp)
theorem own_below1 {w w' : World} {base n : Nat} {e : TypeId} {v : Value} {xs : List Value} {s : Nat} (h : w.ownsRow base e s v n xs) (hb : Below w.heap.size w w') : w'.ownsRow base e s v n xs := h.kept (row := none) ⟨hb.os, hb.tape, hb.output, hb.size, fun i hi _ => hb.block i hi⟩ (by cases v.ownBlock <;> simp)
theorem infoInt : (Try.prog.info? 3).map (fun i => (i.zero, i.size, i.bytes)) = some (some (.int .i64 0), 1, 8) := by kernel_rfl

end Go.Proofs.Ythehglhbgplfhaa
