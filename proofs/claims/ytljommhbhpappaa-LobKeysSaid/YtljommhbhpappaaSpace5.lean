/-
  Layer 14 (space): the contracts of State and Make.
-/
import Derived.Test.YtljommhbhpappaaSpace4
namespace Go.Proofs.Ytljommhbhpappaa
open Go.RowKit Go.Joins
set_option linter.unusedVariables false
set_option linter.unusedSimpArgs false

def Pg.setA (p : Pg) (k : Nat) (a : Int) : Pg :=
  match k with
  | 0 => { p with a0 := a }
  | 1 => { p with a1 := a }
  | 2 => { p with a2 := a }
  | 3 => { p with a3 := a }
  | 4 => { p with a4 := a }
  | _ => { p with a5 := a }
theorem cs_setA (p : Pg) (k : Nat) (h : k < 6) (x : Int) : p.cs.setIfInBounds (4 + k * 2) (.int .i64 x) = (p.setA k x).cs := by
  have h6 : k = 0 ∨ k = 1 ∨ k = 2 ∨ k = 3 ∨ k = 4 ∨ k = 5 := by omega
  rcases h6 with rfl | rfl | rfl | rfl | rfl | rfl <;> rfl

end Go.Proofs.Ytljommhbhpappaa
