/-
  How struct arguments read: a field of one cell, a field of many; a slice of integers.
-/
import Derived.Test.YtileamjmhhifaaaGreatFrame
import Derived.Deep.Slices
import Derived.OpenShut
import Derived.Deep.MidRow
namespace Go.Proofs.YtileamjmhhifaaaGreat
open Go.ChangeShapes Go.WideShapes Go.ChangeAt Go.RowKit Go.Deep
set_option linter.unusedVariables false

section
variable {H : Type} {enc : TypeId × Value → H} {w : World} {base : Nat} {spare : Nat → Bool} {held : Bool}

theorem lt_of_wf {n : Int} (h : (Lit.int .i64 n).wf = true) : -9223372036854775808 ≤ n ∧ n ≤ 9223372036854775807 := by
  have := bounds_i64 h; omega

/-- a field of one cell -/
theorem cell_field {n : Nat} {fs : Array Field} {cs : List Value} {xs : List (DataW H × List MemPlace)}
    (hall : ∀ (i : Nat) (f : Field), fs[i]? = some f → DataW.trod enc Tryz.prog w base spare held n f.type ((cs.drop f.offset).take (Tryz.prog.cellsOf f.type)) = xs[i]?) (hsz : xs.length = fs.size)
    (i o : Nat) (t : TypeId) {f : Field} (hf : fs[i]? = some f) (ho : f.offset = o) (ht : f.type = t) (hc : Tryz.prog.cellsOf t = 1) {c : Value} (hcs : cs[o]? = some c) :
    ∃ y, DataW.trod enc Tryz.prog w base spare held n t [c] = some y ∧ xs[i]? = some y := by
  have hi : i < xs.length := by rw [hsz]; exact (Array.getElem?_eq_some_iff.1 hf).1
  obtain ⟨y, hy⟩ : ∃ y, xs[i]? = some y := ⟨_, List.getElem?_eq_getElem hi⟩
  refine ⟨y, ?_, hy⟩
  have := (hall i f hf).trans hy
  rw [ho, ht, hc] at this
  obtain ⟨ho', hcv⟩ := List.getElem?_eq_some_iff.1 hcs
  rw [List.drop_eq_getElem_cons ho', hcv] at this
  exact this

/-- a field of c cells -/
theorem wide_field {n : Nat} {fs : Array Field} {cs : List Value} {xs : List (DataW H × List MemPlace)}
    (hall : ∀ (i : Nat) (f : Field), fs[i]? = some f → DataW.trod enc Tryz.prog w base spare held n f.type ((cs.drop f.offset).take (Tryz.prog.cellsOf f.type)) = xs[i]?) (hsz : xs.length = fs.size)
    (i o c : Nat) (t : TypeId) {f : Field} (hf : fs[i]? = some f) (ho : f.offset = o) (ht : f.type = t) (hc : Tryz.prog.cellsOf t = c) :
    ∃ y, DataW.trod enc Tryz.prog w base spare held n t ((cs.drop o).take c) = some y ∧ xs[i]? = some y := by
  have hi : i < xs.length := by rw [hsz]; exact (Array.getElem?_eq_some_iff.1 hf).1
  obtain ⟨y, hy⟩ : ∃ y, xs[i]? = some y := ⟨_, List.getElem?_eq_getElem hi⟩
  refine ⟨y, ?_, hy⟩
  have := (hall i f hf).trans hy
  rw [ho, ht, hc] at this
  exact this

end
end Go.Proofs.YtileamjmhhifaaaGreat
