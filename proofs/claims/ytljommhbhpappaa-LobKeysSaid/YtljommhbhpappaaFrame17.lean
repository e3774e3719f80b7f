/-
  Layer 17: how four numbers in a struct read.
-/
import Derived.Test.YtljommhbhpappaaFrameS
namespace Go.Proofs.Ytljommhbhpappaa
open Go.ChangeShapes Go.WideShapes Go.ChangeAt Go.RowKit Go.Deep
set_option linter.unusedVariables false

section
variable {H : Type} {enc : TypeId × Value → H} {w : World} {base : Nat} {spare : Nat → Bool} {held : Bool}
set_option maxRecDepth 100000 in
theorem four_form {n : Nat} {cs : List Value} {x : DataW H × List MemPlace} (h : DataW.trod enc Try.prog w base spare held n 23 cs = some x) :
    ∃ (a b i k : Int), cs = [.int .i64 a, .int .i64 b, .int .i64 i, .int .i64 k] ∧ True := by
  obtain ⟨xs, m, rfl, rfl, hlen, hsz, hall⟩ := DataW.trod_struct Try.underlying23 h
  have hl : cs.length = 4 := hlen.trans (by kernel_rfl)
  have k3 : Try.prog.cellsOf 3 = 1 := by kernel_rfl
  match cs, hl with
  | [c0, c1, c2, c3], _ =>
    obtain ⟨y0, f0, -⟩ := cell_field hall hsz 0 0 3 rfl rfl rfl k3 (c := c0) rfl
    obtain ⟨y1, f1, -⟩ := cell_field hall hsz 1 1 3 rfl rfl rfl k3 (c := c1) rfl
    obtain ⟨y2, f2, -⟩ := cell_field hall hsz 2 2 3 rfl rfl rfl k3 (c := c2) rfl
    obtain ⟨y3, f3, -⟩ := cell_field hall hsz 3 3 3 rfl rfl rfl k3 (c := c3) rfl
    obtain ⟨n0, h0, -, -⟩ := DataW.trod_int Try.underlying3 f0
    obtain ⟨n1, h1, -, -⟩ := DataW.trod_int Try.underlying3 f1
    obtain ⟨n2, h2, -, -⟩ := DataW.trod_int Try.underlying3 f2
    obtain ⟨n3, h3, -, -⟩ := DataW.trod_int Try.underlying3 f3
    simp only [List.cons.injEq, and_true] at h0 h1 h2 h3
    subst h0 h1 h2 h3
    exact ⟨_, _, _, _, rfl, trivial⟩
end
end Go.Proofs.Ytljommhbhpappaa
