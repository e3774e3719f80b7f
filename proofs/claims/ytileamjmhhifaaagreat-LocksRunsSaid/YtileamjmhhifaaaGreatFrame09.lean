/-
  Layer 9: how a name, three modes and a list of calls read.
-/
import Derived.Test.YtileamjmhhifaaaGreatFrameS
import Derived.Laws.IdiomArrays
namespace Go.Proofs.YtileamjmhhifaaaGreat
open Go.ChangeShapes Go.WideShapes Go.ChangeAt Go.RowKit Go.Deep
set_option linter.unusedVariables false

theorem okWide_array {P : Program} {w : World} {r : Reach} {base : Nat} {t e : TypeId} {v : Value} {n : Nat} (ht : P.underlying t = some (.array n e)) (h : Value.okWide P w r base t v) : ∃ cs, v = .agg cs ∧ cs.size = P.cellsOf t := by
  simp only [Value.okWide, ht] at h
  obtain ⟨cs, h1, h2, _⟩ := h
  exact ⟨cs, h1, h2⟩
section
variable {H : Type} {enc : TypeId × Value → H} {w : World} {base : Nat} {spare : Nat → Bool} {held : Bool}
set_option maxRecDepth 100000 in
theorem nm_form {n : Nat} {cs : List Value} {x : DataW H × List MemPlace} (h : DataW.trod enc Tryz.prog w base spare held n 31 cs = some x) :
    ∃ (a : Int) (s : ByteArray), cs = [.int .i64 a, .string s] ∧ True := by
  obtain ⟨xs, m, rfl, rfl, hlen, hsz, hall⟩ := DataW.trod_struct Tryz.underlying31 h
  have hl : cs.length = 2 := hlen.trans (by kernel_rfl)
  have k3 : Tryz.prog.cellsOf 3 = 1 := by kernel_rfl
  have k9 : Tryz.prog.cellsOf 9 = 1 := by kernel_rfl
  match cs, hl with
  | [c0, c1], _ =>
    obtain ⟨y0, f0, -⟩ := cell_field hall hsz 0 0 3 rfl rfl rfl k3 (c := c0) rfl
    obtain ⟨y1, f1, -⟩ := cell_field hall hsz 1 1 9 rfl rfl rfl k9 (c := c1) rfl
    obtain ⟨n0, h0, -, -⟩ := DataW.trod_int Tryz.underlying3 f0
    obtain ⟨s1, h1, -, -⟩ := DataW.trod_string Tryz.underlying9 f1
    simp only [List.cons.injEq, and_true] at h0 h1
    subst h0 h1
    exact ⟨_, _, rfl, trivial⟩
end
end Go.Proofs.YtileamjmhhifaaaGreat
