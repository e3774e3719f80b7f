/-
  How slices of strings and of integers read that came in as arguments.
-/
import Derived.Test.YtljommhbhpappaaFrameS
import Derived.SliceStrings
import Derived.ChangeSlices
namespace Go.Proofs.Ytljommhbhpappaa
open Go.ChangeShapes Go.WideShapes Go.ChangeAt Go.RowKit Go.Deep
set_option linter.unusedVariables false
set_option linter.unusedSimpArgs false

/-- a slice of strings that came in: its elements -/
def StrsIn (w : World) (a : Option Addr) (len : Nat) (I : List ByteArray) : Prop :=
  len ≤ 9223372036854775807 ∧ I.length = len ∧ (len = 0 ∨ ∃ b off, a = some ⟨b, off, none⟩ ∧ b < w.heap.size ∧ ∀ (i : Nat) (h : i < I.length), w.cell? ⟨b, off + i, none⟩ = some (.string I[i]))
theorem StrsIn.below {w w' : World} {a : Option Addr} {len : Nat} {I : List ByteArray} (h : StrsIn w a len I) (hb : Below w.heap.size w w') : StrsIn w' a len I := by
  refine ⟨h.1, h.2.1, ?_⟩
  rcases h.2.2 with h0 | ⟨b, off, rfl, h1, h2⟩
  · exact .inl h0
  · exact .inr ⟨b, off, rfl, Nat.lt_of_lt_of_le h1 hb.size, fun i hi => (hb.cell (p := ⟨b, off + i, none⟩) h1).trans (h2 i hi)⟩

section
variable {H : Type} {enc : TypeId × Value → H} {w : World} {spare : Nat → Bool} {held : Bool}
set_option maxRecDepth 100000 in
theorem strs_form15 {n : Nat} {c : Value} {x : DataW H × List MemPlace} (h : DataW.trod enc Try.prog w 0 spare held n 27 [c] = some x) :
    ∃ a len cap I, c = .slice a len cap ∧ StrsIn w a len I := by
  rcases open_strings Try.underlying27 Try.underlying9 (by kernel_rfl) h with ⟨hcs, rfl⟩ | ⟨a, len, cap, ss, hcs, hl0, hl, hm, hz, rfl, hcell, hws⟩
  · simp at hcs
    exact ⟨_, _, _, [], hcs, by omega, rfl, .inl rfl⟩
  · simp only [List.cons.injEq, and_true] at hcs
    have hlen : len ≤ ss.length := by rw [hz]; split <;> omega
    have hlt : (ss.take len).length = len := by simp; omega
    refine ⟨some a, len, cap, ss.take len, hcs, by simp only [maxLen] at hm; omega, hlt, ?_⟩
    by_cases h0 : len = 0
    · exact .inl h0
    · right
      have hc0 := hcell 0 (by omega)
      obtain ⟨b, off, spot⟩ := a
      have hspot : spot = none := by simpa [Addr.add] using World.cell?_spot hc0
      subst hspot
      refine ⟨b, off, rfl, World.block_lt_of_cell? w _ (by simpa [Addr.add] using hc0), fun i hi => ?_⟩
      have hi' : i < ss.length := by simp at hi; omega
      have := hcell i hi'
      rw [Addr.add_lit] at this
      rw [this, List.getElem_take, List.getD_eq_getElem?_getD, List.getElem?_eq_getElem hi']
      rfl
end

/-- integers that stand in memory -/
def RowOk (w : World) (a : Option Addr) (len : Nat) (zs : List Int) : Prop :=
  len ≤ 9223372036854775807 ∧ (len = 0 ∨ ∃ b off, a = some ⟨b, off, none⟩ ∧ b < w.heap.size ∧ ∀ i, i < len → w.cell? ⟨b, off + i, none⟩ = some (.int .i64 (zs.getD i 0)))
theorem RowOk.below {w w' : World} {a : Option Addr} {len : Nat} {zs : List Int} (h : RowOk w a len zs) (hb : Below w.heap.size w w') : RowOk w' a len zs := by
  refine ⟨h.1, ?_⟩
  rcases h.2 with h0 | ⟨b, off, rfl, h1, h2⟩
  · exact .inl h0
  · exact .inr ⟨b, off, rfl, Nat.lt_of_lt_of_le h1 hb.size, fun i hi => (hb.cell (p := ⟨b, off + i, none⟩) h1).trans (h2 i hi)⟩

section
open Go.ChangeShapes Go.WideShapes Go.ChangeAt Go.Deep
variable {H : Type} {enc : TypeId × Value → H} {w : World} {base : Nat} {spare : Nat → Bool} {held : Bool}
/-- a slice of integers that came in -/
theorem ints_form15 {n : Nat} {c : Value} {x : DataW H × List MemPlace} (h : DataW.trod enc Try.prog w base spare held n 28 [c] = some x) :
    ∃ a len cap zs, c = .slice a len cap ∧ RowOk w a len zs := by
  have k3 : Try.prog.cellsOf 3 = 1 := by kernel_rfl
  rcases open_ints Try.underlying28 Try.underlying3 k3 h with ⟨hcs, -⟩ | ⟨a, len, cap, zs, hcs, hb, hlc, hm, hzl, -, hcell, hwf⟩
  · simp only [List.cons.injEq, and_true] at hcs
    exact ⟨_, _, _, [], hcs, by omega, .inl rfl⟩
  · simp only [List.cons.injEq, and_true] at hcs
    refine ⟨_, _, _, zs, hcs, by simp only [maxLen] at hm; omega, ?_⟩
    by_cases hl0 : len = 0
    · exact .inl hl0
    · have hlz : len ≤ zs.length := by rw [hzl]; split <;> omega
      have hc0 := hcell 0 (by omega)
      obtain ⟨b, off, spot⟩ := a
      have hspot : spot = none := by simpa [Addr.add] using World.cell?_spot hc0
      subst hspot
      refine .inr ⟨b, off, rfl, World.block_lt_of_cell? w _ (by simpa [Addr.add] using hc0), fun i hi => ?_⟩
      have := hcell i (by omega)
      rwa [Addr.add_lit] at this
end
end Go.Proofs.Ytljommhbhpappaa
