/-
  How slices of strings read that came in as arguments (chapter 15).
-/
import Derived.Test.YthehglhbgplfhaaFrame13
import Derived.SliceStrings
namespace Go.Proofs.Ythehglhbgplfhaa
open Go.ChangeShapes Go.WideShapes Go.ChangeAt Go.RowKit Go.Deep
set_option linter.unusedVariables false
set_option linter.unusedSimpArgs false

/-- a slice of strings that came in: its elements -/
def StrsIn (w : World) (a : Option Addr) (len : Nat) (I : List ByteArray) : Prop :=
  len ≤ 9223372036854775807 ∧ I.length = len ∧ (len = 0 ∨ ∃ b off, a = some ⟨b, off, none⟩ ∧ b < w.heap.size ∧ ∀ (i : Nat) (h : i < I.length), w.cell? ⟨b, off + i, none⟩ = some (.string I[i]))
theorem StrsIn.below {w w' : World} {a : Option Addr} {len : Nat} {I : List ByteArray} (h : StrsIn w a len I) (hb : Below w.heap.size w w') : StrsIn w' a len I := by
  refine ⟨h.1, h.2.1, ?_⟩
  rcases h.2.2 with h0 | ⟨b, off, rfl, h1, h2⟩
  · exact .inl h0
  · exact .inr ⟨b, off, rfl, Nat.lt_of_lt_of_le h1 hb.size, fun i hi => (hb.cell (p := ⟨b, off + i, none⟩) h1).trans (h2 i hi)⟩

section
variable {H : Type} {enc : TypeId × Value → H} {w : World} {spare : Nat → Bool} {held : Bool}
set_option maxRecDepth 100000 in
theorem strs_form15 {n : Nat} {c : Value} {x : DataW H × List MemPlace} (h : DataW.trod enc Try.prog w 0 spare held n 22 [c] = some x) :
    ∃ a len cap I, c = .slice a len cap ∧ StrsIn w a len I := by
  rcases open_strings Try.underlying22 Try.underlying9 (by kernel_rfl) h with ⟨hcs, rfl⟩ | ⟨a, len, cap, ss, hcs, hl0, hl, hm, hz, rfl, hcell, hws⟩
  · simp at hcs
    exact ⟨_, _, _, [], hcs, by omega, rfl, .inl rfl⟩
  · simp only [List.cons.injEq, and_true] at hcs
    have hlen : len ≤ ss.length := by rw [hz]; split <;> omega
    have hlt : (ss.take len).length = len := by simp; omega
    refine ⟨some a, len, cap, ss.take len, hcs, by simp only [maxLen] at hm; omega, hlt, ?_⟩
    by_cases h0 : len = 0
    · exact .inl h0
    · right
      have hc0 := hcell 0 (by omega)
      obtain ⟨b, off, spot⟩ := a
      have hspot : spot = none := by simpa [Addr.add] using World.cell?_spot hc0
      subst hspot
      refine ⟨b, off, rfl, World.block_lt_of_cell? w _ (by simpa [Addr.add] using hc0), fun i hi => ?_⟩
      have hi' : i < ss.length := by simp at hi; omega
      have := hcell i hi'
      rw [Addr.add_lit] at this
      rw [this, List.getElem_take, List.getD_eq_getElem?_getD, List.getElem?_eq_getElem hi']
      rfl
end
end Go.Proofs.Ythehglhbgplfhaa
