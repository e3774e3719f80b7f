/-
  Layer 15 (heap): the records of a chain, by rising ids (plain law).
-/
import Derived.Test.YthehglhbgplfhaaHeap13
namespace Go.Proofs.Ythehglhbgplfhaa
open Go.RowKit Go.Joins
set_option linter.unusedVariables false
set_option linter.unusedSimpArgs false

/-! the records of a chain, by rising ids -/
theorem recs_snoc (C : List Pg) (k : Nat) (hk : k < C.length) : recs 2 (C.take (k + 1)) = recs 2 (C.take k) ++ pgRecs (2 + k) C[k] := by
  rw [List.take_succ_eq_append_getElem hk, recs_append, List.length_take, Nat.min_eq_left (by omega)]
  simp [recs]
theorem recs_len (b : Nat) (C : List Pg) : (recs b C).length ≤ 6 * C.length := by
  induction C generalizing b with
  | nil => simp [recs]
  | cons p r ih =>
    have h1 := ih (b + 1)
    have h2 := recsTo_len b p 6
    rw [recsTo_six] at h2
    show (pgRecs b p ++ recs (b + 1) r).length ≤ _
    rw [List.length_append, List.length_cons]
    omega
theorem pgRecs_mem {b : Nat} {p : Pg} {x : Int × ByteArray} (h : x ∈ pgRecs b p) : ∃ i, i < 6 ∧ p.a i = 1 ∧ x = (((b * 8 + i : Nat) : Int), p.d i) := by
  obtain ⟨i, hi, e⟩ := List.mem_filterMap.1 h
  have hi6 : i < 6 := by simpa using hi
  by_cases ha : p.a i = 1
  · rw [if_pos ha] at e
    exact ⟨i, hi6, ha, (Option.some.inj e).symm⟩
  · rw [if_neg ha] at e; cases e
theorem recs_mem {b : Nat} {C : List Pg} {x : Int × ByteArray} (h : x ∈ recs b C) : ∃ k, ∃ hk : k < C.length, ∃ i, i < 6 ∧ C[k].a i = 1 ∧ x = ((((b + k) * 8 + i : Nat) : Int), C[k].d i) := by
  induction C generalizing b with
  | nil => cases h
  | cons p r ih =>
    rcases List.mem_append.1 (show x ∈ pgRecs b p ++ recs (b + 1) r from h) with h | h
    · obtain ⟨i, hi, ha, e⟩ := pgRecs_mem h
      exact ⟨0, by simp, i, hi, ha, e⟩
    · obtain ⟨k, hk, i, hi, ha, e⟩ := ih h
      refine ⟨k + 1, by simpa using hk, i, hi, ha, ?_⟩
      rw [e]
      have : b + 1 + k = b + (k + 1) := by omega
      rw [this]; rfl
theorem pgRecs_rise (b : Nat) (p : Pg) : (pgRecs b p).Pairwise (fun x y => x.1 < y.1) := by
  unfold pgRecs
  rw [List.pairwise_filterMap]
  refine List.Pairwise.imp ?_ (List.pairwise_lt_range (n := 6))
  intro i j hij x hx y hy
  by_cases h1 : p.a i = 1
  · by_cases h2 : p.a j = 1
    · rw [if_pos h1] at hx
      rw [if_pos h2] at hy
      cases hx; cases hy
      show ((b * 8 + i : Nat) : Int) < ((b * 8 + j : Nat) : Int)
      omega
    · rw [if_neg h2] at hy; cases hy
  · rw [if_neg h1] at hx; cases hx
theorem recs_rise (b : Nat) (C : List Pg) : (recs b C).Pairwise (fun x y => x.1 < y.1) := by
  induction C generalizing b with
  | nil => exact List.Pairwise.nil
  | cons p r ih =>
    show (pgRecs b p ++ recs (b + 1) r).Pairwise _
    rw [List.pairwise_append]
    refine ⟨pgRecs_rise b p, ih (b + 1), fun x hx y hy => ?_⟩
    obtain ⟨i, hi, -, rfl⟩ := pgRecs_mem hx
    obtain ⟨k, hk, j, hj, -, rfl⟩ := recs_mem hy
    show ((b * 8 + i : Nat) : Int) < (((b + 1 + k) * 8 + j : Nat) : Int)
    omega
theorem recs_small {C : List Pg} (h : 2 + C.length ≤ 1024) : ∀ x ∈ recs 2 C, 0 ≤ x.1 ∧ x.1 < 8192 := by
  intro x hx
  obtain ⟨k, hk, i, hi, -, rfl⟩ := recs_mem hx
  show 0 ≤ (((2 + k) * 8 + i : Nat) : Int) ∧ (((2 + k) * 8 + i : Nat) : Int) < 8192
  omega

theorem prRow_get (I : List (Int × ByteArray)) (j k : Nat) (hj : j < I.length) (hk : k < 3) : (prRow I)[j * 3 + k]? = (prCs I[j]).toList[k]? := by
  induction I generalizing j with
  | nil => simp at hj
  | cons x r ih =>
    have e : prRow (x :: r) = (prCs x).toList ++ prRow r := rfl
    have el : (prCs x).toList.length = 3 := rfl
    cases j with
    | zero =>
      rw [e, List.getElem?_append_left (by rw [el]; omega)]
      simp
    | succ j =>
      rw [e, List.getElem?_append_right (by rw [el]; omega), el, show (j + 1) * 3 + k - 3 = j * 3 + k from by omega]
      exact ih j (by simpa using hj)

/-- a pair out of a row of pairs -/
theorem pr_cells {w : World} {B g n c : Nat} {R : List (Int × ByteArray)} (h : w.ownsRow B 90 3 (.slice (some ⟨g, 0, none⟩) n c) n (prRow R)) (j : Nat) (hj : j < R.length) :
    w.cell? ⟨g, j * 3, none⟩ = some (.string ⟨#[]⟩) ∧ w.cell? ⟨g, j * 3 + 1, none⟩ = some (.int .i64 R[j].1) ∧ w.cell? ⟨g, j * 3 + 2, none⟩ = some (.string R[j].2) := by
  have hl := h.1
  rw [prRow_len] at hl
  refine ⟨?_, ?_, ?_⟩
  · have := (h.cellAt (j * 3 + 0) (by omega)).trans (prRow_get R j 0 hj (by omega))
    exact this
  · exact (h.cellAt (j * 3 + 1) (by omega)).trans (prRow_get R j 1 hj (by omega))
  · exact (h.cellAt (j * 3 + 2) (by omega)).trans (prRow_get R j 2 hj (by omega))
/-- the number before the j-th record's -/
def lastOf (R : List (Int × ByteArray)) : Nat → Int
  | 0 => -1
  | j + 1 => (R.getD j (0, ⟨#[]⟩)).1
theorem lastOf_succ (R : List (Int × ByteArray)) (j : Nat) (hj : j < R.length) : lastOf R (j + 1) = R[j].1 := by
  show (R.getD j _).1 = _
  rw [List.getD_eq_getElem?_getD, List.getElem?_eq_getElem hj]; rfl
theorem lastOf_lt {R : List (Int × ByteArray)} (hs : R.Pairwise (fun x y => x.1 < y.1)) (h0 : ∀ x ∈ R, 0 ≤ x.1) (j : Nat) (hj : j < R.length) : lastOf R j < R[j].1 := by
  cases j with
  | zero =>
    have := h0 _ (List.getElem_mem hj)
    show -1 < _
    omega
  | succ j =>
    rw [lastOf_succ R j (by omega)]
    exact List.pairwise_iff_getElem.1 hs j (j + 1) (by omega) hj (by omega)
end Go.Proofs.Ythehglhbgplfhaa
