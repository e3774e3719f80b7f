/-
  Layer 14 (space): the walk of SpaceLowest: its parts.
-/
import Derived.Test.YtljommhbhpappaaLand14
import Derived.Test.YtljommhbhpappaaGhosts
namespace Go.Proofs.Ytljommhbhpappaa
open Go.RowKit Go.Joins
set_option linter.unusedVariables false
set_option linter.unusedSimpArgs false

/-- a slice of integers that came in: its elements -/
def RowOk (w : World) (a : Option Addr) (len : Nat) (zs : List Int) : Prop :=
  len ≤ 9223372036854775807 ∧ (len = 0 ∨ ∃ b off, a = some ⟨b, off, none⟩ ∧ b < w.heap.size ∧ ∀ i, i < len → w.cell? ⟨b, off + i, none⟩ = some (.int .i64 (zs.getD i 0)))
theorem rowOk_of {w : World} {a : Option Addr} {len cap : Nat} {zs : List Int} (h : (a = none ∧ len = 0 ∧ cap = 0 ∧ zs = []) ∨
    ∃ x, a = some x ∧ len ≤ cap ∧ cap ≤ maxLen ∧ zs.length = cap ∧ (∀ i, i < zs.length → w.cell? (x.add i) = some (.int .i64 (zs.getD i 0))) ∧ ∀ n ∈ zs, (Lit.int .i64 n).wf = true) : RowOk w a len zs := by
  rcases h with ⟨rfl, rfl, rfl, rfl⟩ | ⟨x, rfl, h1, h2, h3, h4, h5⟩
  · exact ⟨by omega, .inl rfl⟩
  · refine ⟨by simp only [maxLen] at h2; omega, ?_⟩
    by_cases h0 : len = 0
    · exact .inl h0
    · right
      have hc0 := h4 0 (by omega)
      obtain ⟨b, off, spot⟩ := x
      have hspot : spot = none := by simpa [Addr.add] using World.cell?_spot hc0
      subst hspot
      refine ⟨b, off, rfl, World.block_lt_of_cell? w _ (by simpa [Addr.add] using hc0), fun i hi => ?_⟩
      have := h4 i (by omega)
      rwa [Addr.add_lit] at this
theorem RowOk.below {w w' : World} {a : Option Addr} {len : Nat} {zs : List Int} (h : RowOk w a len zs) (hb : Below w.heap.size w w') : RowOk w' a len zs := by
  refine ⟨h.1, ?_⟩
  rcases h.2 with h0 | ⟨b, off, rfl, h1, h2⟩
  · exact .inl h0
  · exact .inr ⟨b, off, rfl, Nat.lt_of_lt_of_le h1 hb.size, fun i hi => (hb.cell (p := ⟨b, off + i, none⟩) h1).trans (h2 i hi)⟩

/-- all below a number are taken -/
theorem bits_take {S : Vol} {d m : Pg} {n i : Nat} (h : VolOk S d m n) (hi : i < n) (hb : ∀ j, j < n → bitAt m j = decide (j < i)) : ∀ j, j < n → bitAt (markPg m i true) j = decide (j < i + 1) := by
  intro j hj
  rw [bitAt_lt h _ _ _ hj hi]
  by_cases e : j = i
  · subst e; simp
  · rw [if_neg e, hb j hj]
    by_cases h2 : j < i
    · have : j < i + 1 := by omega
      simp [h2, this]
    · have : ¬ j < i + 1 := by omega
      simp [h2, this]

/-- pages that were given back: numbers in a map of bools -/
def frMap (G : List Nat) : List (Int × Value) := G.map fun i : Nat => ((i : Int), .bool true)
theorem findI_fr (G : List Nat) (id : Int) (i : Nat) : (findI id (frMap G) i).map (·.2) = if id ∈ G.map (fun j : Nat => (j : Int)) then some (.bool true) else none := by
  induction G generalizing i with
  | nil => rfl
  | cons x r ih =>
    simp only [frMap, List.map_cons, findI, List.mem_cons]
    by_cases h : id = (x : Int)
    · simp [h]
    · rw [if_neg h]
      have := ih (i + 1)
      simp only [frMap] at this
      rw [this]
      simp [h]
theorem zeroBool (w : World) : (zeroValue 4).run Try.prog w = .ok (.bool false) w := by kernel_rfl
theorem updI_fr {G : List Nat} {i : Nat} (h : ¬ i ∈ G) : updI (i : Int) (.bool true) (frMap G) = frMap (G ++ [i]) := by
  unfold frMap
  induction G with
  | nil => rfl
  | cons x r ih =>
    have h1 : ¬ (i : Int) = (x : Int) := fun e => h (by rw [show i = x from by omega]; exact List.mem_cons_self ..)
    have h2 : ¬ i ∈ r := fun e => h (List.mem_cons_of_mem _ e)
    simp only [List.map_cons, updI, h1, if_false, ih h2, List.cons_append]

theorem mem_cast {G : List Nat} {i : Nat} : (i : Int) ∈ G.map (fun j : Nat => (j : Int)) ↔ i ∈ G := by
  rw [List.mem_map]
  exact ⟨fun ⟨x, hx, e⟩ => by rw [show i = x from by omega]; exact hx, fun h => ⟨i, h, rfl⟩⟩
theorem bits_give {S : Vol} {d m : Pg} {n i : Nat} {G : List Nat} (h : VolOk S d m n) (hi : i < n) (hb : ∀ j, j < n → bitAt m j = !decide (j ∈ G)) : ∀ j, j < n → bitAt (markPg m i false) j = !decide (j ∈ G ++ [i]) := by
  intro j hj
  rw [bitAt_lt h _ _ _ hj hi]
  by_cases e : j = i
  · subst e; simp
  · rw [if_neg e, hb j hj]
    simp [e]
theorem bits_again {S : Vol} {d m : Pg} {n i : Nat} {G : List Nat} (h : VolOk S d m n) (hi : i < n) (hb : ∀ j, j < n → bitAt m j = (!decide (j ∈ G) || decide (j < i))) : ∀ j, j < n → bitAt (markPg m i true) j = (!decide (j ∈ G) || decide (j < i + 1)) := by
  intro j hj
  rw [bitAt_lt h _ _ _ hj hi]
  by_cases e : j = i
  · subst e; simp
  · rw [if_neg e, hb j hj]
    by_cases h2 : j < i
    · have : j < i + 1 := by omega
      simp [h2, this]
    · have : ¬ j < i + 1 := by omega
      simp [h2, this]
theorem bits_skip {m : Pg} {n i : Nat} {G : List Nat} (hi : ¬ i ∈ G) (hb : ∀ j, j < n → bitAt m j = (!decide (j ∈ G) || decide (j < i))) : ∀ j, j < n → bitAt m j = (!decide (j ∈ G) || decide (j < i + 1)) := by
  intro j hj
  rw [hb j hj]
  by_cases e : j = i
  · subst e; simp [hi]
  · by_cases h2 : j < i
    · have : j < i + 1 := by omega
      simp [h2, this]
    · have : ¬ j < i + 1 := by omega
      simp [h2, this]
theorem used_all {m : Pg} {n : Nat} (h : ∀ j, j < n → bitAt m j = true) : (usedTo m n).length = n := by
  have e : usedTo m n = List.range n := by
    unfold usedTo
    exact List.filter_eq_self.2 fun x hx => h x (by simpa using hx)
  rw [e]; simp
theorem vol_nil {S : Vol} (h : S.M = []) : (⟨S.base, []⟩ : Vol) = S := by cases S; simp at h; rw [h]
def FreeAt (Q : Nat → Prop) (n b hb fb : Nat) (w wr : World) (S : Vol) (m : Pg) (G : List Nat) : Prop :=
  Below w.heap.size w wr ∧ Lay Q wr wr b hb S ∧ VolOk S { k := 1 } m n ∧ S.Fit 64 ∧ S.M = [] ∧ (∀ t, t < n → bitAt m t = !decide (t ∈ G)) ∧ IntMap wr fb (frMap G) ∧ (∀ x ∈ G, 2 ≤ x ∧ x < n)
def FreeAt2 (Q : Nat → Prop) (n b hb fb : Nat) (w wr : World) (S : Vol) (m : Pg) (G : List Nat) (j : Nat) : Prop :=
  Below w.heap.size w wr ∧ Lay Q wr wr b hb S ∧ VolOk S { k := 1 } m n ∧ S.Fit 64 ∧ (∀ t, t < n → bitAt m t = (!decide (t ∈ G) || decide (t < j))) ∧ IntMap wr fb (frMap G)
def LowS (n : Nat) (S : Vol) (m : Pg) (G : List Nat) : Prop := VolOk S { k := 1 } m n ∧ S.Fit 64 ∧ ∀ j, j < n → bitAt m j = !decide (j ∈ G)

end Go.Proofs.Ytljommhbhpappaa
