/-
  Layer 14 (space): the contract of Forget.
-/
import Derived.Test.YtljommhbhpappaaSpace9
namespace Go.Proofs.Ytljommhbhpappaa
open Go.RowKit Go.Joins
set_option linter.unusedVariables false
set_option linter.unusedSimpArgs false

/-- a store's pages given back, one after the other -/
def frees (st : Int) : List Nat → Vol → Pg → Vol × Pg
  | [], S, m => (S, m)
  | id :: r, S, m => if 2 ≤ id ∧ (stPg S id).s = st then frees st r (S.put 1 (markPg m id false)) (markPg m id false) else frees st r S m

/-- what a stage bears, half way -/
structure Half (S : Vol) (m : Pg) (n : Nat) (l : List Nat) : Prop where
  map : MapAt S m n
  had : ∀ id, id ∈ l → id < n ∧ bitAt m id = true
  once : l.Nodup
  there : ∀ id : Nat, id < n → stE S id = 0

theorem Half.skip {S : Vol} {m : Pg} {n id : Nat} {l : List Nat} (h : Half S m n (id :: l)) : Half S m n l :=
  ⟨h.map, fun i hi => h.had i (List.mem_cons_of_mem _ hi), (List.nodup_cons.1 h.once).2, h.there⟩
theorem Half.give {S : Vol} {m : Pg} {n id : Nat} {l : List Nat} (h : Half S m n (id :: l)) : Half (S.put 1 (markPg m id false)) (markPg m id false) n l := by
  have hid := (h.had id (List.mem_cons_self ..)).1
  have hn := h.map.hi
  refine ⟨h.map.mark id false (by omega), fun i hi => ?_, (List.nodup_cons.1 h.once).2, fun i hi => ?_⟩
  · have hh := h.had i (List.mem_cons_of_mem _ hi)
    have hne : ¬ i = id := fun e => (List.nodup_cons.1 h.once).1 (e ▸ hi)
    exact ⟨hh.1, by rw [bitAt_mark _ _ _ _ (by omega) (by omega) h.map.sz, if_neg hne]; exact hh.2⟩
  · rw [stE_put]
    split
    · rfl
    · exact h.there i hi
end Go.Proofs.Ytljommhbhpappaa
