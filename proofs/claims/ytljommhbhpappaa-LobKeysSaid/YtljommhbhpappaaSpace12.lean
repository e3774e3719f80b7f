/-
  Layer 14 (space): the contract of Forget.
-/
import Derived.Test.YtljommhbhpappaaSpace11
namespace Go.Proofs.Ytljommhbhpappaa
open Go.RowKit Go.Joins
set_option linter.unusedVariables false
set_option linter.unusedSimpArgs false

/-- what stands at the head of a round of Forget's loop -/
def ForgetAt (st : Int) (b mb hb pb n : Nat) (l : List Nat) (F : Vol × Pg) (B D : Nat) (d : Pg) (v : Value) (w0 : World) (k : Nat) (wr : World) : Prop :=
  k ≤ l.length ∧ ∃ S m, Half S m n (l.drop k) ∧ frees st (l.drop k) S m = F ∧ StageAt wr b mb hb pb S ∧ w0.grownBy wr (some mb) ∧ rowAt wr D = some d.cs ∧ wr.ownsRow B 3 1 v l.length (idVals l)

theorem idVals_get (l : List Nat) (k : Nat) (h : k < l.length) : (idVals l)[k]? = some (.int .i64 (l[k] : Int)) := by
  simp [idVals, h]

theorem cs_setC (p : Pg) (k : Nat) (h : k < 6) (x : Int) (y : ByteArray) : (p.cs.setIfInBounds (4 + k * 2) (.int .i64 x)).setIfInBounds (4 + k * 2 + 1) (.string y) = (p.setC k x y).cs := by
  rw [cs_setA p k h, cs_setD _ k h]; rfl
theorem grown_below' {w w2 W : World} {r : Option Nat} (h : w.grownBy w2 r) (k : Below w.heap.size w2 W) : w.grownBy W r := grown_below h k (Nat.le_refl _)
theorem empty_lit : (ByteArray.empty : ByteArray) = ⟨#[]⟩ := rfl
theorem used_pos {S : Vol} {d m : Pg} {n : Nat} (h : VolOk S d m n) : 0 < (usedTo m n).length :=
  List.length_pos_of_mem ((usedTo_mem m n 0).2 ⟨by have := h.two; omega, h.z0⟩)
theorem ForgetAt.skip {st : Int} {b mb hb pb n : Nat} {l : List Nat} {F : Vol × Pg} {B D : Nat} {d : Pg} {v : Value} {w0 wr : World} {k : Nat} {S : Vol} {m : Pg} (hk : k < l.length) (h1 : Half S m n (l.drop k)) (h2 : frees st (l.drop k) S m = F)
    (hc : ¬ (2 ≤ l[k] ∧ (stPg S l[k]).s = st)) : Half S m n (l.drop (k + 1)) ∧ frees st (l.drop (k + 1)) S m = F := by
  rw [List.drop_eq_getElem_cons hk] at h1 h2
  rw [frees, if_neg hc] at h2
  exact ⟨h1.skip, h2⟩
theorem ForgetAt.give {st : Int} {b mb hb pb n : Nat} {l : List Nat} {F : Vol × Pg} {B D : Nat} {d : Pg} {v : Value} {w0 wr : World} {k : Nat} {S : Vol} {m : Pg} (hk : k < l.length) (h1 : Half S m n (l.drop k)) (h2 : frees st (l.drop k) S m = F)
    (hc : 2 ≤ l[k] ∧ (stPg S l[k]).s = st) : Half (S.put 1 (markPg m l[k] false)) (markPg m l[k] false) n (l.drop (k + 1)) ∧ frees st (l.drop (k + 1)) (S.put 1 (markPg m l[k] false)) (markPg m l[k] false) = F := by
  rw [List.drop_eq_getElem_cons hk] at h1 h2
  rw [frees, if_pos hc] at h2
  exact ⟨h1.give, h2⟩

end Go.Proofs.Ytljommhbhpappaa
