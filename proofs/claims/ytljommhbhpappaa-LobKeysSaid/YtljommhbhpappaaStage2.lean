/-
  Layer 13 (stage): the contracts of Stage.Get below, Stage.Set, Memory and New.
-/
import Derived.Test.YtljommhbhpappaaStage1
import Derived.Test.YtljommhbhpappaaCheck
import Derived.Handy
namespace Go.Proofs.Ytljommhbhpappaa
open Go.RowKit Go.Joins
set_option linter.unusedVariables false
set_option linter.unusedSimpArgs false

theorem meth_shelf (u : Value) (w : World) : (method 235 69 u "Get").run Try.prog w = .ok (161, u) w := by kernel_rfl

theorem rowAt_below {B n : Nat} {w w' : World} (h : Below B w w') (hn : n < B) : rowAt w' n = rowAt w n := by unfold rowAt; rw [h.block n hn]
theorem below_setRow {B n : Nat} {w w' : World} (h : Below B w w') (c : Array Value) (hn : B ≤ n) : Below B w (w'.setRow n c) :=
  ⟨h.os, h.tape, h.output, by simpa [World.setRow] using h.size, fun i hi => by
    rw [← h.block i hi]
    have hne : ¬ n = i := by omega
    simp only [World.setRow, Array.getElem?_modify, hne, if_false]⟩

theorem ShelfAt.below {w w' : World} {hb pb B : Nat} {l : List Pg} (h : ShelfAt w hb pb l) (hbel : Below B w w') (h1 : hb < B) (h2 : pb < B) : ShelfAt w' hb pb l :=
  ⟨(hbel.block hb h1).trans h.1, (hbel.block pb h2).trans h.2.1, h.2.2⟩

/-- what a shelf answers -/
def shelfPg (l : List Pg) (id : Int) : Pg := if 0 ≤ id then l.getD id.toNat Pg.zero else Pg.zero
def shelfE (l : List Pg) (id : Int) : Int := if 0 ≤ id ∧ id < l.length then 0 else 1

theorem shelfGet_any (hb pb : Nat) (l : List Pg) (id : Int) (w : World) (hs : ShelfAt w hb pb l) :
    Calls Try.prog 161 #[.pointer (some ⟨hb, 0, none⟩), .int .i64 id] w fun e w' => e = .returned (.tuple #[(shelfPg l id).v, .int .i64 (shelfE l id)]) ∧ Below w.heap.size w w' := by
  by_cases h : 0 ≤ id ∧ id < l.length
  · have e1 : shelfE l id = 0 := if_pos h
    have hi : id.toNat < l.length := by omega
    have e2 : shelfPg l id = l[id.toNat] := by simp [shelfPg, h.1, List.getD, hi]
    have := shelfGet_in hb pb l id.toNat w hs hi
    rw [Int.toNat_of_nonneg h.1] at this
    rw [e1, e2]
    exact this
  · have e1 : shelfE l id = 1 := if_neg h
    have h2 : id < 0 ∨ (l.length : Int) ≤ id := by omega
    have e2 : shelfPg l id = Pg.zero := by
      unfold shelfPg
      split
      · have : l.length ≤ id.toNat := by omega
        simp [List.getD, this]
      · rfl
    rw [e1, e2]
    exact shelfGet_out hb pb l id w hs h2

/-- what a stage answers -/
def stPg (S : Vol) (id : Int) : Pg := match getM S id with | some p => p | none => shelfPg S.base id
def stE (S : Vol) (id : Int) : Int := match getM S id with | some _ => 0 | none => shelfE S.base id

set_option maxHeartbeats 2000000 in
set_option maxRecDepth 100000 in
theorem get_any (S : Vol) (b mb hb pb : Nat) (id : Int) (w : World) (h : StageAt w b mb hb pb S) :
    Calls Try.prog 58 #[.pointer (some ⟨b, 0, none⟩), .int .i64 id] w fun e w' => e = .returned (.tuple #[(stPg S id).v, .int .i64 (stE S id)]) ∧ Below w.heap.size w w' := by
  cases hp : getM S id with
  | some p =>
    have e1 : stPg S id = p := by unfold stPg; rw [hp]
    have e2 : stE S id = 0 := by unfold stE; rw [hp]
    rw [e1, e2]
    exact get_set S b mb hb pb id p w h hp
  | none =>
    have e1 : stPg S id = shelfPg S.base id := by unfold stPg; rw [hp]
    have e2 : stE S id = shelfE S.base id := by unfold stE; rw [hp]
    rw [e1, e2]
    clear e1 e2
    have hl := fun o => lookup_none h hp o
    have hlt := h.lt
    have hc := fun o o' => shelfGet_any hb pb S.base id _ (h.2.2.1.below (((Below.refl w.heap.size w).alloc (Nat.le_refl _) o).alloc (by simp) o') hlt.2.2.1 hlt.2.2.2)
    generalize shelfPg S.base id = p at *
    generalize shelfE S.base id = q at *
    have HC := Lib.hid hc
    clear hc
    obtain ⟨h1, -, -⟩ := h
    have c0 := cell_of_block h1 0
    have c1 := cell_of_block h1 1
    simp only [List.getElem?_toArray, List.getElem?_cons_succ, List.getElem?_cons_zero] at c0 c1
    obtain ⟨l1, l2, l3, l4⟩ := hlt
    have m1 := meth_shelf
    clear h1 hp
    go_enter Try.func58, Try.ntmps58
    go_wp2_with fail
    refine (HC.out _ _).mono ?_; rintro e w1 ⟨rfl, hb1⟩
    have hr1 : rowAt w1 w.heap.size = some Pg.zero.cs := (rowAt_below hb1 (by go_size)).trans (by simp [go_sem])
    have hsz := hb1.size
    have HB := Lib.hid hb1
    simp only [World.size_alloc] at hsz
    clear hb1
    go_wp2
    exact ret_page rfl rfl w.heap.size p rfl (by simp [go_sem, hr1]) ⟨rfl, below_setRow ((((Below.refl _ _).alloc (Nat.le_refl _) _).alloc (by simp) _).trans (HB.out.mono (by go_size))) _ (by simp)⟩
end Go.Proofs.Ytljommhbhpappaa
