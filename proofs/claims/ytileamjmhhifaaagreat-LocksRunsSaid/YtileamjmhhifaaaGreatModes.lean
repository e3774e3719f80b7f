/-
  The contracts of package modes (layer 8): each function returns what its Lean twin computes, and leaves the world alone.
-/
import Derived.Test.YtileamjmhhifaaaGreatChecked
import Derived.WalkKit
import Derived.WalkSpells
import Derived.WalkLawsBesides
import Derived.BigQuiet
import Derived.Deep.QuietTactic
import Derived.Lib.Hide
namespace Go.Proofs.YtileamjmhhifaaaGreat
open Go.RowKit

/-- the rights of a mode -/
def rt (m : Int) : Int :=
  if m = 1 then 1 else if m = 2 then 3 else if m = 3 then 5 else if m = 4 then 7 else if m = 5 then 13 else if m = 6 then 31 else 0

def badB (m : Int) : Bool := decide (m < 0) || decide (6 < m)

set_option maxHeartbeats 400000 in
theorem rights_any (m : Int) (w : World) :
    Calls Tryz.prog 53 #[.int .i64 m] w fun e w' => e = .returned (.int .i64 (rt m)) ∧ w' = w := by
  by_cases h1 : m = 1
  · subst h1; go_enter Tryz.func53, Tryz.ntmps53; go_wp2; go_ret; exact ⟨rfl, rfl⟩
  by_cases h2 : m = 2
  · subst h2; go_enter Tryz.func53, Tryz.ntmps53; go_wp2; go_ret; exact ⟨rfl, rfl⟩
  by_cases h3 : m = 3
  · subst h3; go_enter Tryz.func53, Tryz.ntmps53; go_wp2; go_ret; exact ⟨rfl, rfl⟩
  by_cases h4 : m = 4
  · subst h4; go_enter Tryz.func53, Tryz.ntmps53; go_wp2; go_ret; exact ⟨rfl, rfl⟩
  by_cases h5 : m = 5
  · subst h5; go_enter Tryz.func53, Tryz.ntmps53; go_wp2; go_ret; exact ⟨rfl, rfl⟩
  by_cases h6 : m = 6
  · subst h6; go_enter Tryz.func53, Tryz.ntmps53; go_wp2; go_ret; exact ⟨rfl, rfl⟩
  have e : rt m = 0 := by simp [rt, h1, h2, h3, h4, h5, h6]
  have b1 : (m == 1) = false := by simp [h1]
  have b2 : (m == 2) = false := by simp [h2]
  have b3 : (m == 3) = false := by simp [h3]
  have b4 : (m == 4) = false := by simp [h4]
  have b5 : (m == 5) = false := by simp [h5]
  have b6 : (m == 6) = false := by simp [h6]
  rw [e]; clear e h1 h2 h3 h4 h5 h6
  go_enter Tryz.func53, Tryz.ntmps53; go_wp2; go_ret; exact ⟨rfl, rfl⟩

set_option maxHeartbeats 400000 in
theorem bad_any (m : Int) (w : World) :
    Calls Tryz.prog 52 #[.int .i64 m] w fun e w' => e = .returned (.bool (badB m)) ∧ w' = w := by
  by_cases h1 : m < 0
  · have e : badB m = true := by simp [badB, h1]
    rw [e]
    go_enter Tryz.func52, Tryz.ntmps52; go_wp2; go_ret; exact ⟨rfl, rfl⟩
  by_cases h2 : 6 < m
  · have e : badB m = true := by simp [badB, h2]
    rw [e]
    go_enter Tryz.func52, Tryz.ntmps52; go_wp2; go_ret; exact ⟨rfl, rfl⟩
  · have e : badB m = false := by simp [badB, h1, h2]
    rw [e]
    go_enter Tryz.func52, Tryz.ntmps52; go_wp2; go_ret; exact ⟨rfl, rfl⟩
end Go.Proofs.YtileamjmhhifaaaGreat
