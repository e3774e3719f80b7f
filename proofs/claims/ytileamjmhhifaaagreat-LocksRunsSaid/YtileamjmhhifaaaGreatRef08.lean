/-
  The contracts of the reference of layer 8 (jettyref08): tables of modes.
-/
import Derived.Test.YtileamjmhhifaaaGreatModes2
import Derived.RowKit3
namespace Go.Proofs.YtileamjmhhifaaaGreat
open Go.RowKit

set_option maxHeartbeats 400000 in
theorem rmode_any (m : Int) (w : World) :
    Calls Tryz.prog 57 #[.int .i64 m] w fun e w' => e = .returned (.bool (!badB m)) ∧ w' = w := by
  by_cases h1 : m < 0
  · have e : badB m = true := by simp [badB, h1]
    have h0 : decide (0 ≤ m) = false := by simpa using h1
    rw [e]
    go_enter Tryz.func57, Tryz.ntmps57; go_wp2; go_ret; exact ⟨rfl, rfl⟩
  by_cases h2 : 6 < m
  · have e : badB m = true := by simp [badB, h2]
    have h3 : decide (m ≤ 6) = false := by simpa using h2
    rw [e]
    go_enter Tryz.func57, Tryz.ntmps57; go_wp2; go_ret; exact ⟨rfl, rfl⟩
  · have e : badB m = false := by simp [badB, h1, h2]
    rw [e]
    go_enter Tryz.func57, Tryz.ntmps57; go_wp2; go_ret; exact ⟨rfl, rfl⟩

end Go.Proofs.YtileamjmhhifaaaGreat
