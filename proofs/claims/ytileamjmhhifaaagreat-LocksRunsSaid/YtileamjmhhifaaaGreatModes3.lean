/-
  The contract of modes.Compatible (layer 8).
-/
import Derived.Test.YtileamjmhhifaaaGreatModes2
namespace Go.Proofs.YtileamjmhhifaaaGreat
open Go.RowKit

set_option maxHeartbeats 4000000 in
theorem compat_any (a b : Int) (w : World) :
    Calls Tryz.prog 54 #[.int .i64 a, .int .i64 b] w fun e w' => e = .returned (.bool (compatL a b)) ∧ w' = w := by
  by_cases ha : badB a = true
  · have e : compatL a b = false := by simp [compatL, ha]
    rw [e]; clear e
    go_enter Tryz.func54, Tryz.ntmps54
    go_wp2_with (go_at_call 52; refine (bad_any _ _).mono ?_; rintro e w' ⟨rfl, rfl⟩)
    go_ret
    exact ⟨rfl, rfl⟩
  simp only [Bool.not_eq_true] at ha
  by_cases hb : badB b = true
  · have e : compatL a b = false := by simp [compatL, hb]
    rw [e]; clear e
    go_enter Tryz.func54, Tryz.ntmps54
    go_wp2_with (go_at_call 52; refine (bad_any _ _).mono ?_; rintro e w' ⟨rfl, rfl⟩)
    go_ret
    exact ⟨rfl, rfl⟩
  simp only [Bool.not_eq_true] at hb
  rcases isMode ha with rfl | rfl | rfl | rfl | rfl | rfl | rfl <;> rcases isMode hb with rfl | rfl | rfl | rfl | rfl | rfl | rfl <;> clear ha hb
  all_goals
    go_enter Tryz.func54, Tryz.ntmps54
    go_wp2
    go_ret
    exact ⟨rfl, rfl⟩

end Go.Proofs.YtileamjmhhifaaaGreat
