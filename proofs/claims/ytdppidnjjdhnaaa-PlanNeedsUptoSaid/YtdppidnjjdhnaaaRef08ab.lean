/-
  The contracts of the reference of layer 8 (jettyref08): Above alone.
-/
import Derived.Test.YtdppidnjjdhnaaaModes2
import Derived.RowKit3
namespace Go.Proofs.Ytdppidnjjdhnaaa
open Go.RowKit

set_option maxHeartbeats 400000 in
theorem rabove_any (m : Int) (w : World) :
    Calls Try.prog 18 #[.int .i64 m] w fun e w' => e = .returned (.int .i64 (aboveL m)) ∧ w' = w := by
  by_cases h1 : m = 1
  · subst h1; go_enter Try.func18, Try.ntmps18; go_wp2; go_ret; exact ⟨rfl, rfl⟩
  by_cases h2 : m = 2
  · subst h2; go_enter Try.func18, Try.ntmps18; go_wp2; go_ret; exact ⟨rfl, rfl⟩
  by_cases h3 : m = 3
  · subst h3; go_enter Try.func18, Try.ntmps18; go_wp2; go_ret; exact ⟨rfl, rfl⟩
  by_cases h4 : m = 4
  · subst h4; go_enter Try.func18, Try.ntmps18; go_wp2; go_ret; exact ⟨rfl, rfl⟩
  by_cases h5 : m = 5
  · subst h5; go_enter Try.func18, Try.ntmps18; go_wp2; go_ret; exact ⟨rfl, rfl⟩
  by_cases h6 : m = 6
  · subst h6; go_enter Try.func18, Try.ntmps18; go_wp2; go_ret; exact ⟨rfl, rfl⟩
  have e : aboveL m = 0 := by simp [aboveL, h1, h2, h3, h4, h5, h6]
  have b1 : (m == 1) = false := by simp [h1]
  have b2 : (m == 2) = false := by simp [h2]
  have b3 : (m == 3) = false := by simp [h3]
  have b4 : (m == 4) = false := by simp [h4]
  have b5 : (m == 5) = false := by simp [h5]
  have b6 : (m == 6) = false := by simp [h6]
  rw [e]; clear e h1 h2 h3 h4 h5 h6
  go_enter Try.func18, Try.ntmps18; go_wp2; go_ret; exact ⟨rfl, rfl⟩
end Go.Proofs.Ytdppidnjjdhnaaa
