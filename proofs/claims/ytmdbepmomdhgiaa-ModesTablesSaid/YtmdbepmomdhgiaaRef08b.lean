/-
  The contracts of jettyref08.Compatible and Join: the tables answer as the rights do.
-/
import Derived.Test.YtmdbepmomdhgiaaRef08
namespace Go.Proofs.Ytmdbepmomdhgiaa
open Go.RowKit

theorem isNat {m : Int} (h : badB m = false) : ∃ n : Nat, m = n ∧ n ≤ 6 := by
  simp [badB] at h; exact ⟨m.toNat, by omega, by omega⟩
theorem nat7 {n : Nat} (h : n ≤ 6) : n = 0 ∨ n = 1 ∨ n = 2 ∨ n = 3 ∨ n = 4 ∨ n = 5 ∨ n = 6 := by omega

set_option maxHeartbeats 4000000 in
theorem rcompat_any (a b : Int) (w : World) :
    Calls Try.prog 12 #[.int .i64 a, .int .i64 b] w fun e w' => e = .returned (.bool (compatL a b)) ∧ Grown w w' := by
  by_cases ha : badB a = true
  · have e : compatL a b = false := by simp [compatL, ha]
    rw [e]; clear e
    go_enter Try.func12, Try.ntmps12
    go_wp2_with (go_at_call 8; refine (rmode_any _ _).mono ?_; rintro e w' ⟨rfl, rfl⟩)
    go_ret
    exact ⟨rfl, Grown.refl _⟩
  simp only [Bool.not_eq_true] at ha
  by_cases hb : badB b = true
  · have e : compatL a b = false := by simp [compatL, hb]
    rw [e]; clear e
    go_enter Try.func12, Try.ntmps12
    go_wp2_with (go_at_call 8; refine (rmode_any _ _).mono ?_; rintro e w' ⟨rfl, rfl⟩)
    go_ret
    exact ⟨rfl, Grown.refl _⟩
  simp only [Bool.not_eq_true] at hb
  obtain ⟨n, rfl, hn⟩ := isNat hb
  have hn2 : n < 7 := by omega
  rcases isMode ha with rfl | rfl | rfl | rfl | rfl | rfl | rfl
  all_goals
    go_enter Try.func12, Try.ntmps12
    go_wp2_with (go_at_call 8; refine (rmode_any _ _).mono ?_; rintro e w' ⟨rfl, rfl⟩)
    go_ret
    refine ⟨?_, by repeat (first | exact Grown.refl _ | apply Grown.drew | apply Grown.alloc)⟩
    rcases nat7 hn with rfl | rfl | rfl | rfl | rfl | rfl | rfl <;> rfl

set_option maxHeartbeats 4000000 in
theorem rjoin_any (a b : Int) (w : World) :
    Calls Try.prog 13 #[.int .i64 a, .int .i64 b] w fun e w' => e = .returned (.int .i64 (joinL a b)) ∧ Grown w w' := by
  by_cases ha : badB a = true
  · have e : joinL a b = 0 := by simp [joinL, ha]
    rw [e]; clear e
    go_enter Try.func13, Try.ntmps13
    go_wp2_with (go_at_call 8; refine (rmode_any _ _).mono ?_; rintro e w' ⟨rfl, rfl⟩)
    go_ret
    exact ⟨rfl, Grown.refl _⟩
  simp only [Bool.not_eq_true] at ha
  by_cases hb : badB b = true
  · have e : joinL a b = 0 := by simp [joinL, hb]
    rw [e]; clear e
    go_enter Try.func13, Try.ntmps13
    go_wp2_with (go_at_call 8; refine (rmode_any _ _).mono ?_; rintro e w' ⟨rfl, rfl⟩)
    go_ret
    exact ⟨rfl, Grown.refl _⟩
  simp only [Bool.not_eq_true] at hb
  obtain ⟨n, rfl, hn⟩ := isNat hb
  have hn2 : n < 7 := by omega
  rcases isMode ha with rfl | rfl | rfl | rfl | rfl | rfl | rfl
  all_goals
    go_enter Try.func13, Try.ntmps13
    go_wp2_with (go_at_call 8; refine (rmode_any _ _).mono ?_; rintro e w' ⟨rfl, rfl⟩)
    go_ret
    refine ⟨?_, by repeat (first | exact Grown.refl _ | apply Grown.drew | apply Grown.alloc)⟩
    rcases nat7 hn with rfl | rfl | rfl | rfl | rfl | rfl | rfl <;> rfl
end Go.Proofs.Ytmdbepmomdhgiaa
