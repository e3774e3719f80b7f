/-
  The contracts of jettyref08.Compatible and Join: the tables answer as the rights do.
-/
import Derived.Test.YtileamjmhhifaaaGreatRef08
import Derived.Test.YtileamjmhhifaaaGreatLk2
namespace Go.Proofs.YtileamjmhhifaaaGreat
open Go.RowKit

theorem Gr.drew9 {a b : World} (h : Gr a b) : Gr a b.drew := h.drewN 1
theorem isNat9 {m : Int} (h : badB m = false) : ∃ n : Nat, m = n ∧ n ≤ 6 := by
  simp [badB] at h; exact ⟨m.toNat, by omega, by omega⟩
theorem nat79 {n : Nat} (h : n ≤ 6) : n = 0 ∨ n = 1 ∨ n = 2 ∨ n = 3 ∨ n = 4 ∨ n = 5 ∨ n = 6 := by omega

set_option maxHeartbeats 4000000 in
theorem rcompatB (a b : Int) (w : World) :
    Calls Tryz.prog 58 #[.int .i64 a, .int .i64 b] w fun e w' => e = .returned (.bool (compatL a b)) ∧ Gr w w' := by
  by_cases ha : badB a = true
  · have e : compatL a b = false := by simp [compatL, ha]
    rw [e]; clear e
    go_enter Tryz.func58, Tryz.ntmps58
    go_wp2_with (go_at_call 57; refine (rmode_any _ _).mono ?_; rintro e w' ⟨rfl, rfl⟩)
    go_ret
    exact ⟨rfl, Gr.refl _⟩
  simp only [Bool.not_eq_true] at ha
  by_cases hb : badB b = true
  · have e : compatL a b = false := by simp [compatL, hb]
    rw [e]; clear e
    go_enter Tryz.func58, Tryz.ntmps58
    go_wp2_with (go_at_call 57; refine (rmode_any _ _).mono ?_; rintro e w' ⟨rfl, rfl⟩)
    go_ret
    exact ⟨rfl, Gr.refl _⟩
  simp only [Bool.not_eq_true] at hb
  obtain ⟨n, rfl, hn⟩ := isNat9 hb
  have hn2 : n < 7 := by omega
  rcases isMode ha with rfl | rfl | rfl | rfl | rfl | rfl | rfl
  all_goals
    go_enter Tryz.func58, Tryz.ntmps58
    go_wp2_with (go_at_call 57; refine (rmode_any _ _).mono ?_; rintro e w' ⟨rfl, rfl⟩)
    go_ret
    refine ⟨?_, by repeat (first | exact Gr.refl _ | apply Gr.drew9 | refine Gr.alloc ?_ _)⟩
    rcases nat79 hn with rfl | rfl | rfl | rfl | rfl | rfl | rfl <;> rfl

set_option maxHeartbeats 4000000 in
theorem rjoinB (a b : Int) (w : World) :
    Calls Tryz.prog 31 #[.int .i64 a, .int .i64 b] w fun e w' => e = .returned (.int .i64 (joinL a b)) ∧ Gr w w' := by
  by_cases ha : badB a = true
  · have e : joinL a b = 0 := by simp [joinL, ha]
    rw [e]; clear e
    go_enter Tryz.func31, Tryz.ntmps31
    go_wp2_with (go_at_call 57; refine (rmode_any _ _).mono ?_; rintro e w' ⟨rfl, rfl⟩)
    go_ret
    exact ⟨rfl, Gr.refl _⟩
  simp only [Bool.not_eq_true] at ha
  by_cases hb : badB b = true
  · have e : joinL a b = 0 := by simp [joinL, hb]
    rw [e]; clear e
    go_enter Tryz.func31, Tryz.ntmps31
    go_wp2_with (go_at_call 57; refine (rmode_any _ _).mono ?_; rintro e w' ⟨rfl, rfl⟩)
    go_ret
    exact ⟨rfl, Gr.refl _⟩
  simp only [Bool.not_eq_true] at hb
  obtain ⟨n, rfl, hn⟩ := isNat9 hb
  have hn2 : n < 7 := by omega
  rcases isMode ha with rfl | rfl | rfl | rfl | rfl | rfl | rfl
  all_goals
    go_enter Tryz.func31, Tryz.ntmps31
    go_wp2_with (go_at_call 57; refine (rmode_any _ _).mono ?_; rintro e w' ⟨rfl, rfl⟩)
    go_ret
    refine ⟨?_, by repeat (first | exact Gr.refl _ | apply Gr.drew9 | refine Gr.alloc ?_ _)⟩
    rcases nat79 hn with rfl | rfl | rfl | rfl | rfl | rfl | rfl <;> rfl
end Go.Proofs.YtileamjmhhifaaaGreat
