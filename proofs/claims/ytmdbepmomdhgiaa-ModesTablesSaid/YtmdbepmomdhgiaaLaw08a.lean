/-
  Layer 8: what the tables of modes obey (plain Lean over seven modes), and the walks of awake and of the reference's Covers.
-/
import Derived.Test.YtmdbepmomdhgiaaModes3
import Derived.Test.YtmdbepmomdhgiaaRef08b
namespace Go.Proofs.Ytmdbepmomdhgiaa
open Go.RowKit

theorem modeFin {m : Int} (h : badB m = false) : ∃ k : Fin 7, m = (k.val : Int) := by
  simp [badB] at h
  exact ⟨⟨m.toNat, by omega⟩, by simp; omega⟩

theorem pl2 : ∀ a b : Fin 7, (joinL a.val b.val == joinL b.val a.val) = true ∧ coversL (joinL a.val b.val) a.val = true ∧ coversL (joinL a.val b.val) b.val = true
    ∧ (compatL a.val b.val == compatL b.val a.val) = true ∧ badB (joinL a.val b.val) = false ∧ (joinL a.val b.val == (a.val : Int)) = coversL a.val b.val
    ∧ ((coversL a.val b.val && coversL b.val a.val) = true → a = b) := by decide +kernel
theorem pl3 : ∀ a b c : Fin 7, (joinL (joinL a.val b.val) c.val == joinL a.val (joinL b.val c.val)) = true
    ∧ (compatL c.val (joinL a.val b.val) = true → compatL c.val a.val = true ∧ compatL c.val b.val = true)
    ∧ (coversL a.val b.val = true → coversL b.val c.val = true → coversL a.val c.val = true)
    ∧ (coversL a.val b.val = true → (compatL c.val a.val = true → compatL c.val b.val = true) ∧ coversL (aboveL a.val) (aboveL b.val) = true) := by decide +kernel
theorem pl1 : ∀ a : Fin 7, (joinL a.val a.val == (a.val : Int)) = true ∧ coversL a.val a.val = true := by decide +kernel

theorem covers_bad {a b : Int} (h : badB a = true) : coversL a b = false ∧ coversL b a = false ∧ compatL a b = false ∧ compatL b a = false ∧ joinL a b = 0 := by
  simp [coversL, compatL, joinL, h]

theorem j32 (w : World) : Calls Try.prog 9 #[.int .i64 3, .int .i64 2] w fun e w' => e = .returned (.int .i64 4) ∧ w' = w := join_any 3 2 w
theorem c53 (w : World) : Calls Try.prog 11 #[.int .i64 5, .int .i64 3] w fun e w' => e = .returned (.bool true) ∧ w' = w := compat_any 5 3 w
theorem c55 (w : World) : Calls Try.prog 11 #[.int .i64 5, .int .i64 5] w fun e w' => e = .returned (.bool false) ∧ w' = w := compat_any 5 5 w

set_option maxHeartbeats 400000 in
theorem awake08 (w : World) : Calls Try.prog 7 #[] w fun e w' => e = .returned (.bool true) ∧ w' = w := by
  go_enter Try.func7, Try.ntmps7
  go_wp2_with fail
  refine (j32 _).mono ?_; rintro e w' ⟨rfl, rfl⟩
  go_wp2_with fail
  refine (c53 _).mono ?_; rintro e w' ⟨rfl, rfl⟩
  go_wp2_with fail
  refine (c55 _).mono ?_; rintro e w' ⟨rfl, rfl⟩
  go_wp2_with fail
  go_ret
  exact ⟨rfl, rfl⟩

set_option maxHeartbeats 400000 in
theorem rcovers_any (a b : Int) (w : World) :
    Calls Try.prog 14 #[.int .i64 a, .int .i64 b] w fun e w' => e = .returned (.bool (coversL a b)) ∧ Grown w w' := by
  by_cases ha : badB a = true
  · rw [(covers_bad ha).1]
    go_enter Try.func14, Try.ntmps14
    go_wp2_with (go_at_call 8; refine (rmode_any _ _).mono ?_; rintro e w' ⟨rfl, rfl⟩)
    go_ret
    exact ⟨rfl, Grown.refl _⟩
  by_cases hb : badB b = true
  · rw [(covers_bad hb).2.1]
    simp only [Bool.not_eq_true] at ha
    go_enter Try.func14, Try.ntmps14
    go_wp2_with (go_at_call 8; refine (rmode_any _ _).mono ?_; rintro e w' ⟨rfl, rfl⟩)
    go_ret
    exact ⟨rfl, Grown.refl _⟩
  simp only [Bool.not_eq_true] at ha hb
  have he : (joinL a b == a) = coversL a b := by
    obtain ⟨x, rfl⟩ := modeFin ha
    obtain ⟨y, rfl⟩ := modeFin hb
    exact (pl2 x y).2.2.2.2.2.1
  rw [← he]; clear he
  go_enter Try.func14, Try.ntmps14
  go_wp2_with (first | (go_at_call 8; refine (rmode_any _ _).mono ?_; rintro e w' ⟨rfl, rfl⟩) | (go_at_call 13; refine (rjoin_any _ _ _).mono ?_; rintro e w' ⟨rfl, hg⟩))
  go_ret
  exact ⟨rfl, by assumption⟩
end Go.Proofs.Ytmdbepmomdhgiaa
