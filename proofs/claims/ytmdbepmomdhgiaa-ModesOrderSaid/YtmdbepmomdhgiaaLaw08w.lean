/-
  Layer 8: the walks of the four laws on modes: each returns true, at every input.
-/
import Derived.Test.YtmdbepmomdhgiaaLaw08a
namespace Go.Proofs.Ytmdbepmomdhgiaa
open Go.RowKit

theorem gtrans {a b c : World} (h : Grown a b) (g : Grown b c) : Grown a c :=
  ⟨World.keptBut_trans h.1 g.1, fun x => (g.2.1 x).trans (h.2.1 x), Nat.le_trans h.2.2 g.2.2⟩

set_option maxHeartbeats 1000000 in
theorem walk_tables (a b : Int) (w : World) :
    Calls Try.prog 5 #[.int .i64 a, .int .i64 b] w fun e w' => e = .returned (.bool true) ∧ Grown w w' := by
  go_enter Try.func5, Try.ntmps5
  go_wp2_with (first
    | (go_at_call 7; refine (awake08 _).mono ?_; rintro e w' ⟨rfl, rfl⟩)
    | (go_at_call 11; refine (compat_any _ _ _).mono ?_; rintro e w' ⟨rfl, rfl⟩)
    | (go_at_call 12; refine (rcompat_any _ _ _).mono ?_; rintro e w1 ⟨rfl, hg1⟩)
    | (go_at_call 9; refine (join_any _ _ _).mono ?_; rintro e w' ⟨rfl, rfl⟩)
    | (go_at_call 13; refine (rjoin_any _ _ _).mono ?_; rintro e w2 ⟨rfl, hg2⟩)
    | (go_at_call 10; refine (covers_any _ _ _).mono ?_; rintro e w' ⟨rfl, rfl⟩)
    | (go_at_call 14; refine (rcovers_any _ _ _).mono ?_; rintro e w3 ⟨rfl, hg3⟩)
    | (go_at_call 15; refine (above_any _ _).mono ?_; rintro e w' ⟨rfl, rfl⟩)
    | (go_at_call 16; refine (rabove_any _ _).mono ?_; rintro e w' ⟨rfl, rfl⟩))
  go_ret
  exact ⟨rfl, gtrans (gtrans hg1 hg2) hg3⟩

set_option maxHeartbeats 1000000 in
theorem walk_join (a b c : Int) (w : World) :
    Calls Try.prog 3 #[.int .i64 a, .int .i64 b, .int .i64 c] w fun e w' => e = .returned (.bool true) ∧ Grown w w' := by
  by_cases ha : badB a = true
  · go_enter Try.func3, Try.ntmps3
    go_wp2_with (first
      | (go_at_call 7; refine (awake08 _).mono ?_; rintro e w' ⟨rfl, rfl⟩)
      | (go_at_call 8; refine (rmode_any _ _).mono ?_; rintro e w' ⟨rfl, rfl⟩))
    go_ret
    exact ⟨rfl, Grown.refl _⟩
  simp only [Bool.not_eq_true] at ha
  by_cases hb : badB b = true
  · go_enter Try.func3, Try.ntmps3
    go_wp2_with (first
      | (go_at_call 7; refine (awake08 _).mono ?_; rintro e w' ⟨rfl, rfl⟩)
      | (go_at_call 8; refine (rmode_any _ _).mono ?_; rintro e w' ⟨rfl, rfl⟩))
    go_ret
    exact ⟨rfl, Grown.refl _⟩
  simp only [Bool.not_eq_true] at hb
  by_cases hc : badB c = true
  · go_enter Try.func3, Try.ntmps3
    go_wp2_with (first
      | (go_at_call 7; refine (awake08 _).mono ?_; rintro e w' ⟨rfl, rfl⟩)
      | (go_at_call 8; refine (rmode_any _ _).mono ?_; rintro e w' ⟨rfl, rfl⟩))
    go_ret
    exact ⟨rfl, Grown.refl _⟩
  simp only [Bool.not_eq_true] at hc
  obtain ⟨q1, q2, q3, q4, q5⟩ : (joinL a b != joinL b a) = false ∧ (joinL (joinL a b) c != joinL a (joinL b c)) = false ∧ coversL (joinL a b) a = true ∧ coversL (joinL a b) b = true ∧ (joinL a a != a) = false := by
    obtain ⟨x, rfl⟩ := modeFin ha
    obtain ⟨y, rfl⟩ := modeFin hb
    obtain ⟨z, rfl⟩ := modeFin hc
    have h1 := pl2 x y
    have h2 := (pl3 x y z).1
    have h3 := (pl1 x).1
    simp only [bne, h1.1, h2, h3, h1.2.1, h1.2.2.1, Bool.not_true, and_self]
  have q6 : (compatL a b == compatL b a) = true := by
    obtain ⟨x, rfl⟩ := modeFin ha
    obtain ⟨y, rfl⟩ := modeFin hb
    exact (pl2 x y).2.2.2.1
  have q7 : compatL c (joinL a b) = false ∨ compatL c (joinL a b) = true ∧ compatL c a = true ∧ compatL c b = true := by
    obtain ⟨x, rfl⟩ := modeFin ha
    obtain ⟨y, rfl⟩ := modeFin hb
    obtain ⟨z, rfl⟩ := modeFin hc
    have h2 := (pl3 x y z).2.1
    cases h : compatL z.val (joinL x.val y.val)
    · exact .inl rfl
    · exact .inr ⟨rfl, h2 h⟩
  rcases q7 with q7 | ⟨q7, q8, q9⟩
  all_goals
    go_enter Try.func3, Try.ntmps3
    go_wp2_with (first
      | (go_at_call 7; refine (awake08 _).mono ?_; rintro e w' ⟨rfl, rfl⟩)
      | (go_at_call 8; refine (rmode_any _ _).mono ?_; rintro e w' ⟨rfl, rfl⟩)
      | (go_at_call 11; refine (compat_any _ _ _).mono ?_; rintro e w' ⟨rfl, rfl⟩)
      | (go_at_call 9; refine (join_any _ _ _).mono ?_; rintro e w' ⟨rfl, rfl⟩)
      | (go_at_call 10; refine (covers_any _ _ _).mono ?_; rintro e w' ⟨rfl, rfl⟩))
    go_ret
    exact ⟨rfl, Grown.refl _⟩

set_option maxHeartbeats 1000000 in
theorem walk_order (a b c : Int) (w : World) :
    Calls Try.prog 4 #[.int .i64 a, .int .i64 b, .int .i64 c] w fun e w' => e = .returned (.bool true) ∧ Grown w w' := by
  by_cases ha : badB a = true
  · obtain ⟨q1, q2, q3, q4, q5⟩ := covers_bad (b := b) ha
    go_enter Try.func4, Try.ntmps4
    go_wp2_with (first
      | (go_at_call 7; refine (awake08 _).mono ?_; rintro e w' ⟨rfl, rfl⟩)
      | (go_at_call 8; refine (rmode_any _ _).mono ?_; rintro e w' ⟨rfl, rfl⟩)
      | (go_at_call 11; refine (compat_any _ _ _).mono ?_; rintro e w' ⟨rfl, rfl⟩)
      | (go_at_call 9; refine (join_any _ _ _).mono ?_; rintro e w' ⟨rfl, rfl⟩)
      | (go_at_call 10; refine (covers_any _ _ _).mono ?_; rintro e w' ⟨rfl, rfl⟩))
    go_ret
    exact ⟨rfl, Grown.refl _⟩
  simp only [Bool.not_eq_true] at ha
  have q1 : coversL a a = true := by
    obtain ⟨x, rfl⟩ := modeFin ha
    exact (pl1 x).2
  have q2 : coversL a b = false ∨ coversL a b = true ∧ (coversL b a = false ∨ coversL b a = true ∧ (a != b) = false) ∧ (coversL b c = false ∨ coversL b c = true ∧ coversL a c = true) := by
    by_cases hb : badB b = true
    · exact .inl (covers_bad hb).2.1
    simp only [Bool.not_eq_true] at hb
    obtain ⟨x, rfl⟩ := modeFin ha
    obtain ⟨y, rfl⟩ := modeFin hb
    cases h : coversL x.val y.val
    · exact .inl rfl
    refine .inr ⟨rfl, ?_, ?_⟩
    · cases h2 : coversL y.val x.val
      · exact .inl rfl
      · have := (pl2 x y).2.2.2.2.2.2 (by rw [h, h2]; rfl)
        exact .inr ⟨rfl, by rw [this]; simp⟩
    · by_cases hc : badB c = true
      · exact .inl (covers_bad hc).2.1
      simp only [Bool.not_eq_true] at hc
      obtain ⟨z, rfl⟩ := modeFin hc
      cases h2 : coversL y.val z.val
      · exact .inl rfl
      · exact .inr ⟨rfl, (pl3 x y z).2.2.1 h h2⟩
  rcases q2 with q2 | ⟨q2, q3 | ⟨q3, q4⟩, q5 | ⟨q5, q6⟩⟩
  all_goals
    go_enter Try.func4, Try.ntmps4
    go_wp2_with (first
      | (go_at_call 7; refine (awake08 _).mono ?_; rintro e w' ⟨rfl, rfl⟩)
      | (go_at_call 8; refine (rmode_any _ _).mono ?_; rintro e w' ⟨rfl, rfl⟩)
      | (go_at_call 10; refine (covers_any _ _ _).mono ?_; rintro e w' ⟨rfl, rfl⟩))
    go_ret
    exact ⟨rfl, Grown.refl _⟩

set_option maxHeartbeats 1000000 in
theorem walk_weaker (a b c : Int) (w : World) :
    Calls Try.prog 6 #[.int .i64 a, .int .i64 b, .int .i64 c] w fun e w' => e = .returned (.bool true) ∧ Grown w w' := by
  have q : coversL a b = false ∨ coversL a b = true ∧ coversL (aboveL a) (aboveL b) = true ∧ (compatL c a = false ∨ compatL c a = true ∧ compatL c b = true) := by
    by_cases ha : badB a = true
    · exact .inl (covers_bad ha).1
    by_cases hb : badB b = true
    · exact .inl (covers_bad hb).2.1
    simp only [Bool.not_eq_true] at ha hb
    obtain ⟨x, rfl⟩ := modeFin ha
    obtain ⟨y, rfl⟩ := modeFin hb
    cases h : coversL x.val y.val
    · exact .inl rfl
    refine .inr ⟨rfl, ((pl3 x y x).2.2.2 h).2, ?_⟩
    by_cases hc : badB c = true
    · exact .inl (covers_bad hc).2.2.1
    simp only [Bool.not_eq_true] at hc
    obtain ⟨z, rfl⟩ := modeFin hc
    cases h2 : compatL z.val x.val
    · exact .inl rfl
    · exact .inr ⟨rfl, ((pl3 x y z).2.2.2 h).1 h2⟩
  rcases q with q1 | ⟨q1, q2, q3 | ⟨q3, q4⟩⟩
  all_goals
    go_enter Try.func6, Try.ntmps6
    go_wp2_with (first
      | (go_at_call 7; refine (awake08 _).mono ?_; rintro e w' ⟨rfl, rfl⟩)
      | (go_at_call 11; refine (compat_any _ _ _).mono ?_; rintro e w' ⟨rfl, rfl⟩)
      | (go_at_call 10; refine (covers_any _ _ _).mono ?_; rintro e w' ⟨rfl, rfl⟩)
      | (go_at_call 15; refine (above_any _ _).mono ?_; rintro e w' ⟨rfl, rfl⟩))
    go_ret
    exact ⟨rfl, Grown.refl _⟩
end Go.Proofs.Ytmdbepmomdhgiaa
