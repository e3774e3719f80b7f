/-
  Layer 4 (page): the contract of page.Check.
-/
import Derived.Test.YtljommhbhpappaaPage0
namespace Go.Proofs.Ytljommhbhpappaa
open Go.RowKit Go.Joins
set_option linter.unusedVariables false
set_option linter.unusedSimpArgs false

theorem sem_f {s : ByteArray} (h : s ≠ ByteArray.empty) : s.toList.isEmpty = false := by
  cases hs : s.toList with
  | nil => exact absurd (Go.WideShapes.bytes_inj (by rw [← ByteArray.toList_eq, hs]; rfl)) h
  | cons _ _ => rfl

/-- a cell that may be written -/
def okC (a : Int) (d : ByteArray) : Bool := decide (0 ≤ a) && decide (a ≤ 2) && decide (d.size ≤ 34) && (!(a == 0) || d.toList.isEmpty)
/-- the head of a page that may be written -/
def okH (p : Pg) : Bool := decide (0 ≤ p.k) && decide (p.k ≤ 4) && decide (0 ≤ p.l) && decide (p.l ≤ 255) && decide (0 ≤ p.s) && decide (p.s ≤ 65535) && decide (0 ≤ p.n) && decide (p.n < 1024)
/-- the cells from k on may be written -/
def okCs (p : Pg) (k : Nat) : Bool := (List.range' k (6 - k)).all fun i => okC (p.a i) (p.d i)
/-- a page that may be written -/
def okPg (p : Pg) : Bool := okH p && okCs p 0

theorem okCs_step (p : Pg) (k : Nat) (h : k < 6) : okCs p k = (okC (p.a k) (p.d k) && okCs p (k + 1)) := by
  unfold okCs
  rw [show 6 - k = (6 - (k + 1)) + 1 from by omega, List.range'_succ]
  rfl
theorem okCs_six (p : Pg) : okCs p 6 = true := rfl

theorem index6_0 (p : Pg) (w : World) : (Instr.index 110 (.agg #[.int .i64 p.a0, .string p.d0, .int .i64 p.a1, .string p.d1, .int .i64 p.a2, .string p.d2, .int .i64 p.a3, .string p.d3, .int .i64 p.a4, .string p.d4, .int .i64 p.a5, .string p.d5]) (.int .i64 0)).run Try.prog w =
    .ok (.agg #[.int .i64 p.a0, .string p.d0]) w := by kernel_rfl
theorem index6_1 (p : Pg) (w : World) : (Instr.index 110 (.agg #[.int .i64 p.a0, .string p.d0, .int .i64 p.a1, .string p.d1, .int .i64 p.a2, .string p.d2, .int .i64 p.a3, .string p.d3, .int .i64 p.a4, .string p.d4, .int .i64 p.a5, .string p.d5]) (.int .i64 1)).run Try.prog w =
    .ok (.agg #[.int .i64 p.a1, .string p.d1]) w := by kernel_rfl
theorem index6_2 (p : Pg) (w : World) : (Instr.index 110 (.agg #[.int .i64 p.a0, .string p.d0, .int .i64 p.a1, .string p.d1, .int .i64 p.a2, .string p.d2, .int .i64 p.a3, .string p.d3, .int .i64 p.a4, .string p.d4, .int .i64 p.a5, .string p.d5]) (.int .i64 2)).run Try.prog w =
    .ok (.agg #[.int .i64 p.a2, .string p.d2]) w := by kernel_rfl
theorem index6_3 (p : Pg) (w : World) : (Instr.index 110 (.agg #[.int .i64 p.a0, .string p.d0, .int .i64 p.a1, .string p.d1, .int .i64 p.a2, .string p.d2, .int .i64 p.a3, .string p.d3, .int .i64 p.a4, .string p.d4, .int .i64 p.a5, .string p.d5]) (.int .i64 3)).run Try.prog w =
    .ok (.agg #[.int .i64 p.a3, .string p.d3]) w := by kernel_rfl
theorem index6_4 (p : Pg) (w : World) : (Instr.index 110 (.agg #[.int .i64 p.a0, .string p.d0, .int .i64 p.a1, .string p.d1, .int .i64 p.a2, .string p.d2, .int .i64 p.a3, .string p.d3, .int .i64 p.a4, .string p.d4, .int .i64 p.a5, .string p.d5]) (.int .i64 4)).run Try.prog w =
    .ok (.agg #[.int .i64 p.a4, .string p.d4]) w := by kernel_rfl
theorem index6_5 (p : Pg) (w : World) : (Instr.index 110 (.agg #[.int .i64 p.a0, .string p.d0, .int .i64 p.a1, .string p.d1, .int .i64 p.a2, .string p.d2, .int .i64 p.a3, .string p.d3, .int .i64 p.a4, .string p.d4, .int .i64 p.a5, .string p.d5]) (.int .i64 5)).run Try.prog w =
    .ok (.agg #[.int .i64 p.a5, .string p.d5]) w := by kernel_rfl
theorem index6 (p : Pg) (k : Nat) (h : k < 6) (w : World) : (Instr.index 110 (.agg #[.int .i64 p.a0, .string p.d0, .int .i64 p.a1, .string p.d1, .int .i64 p.a2, .string p.d2, .int .i64 p.a3, .string p.d3, .int .i64 p.a4, .string p.d4, .int .i64 p.a5, .string p.d5]) (.int .i64 k)).run Try.prog w =
    .ok (.agg #[.int .i64 (p.a k), .string (p.d k)]) w := by
  have h6 : k = 0 ∨ k = 1 ∨ k = 2 ∨ k = 3 ∨ k = 4 ∨ k = 5 := by omega
  rcases h6 with rfl | rfl | rfl | rfl | rfl | rfl
  · exact index6_0 p w
  · exact index6_1 p w
  · exact index6_2 p w
  · exact index6_3 p w
  · exact index6_4 p w
  · exact index6_5 p w

def chkE (b : Bool) : Int := if b then 0 else 1

set_option maxHeartbeats 4000000 in
set_option maxRecDepth 100000 in
theorem check_any (p : Pg) (w : World) :
    Calls Try.prog 91 #[p.v] w fun e w' => e = .returned (.int .i64 (chkE (okPg p))) ∧ Below w.heap.size w w' := by
  by_cases hH : okH p = true
  · have e0 : okPg p = okCs p 0 := by simp [okPg, hH]
    rw [e0]
    clear e0
    simp only [okH, Bool.and_eq_true, decide_eq_true_eq] at hH
    obtain ⟨⟨⟨⟨⟨⟨⟨k1, k2⟩, l1⟩, l2⟩, s1⟩, s2⟩, n1⟩, n2⟩ := hH
    go_enter Try.func91, Try.ntmps91
    go_wp2_with fail
    clear k1 k2 l1 l2 s1 s2 n1 n2
    go_loopw [45] (fun i wr => ∃ k : Nat, k ≤ 6 ∧ i = .int .i64 k ∧ okCs p 0 = okCs p k ∧ Below w.heap.size w wr) (fun i _ => 6 - (intOf i).toNat)
    case atStart => exact ⟨0, by omega, rfl, rfl, (Below.refl _ _).alloc (Nat.le_refl _) _⟩
    case round =>
      obtain ⟨k, hk, rfl, hok, hb⟩ := hrel
      have HO := Lib.hid hok
      have hsz := hb.size
      clear hok
      by_cases hlt : k < 6
      · have hidx := index6 p k hlt
        have hst := okCs_step p k hlt
        have HS := Lib.hid hst
        clear hst
        generalize p.a k = a at *
        generalize p.d k = d at *
        cases hC : okC a d
        · have hC0 := hC
          have HC := Lib.hid hC0
          clear hC0
          have bad : a < 0 ∨ (0 ≤ a ∧ 2 < a) ∨ (0 ≤ a ∧ a ≤ 2 ∧ 34 < d.size) ∨ (a = 0 ∧ d.size ≤ 34 ∧ d.toList.isEmpty = false) := by
            by_cases q1 : a < 0
            · exact .inl q1
            by_cases q2 : 2 < a
            · exact .inr (.inl ⟨by omega, q2⟩)
            by_cases q3 : 34 < d.size
            · exact .inr (.inr (.inl ⟨by omega, by omega, q3⟩))
            have p1 : decide (0 ≤ a) = true := by simp; omega
            have p2 : decide (a ≤ 2) = true := by simp; omega
            have p3 : decide (d.size ≤ 34) = true := by simp; omega
            simp only [okC, p1, p2, p3, Bool.true_and, Bool.or_eq_false_iff, Bool.not_eq_false', beq_iff_eq] at hC
            exact .inr (.inr (.inr ⟨hC.1, by omega, hC.2⟩))
          clear hC
          rcases bad with q | ⟨q, q2⟩ | ⟨q, q2, q3⟩ | ⟨q, q2, q3⟩
          · go_wp2
            go_ret
            exact ⟨by rw [HO.out, HS.out, HC.out]; rfl, hb.alloc hsz _⟩
          · go_wp2
            go_ret
            exact ⟨by rw [HO.out, HS.out, HC.out]; rfl, hb.alloc hsz _⟩
          · go_wp2
            all_goals go_ret
            all_goals exact ⟨by rw [HO.out, HS.out, HC.out]; rfl, hb.alloc hsz _⟩
          · subst q
            go_wp2
            go_ret
            exact ⟨by rw [HO.out, HS.out, HC.out]; rfl, hb.alloc hsz _⟩
        · have HC := Lib.hid hC
          simp only [okC, Bool.and_eq_true, decide_eq_true_eq, Bool.or_eq_true, Bool.not_eq_true'] at hC
          obtain ⟨⟨⟨a1, a2⟩, d1⟩, hz⟩ := hC
          by_cases hz0 : a = 0
          · subst hz0
            have hz2 : d.toList.isEmpty = true := by simpa using hz
            clear hz
            go_wp2
            go_roundw
            case rel => exact ⟨k + 1, by omega, by go_num, by rw [HO.out, HS.out, HC.out]; rfl, hb.alloc hsz _⟩
            case measure => simp [intOf]; omega
          · have hz1 : (a == 0) = false := by simp [hz0]
            clear hz hz0
            go_wp2
            go_roundw
            case rel => exact ⟨k + 1, by omega, by go_num, by rw [HO.out, HS.out, HC.out]; rfl, hb.alloc hsz _⟩
            case measure => simp [intOf]; omega
      · have hk6 : k = 6 := by omega
        subst hk6
        go_wp2
        go_ret
        exact ⟨by rw [HO.out]; rfl, hb⟩
  · have e0 : okPg p = false := by simp [okPg, hH]
    rw [e0]
    clear e0
    have bad : p.k < 0 ∨ (0 ≤ p.k ∧ 4 < p.k) ∨ (0 ≤ p.k ∧ p.k ≤ 4 ∧ p.l < 0) ∨ (0 ≤ p.k ∧ p.k ≤ 4 ∧ 0 ≤ p.l ∧ 255 < p.l) ∨ (0 ≤ p.k ∧ p.k ≤ 4 ∧ 0 ≤ p.l ∧ p.l ≤ 255 ∧ p.s < 0) ∨ (0 ≤ p.k ∧ p.k ≤ 4 ∧ 0 ≤ p.l ∧ p.l ≤ 255 ∧ 0 ≤ p.s ∧ 65535 < p.s) ∨
        (0 ≤ p.k ∧ p.k ≤ 4 ∧ 0 ≤ p.l ∧ p.l ≤ 255 ∧ 0 ≤ p.s ∧ p.s ≤ 65535 ∧ p.n < 0) ∨ (0 ≤ p.k ∧ p.k ≤ 4 ∧ 0 ≤ p.l ∧ p.l ≤ 255 ∧ 0 ≤ p.s ∧ p.s ≤ 65535 ∧ 0 ≤ p.n ∧ 1024 ≤ p.n) := by
      simp only [okH, Bool.and_eq_true, decide_eq_true_eq] at hH
      omega
    clear hH
    rcases bad with q | ⟨q, q1⟩ | ⟨q, q1, q2⟩ | ⟨q, q1, q2, q3⟩ | ⟨q, q1, q2, q3, q4⟩ | ⟨q, q1, q2, q3, q4, q5⟩ | ⟨q, q1, q2, q3, q4, q5, q6⟩ | ⟨q, q1, q2, q3, q4, q5, q6, q7⟩
    all_goals
      go_enter Try.func91, Try.ntmps91
      go_wp2
      go_ret
      exact ⟨rfl, (Below.refl _ _).alloc (Nat.le_refl _) _⟩
end Go.Proofs.Ytljommhbhpappaa
