/-
  Layer 5 (node): Count; Check and Find of a node without cells.
-/
import Derived.Test.YtljommhbhpappaaSpace13
namespace Go.Proofs.Ytljommhbhpappaa
open Go.RowKit Go.Joins
set_option linter.unusedVariables false
set_option linter.unusedSimpArgs false

set_option maxHeartbeats 2000000 in
set_option maxRecDepth 100000 in
theorem ncount_any (p : Pg) (n : Nat) (hn : n ≤ 6) (h1 : ∀ j, j < n → p.a j ≠ 0) (h2 : n < 6 → p.a n = 0) (w : World) :
    Calls Try.prog 88 #[p.v] w fun e w' => e = .returned (.int .i64 n) ∧ Below w.heap.size w w' := by
  have H1 := Lib.hid h1
  have H2 := Lib.hid h2
  clear h1 h2
  go_enter Try.func88, Try.ntmps88
  go_wp2_with fail
  go_loopw [3] (fun i wr => ∃ k : Nat, k ≤ n ∧ i = .int .i64 k ∧ wr = w.alloc (.cells p.cs 112)) (fun i _ => 6 - (intOf i).toNat)
  case atStart => exact ⟨0, by omega, rfl, by first | rfl | trivial⟩
  case round =>
    obtain ⟨k, hk, rfl, rfl⟩ := hrel
    have R1 := rowAt_at w p.cs 112 _ rfl
    by_cases hlt : k < n
    · have cA := (cell_row R1 (4 + k * 2)).trans (cs_a p k (by omega))
      have e1 : (p.a k == 0) = false := by simp [H1.out k hlt]
      generalize p.a k = a at *
      go_wp2_with fail
      go_roundw
      case rel => exact ⟨k + 1, by omega, by go_num, by first | rfl | trivial⟩
      case measure => simp [intOf]; omega
    · have hke : k = n := by omega
      subst hke
      by_cases h6 : k < 6
      · have cA := (cell_row R1 (4 + k * 2)).trans (cs_a p k h6)
        rw [H2.out h6] at cA
        go_wp2_with fail
        go_ret
        exact ⟨rfl, (Below.refl _ _).alloc (Nat.le_refl _) _⟩
      · have hke : k = 6 := by omega
        subst hke
        go_wp2_with fail
        go_ret
        exact ⟨rfl, (Below.refl _ _).alloc (Nat.le_refl _) _⟩

/-- a node without cells -/
def emptyN (st : Int) : Pg := { k := 4, s := st }
theorem emptyN_a (st : Int) (k : Nat) (hk : k < 6) : (emptyN st).a k = 0 := by
  rcases k with _ | _ | _ | _ | _ | _ | k
  all_goals first | rfl | omega
theorem emptyN_d (st : Int) (k : Nat) (hk : k < 6) : (emptyN st).d k = ByteArray.empty := by
  rcases k with _ | _ | _ | _ | _ | _ | k
  all_goals first | rfl | omega

set_option maxHeartbeats 2000000 in
set_option maxRecDepth 100000 in
theorem ncheck_empty (st : Int) (w : World) :
    Calls Try.prog 106 #[(emptyN st).v] w fun e w' => e = .returned (.int .i64 0) ∧ Below w.heap.size w w' := by
  have hk : (emptyN st).k = 4 := rfl
  have hl : (emptyN st).l = 0 := rfl
  have HA := Lib.hid (emptyN_a st)
  have HD := Lib.hid (emptyN_d st)
  generalize emptyN st = p at *
  go_enter Try.func106, Try.ntmps106
  go_wp2_with fail
  go_loopw [20] (fun i wr => ∃ k : Nat, k ≤ 6 ∧ i = .int .i64 k ∧ Below (w.heap.size + 1) (w.alloc (.cells p.cs 112)) wr) (fun i _ => 6 - (intOf i).toNat)
  case atStart => exact ⟨0, by omega, rfl, Below.refl _ _⟩
  case round =>
    obtain ⟨k, hk6, rfl, hb⟩ := hrel
    have hsz := hb.size
    rw [World.size_alloc] at hsz
    by_cases hlt : k < 6
    · have hidx := index6 p k hlt
      rw [HA.out k hlt, HD.out k hlt] at hidx
      go_wp2_with fail
      go_roundw
      case rel => exact ⟨k + 1, by omega, by go_num, hb.alloc hsz _⟩
      case measure => simp [intOf]; omega
    · have hke : k = 6 := by omega
      subst hke
      have R1 := (rowAt_below hb (n := w.heap.size) (by omega)).trans (rowAt_at w p.cs 112 _ rfl)
      have HB := Lib.hid (((Below.refl w.heap.size w).alloc (Nat.le_refl _) (.cells p.cs 112)).trans (hb.mono (by omega)))
      have c1 : wr.cell? ⟨w.heap.size, 1, none⟩ = some (.int .i64 0) := (cell_row R1 1).trans (by rw [← hl]; rfl)
      clear hb
      go_wp2_with fail
      go_ret
      exact ⟨rfl, HB.out⟩

set_option maxHeartbeats 2000000 in
set_option maxRecDepth 100000 in
theorem nfind_empty (p : Pg) (h0 : p.a 0 = 0) (key : ByteArray) (w : World) :
    Calls Try.prog 82 #[p.v, .string key] w fun e w' => e = .returned (.tuple #[.int .i64 0, .bool false]) ∧ Below w.heap.size w w' := by
  have HC := Lib.hid (fun w' => ncount_any p 0 (by omega) (fun j hj => by omega) (fun _ => h0) w')
  clear h0
  go_enter Try.func82, Try.ntmps82
  go_wp2_with fail
  refine (HC.out _).mono ?_; rintro e w1 ⟨rfl, hb1⟩
  have hz := hb1.size
  have HB := Lib.hid (((Below.refl w.heap.size w).alloc (Nat.le_refl _) (.cells p.cs 112)).trans (hb1.mono (by go_size)))
  have R1 := (rowAt_below hb1 (by simp)).trans (rowAt_at w p.cs 112 _ rfl)
  clear hb1
  go_wp2_with fail
  go_loopw [18] (fun i wr => i = .int .i64 0 ∧ wr = w1) (fun i _ => 0)
  case atStart => exact ⟨rfl, by first | rfl | trivial⟩
  case round =>
    obtain ⟨rfl, rfl⟩ := hrel
    go_wp2_with fail
    go_ret2
    exact ⟨rfl, HB.out⟩
end Go.Proofs.Ytljommhbhpappaa
