/-
  Layer 20 (plan): the walk of the law PlanPure.
-/
import Derived.Test.YtdppidnjjdhnaaaPlan7
import Derived.BigRegion
namespace Go.Proofs.Ytdppidnjjdhnaaa
open Go.RowKit Go.Joins
set_option linter.unusedVariables false

theorem blk_new (w : World) (o : Obj) (k : Nat) (hk : k = w.heap.size) : (w.alloc o).heap[k]? = some o := by subst hk; exact heap_alloc_new w o
theorem blk_old {w : World} {o : Obj} {k : Nat} {x : Option Obj} (hk : k < w.heap.size) (h : w.heap[k]? = x) : (w.alloc o).heap[k]? = x := (Below.heap_alloc w o k hk).trans h
theorem needC_cell {l : List (Int × ByteArray × Int)} (i : Nat) (h : i < l.length) : (needC l)[3 * i]? = some (.int .i64 l[i].1) ∧ (needC l)[3 * i + 1]? = some (.string l[i].2.1) ∧ (needC l)[3 * i + 2]? = some (.int .i64 l[i].2.2) := by
  induction l generalizing i with
  | nil => simp at h
  | cons x r ih =>
    cases i with
    | zero => simp [needC]
    | succ i =>
      have h' := ih i (by simpa using h)
      have e : needC (x :: r) = [.int .i64 x.1, .string x.2.1, .int .i64 x.2.2] ++ needC r := rfl
      rw [e, List.getElem?_append_right (by simp; omega), List.getElem?_append_right (by simp; omega), List.getElem?_append_right (by simp; omega)]
      simp only [List.length_cons, List.length_nil, List.getElem_cons_succ]
      rw [show 3 * (i + 1) - (0 + 1 + 1 + 1) = 3 * i from by omega, show 3 * (i + 1) + 1 - (0 + 1 + 1 + 1) = 3 * i + 1 from by omega, show 3 * (i + 1) + 2 - (0 + 1 + 1 + 1) = 3 * i + 2 from by omega]
      exact h'
/-- the three cells of a need of an owned list -/
theorem need_cells {w : World} {b n : Nat} {ao : Option Addr} {cap : Nat} {l : List (Int × ByteArray × Int)} (h : w.ownsRow b 40 3 (.slice ao n cap) n (needC l)) (i : Nat) (hi : i < l.length) : ∃ g, ao = some ⟨g, 0, none⟩ ∧
    w.cell? ⟨g, i * 3, none⟩ = some (.int .i64 l[i].1) ∧ w.cell? ⟨g, i * 3 + 1, none⟩ = some (.string l[i].2.1) ∧ w.cell? ⟨g, i * 3 + 2, none⟩ = some (.int .i64 l[i].2.2) := by
  have hl : n * 3 = l.length * 3 := by rw [← h.1, needC_len]
  obtain ⟨ao', cap', he, hg⟩ := own_slice h
  obtain ⟨g, hg⟩ := hg (by omega)
  simp only [Value.slice.injEq] at he
  rw [hg] at he
  obtain ⟨h0, h1, h2⟩ := needC_cell i hi
  obtain ⟨e1, -, -⟩ := he
  subst e1
  have hc := h.cells (g := g) rfl
  simp only [Addr.add_lit, Nat.zero_add] at hc
  rw [Nat.mul_comm]
  exact ⟨g, rfl, hc _ _ h0, hc _ _ h1, hc _ _ h2⟩

theorem own_max {w : World} {b s n : Nat} {e : TypeId} {v : Value} {xs : List Value} (h : w.ownsRow b e s v n xs) : n ≤ 9223372036854775807 := by
  rcases h.2 with ⟨-, h0⟩ | ⟨g, cap, cur, -, -, -, hn, hm, -, -⟩
  · omega
  · simp [maxLen] at hm; omega
theorem cell7 {w : World} {b : Nat} {v0 v1 v2 v3 v4 v5 v6 : Value} {t : TypeId} {fr : Nat × Nat} (h : w.heap[b]? = some (.cells #[v0, v1, v2, v3, v4, v5, v6] t fr)) :
    w.cell? ⟨b, 0, none⟩ = some v0 ∧ w.cell? ⟨b, 1, none⟩ = some v1 ∧ w.cell? ⟨b, 2, none⟩ = some v2 ∧ w.cell? ⟨b, 3, none⟩ = some v3 ∧ w.cell? ⟨b, 4, none⟩ = some v4 ∧ w.cell? ⟨b, 5, none⟩ = some v5 ∧ w.cell? ⟨b, 6, none⟩ = some v6 :=
  ⟨cell_of_block h 0, cell_of_block h 1, cell_of_block h 2, cell_of_block h 3, cell_of_block h 4, cell_of_block h 5, cell_of_block h 6⟩

set_option maxHeartbeats 4000000 in
set_option maxRecDepth 100000 in
theorem walk_pure (kind st num a1 a2 err k2 s2 n2 b1 b2 : Int) (key val next ky2 vl2 : ByteArray) (ao : Option Addr) (kn kc : Nat) (ss : List ByteArray) (w : World) (hk : StrsAt w (.slice ao kn kc) ss) (hz : ss.length ≤ 1048576)
    (n0 : -9223372036854775808 ≤ num) (n1 : num ≤ 9223372036854775807) :
    Calls Try.prog 4 #[.agg #[.int .i64 kind, .int .i64 st, .string key, .string val, .int .i64 num, .int .i64 a1, .int .i64 a2, .string next, .slice ao kn kc, .int .i64 err],
      .agg #[.int .i64 k2, .int .i64 s2, .string ky2, .string vl2, .int .i64 n2, .int .i64 b1, .int .i64 b2]] w fun e w' => e = .returned (.bool true) ∧ Below w.heap.size w w' := by
  go_enter Try.func4, Try.ntmps4
  go_wp2_with fail
  go_region
  go_wp2_with fail
  refine (awake20 _).mono ?_; rintro e w1 ⟨rfl, hb1⟩
  have hs1 := hb1.size
  simp only [heap_drew, World.size_alloc] at hs1
  have g1 : w1.heap[w.heap.size + 1]? = some (.cells #[.int .i64 k2, .int .i64 s2, .string ky2, .string vl2, .int .i64 n2, .int .i64 b1, .int .i64 b2] 23) := (hb1.block (w.heap.size + 1) (by simp [heap_drew])).trans (blk_old (by simp) (blk_new _ _ _ (by simp)))
  have g2 : w1.heap[w.heap.size + 1 + 1]? = some (.cells #[.int .i64 kind, .int .i64 st, .string key, .string val, .int .i64 num, .int .i64 a1, .int .i64 a2] 23) := (hb1.block (w.heap.size + 1 + 1) (by simp [heap_drew])).trans (blk_new _ _ _ (by simp))
  have hbw : Below w.heap.size w w1 := ((((Below.refl _ _).alloc (Nat.le_refl _) _).alloc (by simp) _).alloc (by simp; omega) _).drew.trans (hb1.mono (by simp [heap_drew]; try omega))
  clear hb1
  obtain ⟨c0, c1, c2, c3, c4, c5, c6⟩ := cell7 g2
  obtain ⟨-, -, -, d3, -, d5, d6⟩ := cell7 g1
  have hsw : w.heap.size + 1 + 1 < w1.heap.size := by omega
  have hsv : w.heap.size + 1 < w1.heap.size := by omega
  have hne1 : ¬ w.heap.size + 1 = w1.heap.size := by omega
  have hne2 : ¬ w1.heap.size = w.heap.size + 1 := by omega
  go_wp2_with fail

  go_region
  go_wp2_with fail
  have hz1 : Below w.heap.size w (w1.alloc (.cells #[.int .i64 kind, .int .i64 st, .string key, .string vl2, .int .i64 num, .int .i64 b1, .int .i64 b2] 23)).drew := (hbw.alloc (by omega) _).drew
  refine (needs_any kind _ _ _ _ _ st num 0 _ _ key next _ _ ss (hk.below hz1 (Nat.le_refl _)) hz n0 n1).mono ?_; rintro e w2 ⟨v2, rfl, ho2, hb2⟩
  have hs2 := hb2.size
  simp only [heap_drew, World.size_alloc] at hs2
  have g3 : w2.heap[w1.heap.size]? = some (.cells #[.int .i64 kind, .int .i64 st, .string key, .string vl2, .int .i64 num, .int .i64 b1, .int .i64 b2] 23) := (hb2.block _ (by simp [heap_drew])).trans (blk_new _ _ _ rfl)
  have g4 : w2.heap[w.heap.size + 1 + 1]? = some (.cells #[.int .i64 kind, .int .i64 st, .string key, .string val, .int .i64 num, .int .i64 a1, .int .i64 a2] 23) := (hb2.block _ (by simp [heap_drew]; omega)).trans (blk_old hsw g2)
  have hbw2 : Below w.heap.size w w2 := hz1.trans (hb2.mono (by simp [heap_drew]; omega))
  clear c0 c1 c2 c3 c4 c5 c6 d3 d5 d6 g1 g2 hb2 hz1
  obtain ⟨c0, c1, c2, c3, c4, c5, c6⟩ := cell7 g4
  obtain ⟨d0, d1, d2, d3, d4, d5, d6⟩ := cell7 g3
  clear g3 g4
  go_wp2_with fail
  refine (needs_any kind _ _ _ _ _ st num 0 _ _ key next _ _ ss (hk.below hbw2 (Nat.le_refl _)) hz n0 n1).mono ?_; rintro e w3 ⟨v3, rfl, ho3, hb3⟩
  have hbw3 : Below w.heap.size w w3 := hbw2.trans (hb3.mono (by omega))
  have ho2' := ho2.kept (w' := w3) (row := none) ⟨hb3.os, hb3.tape, hb3.output, hb3.size, fun q hq _ => hb3.block q hq⟩ (by cases v2.ownBlock <;> simp)
  generalize needsL kind st key num next ss 0 = L at ho2 ho2' ho3
  clear ho2 hb3 hbw2 hbw c0 c1 c2 c3 c4 c5 c6 d0 d1 d2 d3 d4 d5 d6
  obtain ⟨x2, cap2, rfl, -⟩ := own_slice ho2'
  obtain ⟨x3, cap3, rfl, -⟩ := own_slice ho3
  go_wp2_with fail
  have hll : L.length ≤ 9223372036854775807 := own_max ho2'
  go_loopw [51] (fun i wr => ∃ k : Nat, k ≤ L.length ∧ i = .int .i64 k ∧ wr.ownsRow 0 40 3 (.slice x2 L.length cap2) L.length (needC L) ∧ wr.ownsRow 0 40 3 (.slice x3 L.length cap3) L.length (needC L) ∧ Below w.heap.size w wr) (fun i _ => L.length - (intOf i).toNat)
  case atStart => exact ⟨0, by omega, rfl, ownsRow_le ho2' (Nat.zero_le _), ownsRow_le ho3 (Nat.zero_le _), hbw3⟩
  case round =>
    obtain ⟨k, hk, rfl, hr2, hr3, hbr⟩ := hrel
    clear ho2' ho3 hbw3
    by_cases hlt : k < L.length
    · obtain ⟨g2, rfl, e0, e1, e2⟩ := need_cells hr2 k hlt
      obtain ⟨g3, rfl, f0, f1, f2⟩ := need_cells hr3 k hlt
      have hk0 : (0 : Int) ≤ (k : Int) := Int.natCast_nonneg _
      have hk1 : (k : Int) < (L.length : Int) := by omega
      go_wp2_with fail
      go_quiet (fail)
      go_wp2
      go_roundw
      case rel => exact ⟨k + 1, by omega, by go_num, hr2, hr3, below_drewN hbr _⟩
      case measure => simp [intOf]; omega
    · go_wp2
      go_ret
      exact ⟨rfl, hbr⟩
end Go.Proofs.Ytdppidnjjdhnaaa
