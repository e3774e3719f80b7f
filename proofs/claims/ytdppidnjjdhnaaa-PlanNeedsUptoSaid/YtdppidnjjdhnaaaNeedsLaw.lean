/-
  Layer 20 (plan): the walk of the law PlanNeeds.
-/
import Derived.Test.YtdppidnjjdhnaaaRefNeeds2
namespace Go.Proofs.Ytdppidnjjdhnaaa
open Go.RowKit Go.Joins
set_option linter.unusedVariables false
set_option linter.unusedSimpArgs false

theorem nameC_cell {l : List (Int × ByteArray × Int)} (i : Nat) (h : i < l.length) : (nameC l)[2 * i]? = some (.int .i64 l[i].1) ∧ (nameC l)[2 * i + 1]? = some (.string l[i].2.1) := by
  induction l generalizing i with
  | nil => simp at h
  | cons x r ih =>
    cases i with
    | zero => simp [nameC]
    | succ i =>
      have h' := ih i (by simpa using h)
      have e : nameC (x :: r) = [.int .i64 x.1, .string x.2.1] ++ nameC r := rfl
      rw [e, List.getElem?_append_right (by simp; omega), List.getElem?_append_right (by simp; omega)]
      simp only [List.length_cons, List.length_nil, List.getElem_cons_succ]
      rw [show 2 * (i + 1) - (0 + 1 + 1) = 2 * i from by omega, show 2 * (i + 1) + 1 - (0 + 1 + 1) = 2 * i + 1 from by omega]
      exact h'
theorem name_cells {w : World} {b n : Nat} {ao : Option Addr} {cap : Nat} {l : List (Int × ByteArray × Int)} (h : w.ownsRow b 38 2 (.slice ao n cap) n (nameC l)) (hn : n = l.length) (i : Nat) (hi : i < l.length) : ∃ g, ao = some ⟨g, 0, none⟩ ∧
    w.cell? ⟨g, i * 2, none⟩ = some (.int .i64 l[i].1) ∧ w.cell? ⟨g, i * 2 + 1, none⟩ = some (.string l[i].2.1) := by
  obtain ⟨ao', cap', he, hg⟩ := own_slice h
  obtain ⟨g, hg⟩ := hg (by omega)
  simp only [Value.slice.injEq] at he
  rw [hg] at he
  obtain ⟨h0, h1⟩ := nameC_cell i hi
  obtain ⟨e1, -, -⟩ := he
  subst e1
  have hc := h.cells (g := g) rfl
  simp only [Addr.add_lit, Nat.zero_add] at hc
  rw [Nat.mul_comm]
  exact ⟨g, rfl, hc _ _ h0, hc _ _ h1⟩
theorem mode_cells {w : World} {b n : Nat} {ao : Option Addr} {cap : Nat} {l : List (Int × ByteArray × Int)} (h : w.ownsRow b 3 1 (.slice ao n cap) n (modeC l)) (hn : n = l.length) (i : Nat) (hi : i < l.length) : ∃ g, ao = some ⟨g, 0, none⟩ ∧
    w.cell? ⟨g, i, none⟩ = some (.int .i64 l[i].2.2) := by
  obtain ⟨ao', cap', he, hg⟩ := own_slice h
  obtain ⟨g, hg⟩ := hg (by omega)
  simp only [Value.slice.injEq] at he
  rw [hg] at he
  obtain ⟨e1, -, -⟩ := he
  subst e1
  have hc := h.cells (g := g) rfl
  simp only [Addr.add_lit, Nat.zero_add] at hc
  exact ⟨g, rfl, hc _ _ (by simp [modeC, List.getElem?_map, List.getElem?_eq_getElem hi])⟩

set_option maxHeartbeats 4000000 in
set_option maxRecDepth 100000 in
theorem walk_needs (kind st num a1 a2 err : Int) (key val next : ByteArray) (ao : Option Addr) (kn kc : Nat) (ss : List ByteArray) (w : World) (hk : StrsAt w (.slice ao kn kc) ss) (hz : ss.length ≤ 1048576)
    (n0 : -9223372036854775808 ≤ num) (n1 : num ≤ 9223372036854775807) :
    Calls Try.prog 3 #[.agg #[.int .i64 kind, .int .i64 st, .string key, .string val, .int .i64 num, .int .i64 a1, .int .i64 a2, .string next, .slice ao kn kc, .int .i64 err]] w fun e w' => e = .returned (.bool true) ∧ Below w.heap.size w w' := by
  go_enter Try.func3, Try.ntmps3
  go_wp2_with fail
  go_region
  go_wp2_with fail
  refine (awake20 _).mono ?_; rintro e w1 ⟨rfl, hb1⟩
  have hs1 := hb1.size
  simp only [heap_drew, World.size_alloc] at hs1
  have g2 : w1.heap[w.heap.size + 1]? = some (.cells #[.int .i64 kind, .int .i64 st, .string key, .string val, .int .i64 num, .int .i64 a1, .int .i64 a2] 23) := (hb1.block (w.heap.size + 1) (by simp [heap_drew])).trans (blk_new _ _ _ (by simp))
  have hbw : Below w.heap.size w w1 := (((Below.refl _ _).alloc (Nat.le_refl _) _).alloc (by simp) _).drew.trans (hb1.mono (by simp [heap_drew]; omega))
  clear hb1
  obtain ⟨c0, c1, c2, c3, c4, c5, c6⟩ := cell7 g2
  have hsv : w.heap.size + 1 < w1.heap.size := by omega
  go_wp2_with fail
  refine (needs_any kind _ _ _ _ _ st num err _ _ key next _ _ ss (hk.below hbw (Nat.le_refl _)) hz n0 n1).mono ?_; rintro e w2 ⟨v2, rfl, ho2, hb2⟩
  have hs2 := hb2.size
  have g4 : w2.heap[w.heap.size + 1]? = some (.cells #[.int .i64 kind, .int .i64 st, .string key, .string val, .int .i64 num, .int .i64 a1, .int .i64 a2] 23) := (hb2.block _ hsv).trans g2
  have hbw2 : Below w.heap.size w w2 := hbw.trans (hb2.mono (by omega))
  clear c0 c1 c2 c3 c4 c5 c6 g2 hb2
  obtain ⟨c0, c1, c2, c3, c4, c5, c6⟩ := cell7 g4
  clear g4
  go_wp2_with fail
  refine (rneeds_any kind st num _ _ err key _ next _ _ _ ss _ (hk.below hbw2 (Nat.le_refl _)) hz n0 n1 _ rfl).mono ?_; rintro e w3 ⟨v3, v4, rfl, ho3, ho4, hb3⟩
  have hbw3 : Below w.heap.size w w3 := hbw2.trans (hb3.mono (by omega))
  have ho2' := own_below ho2 hb3
  generalize needsL kind st key num next ss err = L at ho2 ho2' ho3 ho4
  clear ho2 hb3 hbw2 hbw c0 c1 c2 c3 c4 c5 c6
  obtain ⟨x2, cap2, rfl, -⟩ := own_slice ho2'
  obtain ⟨x3, cap3, rfl, -⟩ := own_slice ho3
  obtain ⟨x4, cap4, rfl, -⟩ := own_slice ho4
  have hll : L.length ≤ 9223372036854775807 := own_max ho2'
  go_wp2_with fail
  go_loopw [45] (fun i wr => ∃ k : Nat, k ≤ L.length ∧ i = .int .i64 k ∧ wr.ownsRow 0 40 3 (.slice x2 L.length cap2) L.length (needC L) ∧ wr.ownsRow 0 38 2 (.slice x3 L.length cap3) L.length (nameC L) ∧ wr.ownsRow 0 3 1 (.slice x4 L.length cap4) L.length (modeC L) ∧ Below w.heap.size w wr) (fun i _ => L.length - (intOf i).toNat)
  case atStart => exact ⟨0, by omega, rfl, ownsRow_le ho2' (Nat.zero_le _), ownsRow_le ho3 (Nat.zero_le _), ownsRow_le ho4 (Nat.zero_le _), hbw3⟩
  case round =>
    obtain ⟨k, hk, rfl, hr2, hr3, hr4, hbr⟩ := hrel
    clear ho2' ho3 ho4 hbw3
    by_cases hlt : k < L.length
    · obtain ⟨g2, rfl, e0, e1, e2⟩ := need_cells hr2 k hlt
      obtain ⟨g3, rfl, f0, f1⟩ := name_cells hr3 rfl k hlt
      obtain ⟨g4, rfl, d0⟩ := mode_cells hr4 rfl k hlt
      have hk0 : (0 : Int) ≤ (k : Int) := Int.natCast_nonneg _
      have hk1 : (k : Int) < (L.length : Int) := by omega
      go_wp2_with fail
      go_quiet (fail)
      go_wp2
      go_roundw
      case rel => exact ⟨k + 1, by omega, by go_num, hr2, hr3, hr4, below_drewN hbr _⟩
      case measure => simp [intOf]; omega
    · go_wp2
      go_ret
      exact ⟨rfl, hbr⟩
end Go.Proofs.Ytdppidnjjdhnaaa
