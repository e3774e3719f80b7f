/-
  Layer 9 (locks): the document's table: what is free, which wish came first.
-/
import Derived.Test.YtileamjmhhifaaaGreatLd2
namespace Go.Proofs.YtileamjmhhifaaaGreat
open Go.RowKit Go.Joins Go.Sort Go.Shelf
set_option linter.unusedVariables false
set_option linter.unusedSimpArgs false

section
variable {w : World} {B tb : Nat} {rv : Value} {R : List Dr} {T : Int}
set_option maxHeartbeats 8000000 in
set_option maxRecDepth 100000 in
theorem dfree_any (h : DAt w B tb rv R T) (x : Int) (n : Nm) (m : Int) :
    Calls Tryz.prog 32 #[.pointer (some ⟨tb, 0, none⟩), .int .i64 x, .agg #[.int .i64 n.s, .string n.i], .int .i64 m] w fun e w' => ∃ b, e = .returned (.bool b) ∧ (b = true ↔ freeD R x n m) ∧ Gr w w' := by
  obtain ⟨a, c, rfl, ha⟩ := h.form
  have hb0 : Below w.heap.size w (w.alloc (.cells #[.int .i64 n.s, .string n.i] 31)) := (Below.refl _ _).alloc (Nat.le_refl _) _
  have hn0 := heap_alloc_new w (.cells #[.int .i64 n.s, .string n.i] 31)
  have H1 := Lib.hid (h.below hb0)
  have HB0 : Hid (Gr w (w.alloc (.cells #[.int .i64 n.s, .string n.i] 31))) := Lib.hid ((Gr.refl w).alloc _)
  have HN0 := Lib.hid hn0
  have HC := Lib.hid (fun a b w' => rcompatB a b w')
  have hlen := h.len
  have htb0 := (Array.getElem?_eq_some_iff.1 h.at_).1
  have hsz0 : (w.alloc (.cells #[.int .i64 n.s, .string n.i] 31)).heap.size = w.heap.size + 1 := World.size_alloc _ _
  clear h hb0 hn0
  unfold freeD
  go_enter Tryz.func32, Tryz.ntmps32
  go_wp2_with fail
  generalize hw1 : w.alloc (.cells #[.int .i64 n.s, .string n.i] 31) = w1 at *
  go_loopw [9] (fun v wr => ∃ i, i ≤ R.length ∧ v = .int .i64 i ∧ Gr w1 wr ∧ ∀ j, j < i → ∀ h : j < R.length, R[j].n = n → R[j].m ≠ 0 → R[j].x ≠ x → compatL m R[j].m = true) (fun v _ => R.length - (intOf v).toNat)
  case atStart => exact ⟨0, by omega, rfl, Gr.refl _, fun j hj => by omega⟩
  case round =>
    obtain ⟨i, hi, rfl, hbw, hno⟩ := hrel
    obtain ⟨wo, rfl⟩ : ∃ wo : World, wo = wr := ⟨_, rfl⟩
    have HD := Lib.hid (H1.out.below hbw.below)
    have c0 := HD.out.hd
    have BW := Lib.hid (HB0.out.trans hbw)
    have hnx := (hbw.below.block w.heap.size (by omega)).trans HN0.out
    have n0 : wo.cell? ⟨w.heap.size, 0, none⟩ = some (.int .i64 n.s) := (cell_of_block hnx 0).trans rfl
    have n1 : wo.cell? ⟨w.heap.size, 1, none⟩ = some (.string n.i) := (cell_of_block hnx 1).trans rfl
    have hz1 := hbw.below.size
    have hlt1 : w.heap.size < wo.heap.size := by omega
    by_cases hlt : i < R.length
    · obtain ⟨g, rfl, hBg, hgl⟩ := ha (by omega)
      have hik : (i : Int) < (R.length : Int) := by omega
      have hi0 : (0 : Int) ≤ (i : Int) := by omega
      have k0 := HD.out.cell i 0 hlt (.int .i64 R[i].n.s) rfl
      have k1 := HD.out.cell i 1 hlt (.string R[i].n.i) rfl
      have k2 := HD.out.cell i 2 hlt (.int .i64 R[i].x) rfl
      have k3 := HD.out.cell i 3 hlt (.int .i64 R[i].m) rfl
      have k4 := HD.out.cell i 4 hlt (.int .i64 R[i].w) rfl
      have k5 := HD.out.cell i 5 hlt (.int .i64 R[i].t) rfl
      simp only [Nat.add_zero] at k0
      have hn2 : (R[i].n = n → R[i].m ≠ 0 → R[i].x ≠ x → compatL m R[i].m = true) → ∀ j, j < i + 1 → ∀ h : j < R.length, R[j].n = n → R[j].m ≠ 0 → R[j].x ≠ x → compatL m R[j].m = true := fun h j hj hjl => by
        by_cases e : j = i
        · subst e; exact h
        · exact hno j (by omega) hjl
      have hnot : (R[i].n = n ∧ R[i].m ≠ 0 ∧ R[i].x ≠ x ∧ compatL m R[i].m = false) → ¬ ∀ r ∈ R, r.n = n → r.m ≠ 0 → r.x ≠ x → compatL m r.m = true := fun h hh => by
        have := hh R[i] (List.getElem_mem hlt) h.1 h.2.1 h.2.2.1
        rw [h.2.2.2] at this; cases this
      have heq := nm_eqv R[i].n n
      have HB2 : Hid (Gr w1 (wo.alloc (.cells R[i].cs 69))) := Lib.hid (hbw.alloc _)
      have BW2 : Hid (Gr w (wo.alloc (.cells R[i].cs 69))) := Lib.hid (BW.out.alloc _)
      clear hno hnx hbw
      generalize R[i] = r at *
      obtain ⟨⟨rs, ri⟩, rx, rm, rw', rt⟩ := r
      simp only [Dr.cs] at k0 k1 k2 k3 k4 k5 hn2 hnot heq HB2 BW2
      have hiff : Nm.eqB ⟨rs, ri⟩ n = true ↔ (⟨rs, ri⟩ : Nm) = n := Nm.eqB_iff
      cases e2 : Nm.eqB ⟨rs, ri⟩ n with
      | false =>
        rw [e2] at heq hiff
        have HN := Lib.hid (hn2 fun h => by have := hiff.2 h; cases this)
        clear hn2 hnot e2 hiff
        go_wp2_with fail
        exact ⟨⟨i + 1, by omega, by go_num, HB2.out, HN.out⟩, by simp [intOf]; omega⟩
      | true =>
        rw [e2] at heq hiff
        by_cases e3 : rm = 0
        · subst e3
          have HN := Lib.hid (hn2 fun _ h => absurd rfl h)
          clear hn2 hnot e2 hiff
          go_wp2_with fail
          exact ⟨⟨i + 1, by omega, by go_num, HB2.out, HN.out⟩, by simp [intOf]; omega⟩
        · have e4 : (rm != 0) = true := by simpa using e3
          by_cases e5 : rx = x
          · subst e5
            have HN := Lib.hid (hn2 fun _ _ h => absurd rfl h)
            clear hn2 hnot e2 hiff e3
            go_wp2_with fail
            exact ⟨⟨i + 1, by omega, by go_num, HB2.out, HN.out⟩, by simp [intOf]; omega⟩
          · have e6 : (rx != x) = true := by simpa using e5
            cases e7 : compatL m rm with
            | true =>
              have HN := Lib.hid (hn2 fun _ _ _ => e7)
              have HCm := HC.out m rm
              rw [e7] at HCm
              have HCc := Lib.hid HCm
              clear hn2 hnot e2 hiff e3 e5 HCm e7
              go_wp2_with fail
              with_reducible refine (HCc.out _).mono ?_; rintro e w5 ⟨rfl, hg5⟩
              have HB5 := Lib.hid (HB2.out.trans hg5)
              clear hg5
              go_wp2_with fail
              exact ⟨⟨i + 1, by omega, by go_num, HB5.out, HN.out⟩, by simp [intOf]; omega⟩
            | false =>
              have HY := Lib.hid (hnot ⟨hiff.1 rfl, e3, e5, e7⟩)
              have HCm := HC.out m rm
              rw [e7] at HCm
              have HCc := Lib.hid HCm
              clear hn2 hnot e2 hiff e3 e5 HCm e7
              go_wp2_with fail
              with_reducible refine (HCc.out _).mono ?_; rintro e w5 ⟨rfl, hg5⟩
              have HB5 := Lib.hid (BW2.out.trans hg5)
              clear hg5
              go_wp2_with fail
              go_ret
              exact ⟨false, rfl, ⟨fun h => (by cases h), fun h => absurd h HY.out⟩, HB5.out⟩
    · have hie : i = R.length := by omega
      have HN : Hid (∀ r ∈ R, r.n = n → r.m ≠ 0 → r.x ≠ x → compatL m r.m = true) := Lib.hid fun r hr => by
        obtain ⟨j, hj, rfl⟩ := List.mem_iff_getElem.1 hr
        exact hno j (by omega) hj
      subst hie
      clear hno hnx
      go_wp2_with fail
      go_ret
      exact ⟨true, rfl, ⟨fun _ => HN.out, fun _ => rfl⟩, BW.out⟩
end
end Go.Proofs.YtileamjmhhifaaaGreat
