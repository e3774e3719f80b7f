/-
  Layer 9 (locks): the document's table: who waits, who wants, what is free, which wish came first.
-/
import Derived.Test.YtileamjmhhifaaaGreatLd1
import Derived.Test.YtileamjmhhifaaaGreatRef09
namespace Go.Proofs.YtileamjmhhifaaaGreat
open Go.RowKit Go.Joins Go.Sort Go.Shelf
set_option linter.unusedVariables false
set_option linter.unusedSimpArgs false

def freeD (R : List Dr) (x : Int) (n : Nm) (m : Int) : Prop := ∀ r ∈ R, r.n = n → r.m ≠ 0 → r.x ≠ x → compatL m r.m = true
def wantD (R : List Dr) (n : Nm) : Prop := ∃ r ∈ R, r.n = n ∧ r.m ≠ 0 ∧ r.w ≠ 0
section
variable {w : World} {B tb : Nat} {rv : Value} {R : List Dr} {T : Int}
set_option maxHeartbeats 8000000 in
set_option maxRecDepth 100000 in
theorem dwait_any (h : DAt w B tb rv R T) (x : Int) :
    Calls Tryz.prog 13 #[.pointer (some ⟨tb, 0, none⟩), .int .i64 x] w fun e w' => ∃ b, e = .returned (.bool b) ∧ (b = true ↔ ∃ r ∈ R, r.x = x ∧ r.w ≠ 0) ∧ w = w' := by
  obtain ⟨a, c, rfl, ha⟩ := h.form
  have HD := Lib.hid h
  have c0 := h.hd
  have hlen := h.len
  clear h
  go_enter Tryz.func13, Tryz.ntmps13
  go_wp2_with fail
  go_loopw [5] (fun v wr => ∃ i, i ≤ R.length ∧ v = .int .i64 i ∧ wr = w ∧ ∀ j, j < i → ∀ h : j < R.length, ¬ (R[j].x = x ∧ R[j].w ≠ 0)) (fun v _ => R.length - (intOf v).toNat)
  case atStart => exact ⟨0, by omega, rfl, rfl, fun j hj => by omega⟩
  case round =>
    obtain ⟨i, hi, rfl, rfl, hno⟩ := hrel
    by_cases hlt : i < R.length
    · obtain ⟨g, rfl, hBg, -⟩ := ha (by omega)
      have hik : (i : Int) < (R.length : Int) := by omega
      have hi0 : (0 : Int) ≤ (i : Int) := by omega
      have k2 := HD.out.cell i 2 hlt (.int .i64 R[i].x) rfl
      have k4 := HD.out.cell i 4 hlt (.int .i64 R[i].w) rfl
      have hyes : R[i].x = x ∧ R[i].w ≠ 0 → ∃ r ∈ R, r.x = x ∧ r.w ≠ 0 := fun h => ⟨R[i], List.getElem_mem hlt, h⟩
      have hn2 : ¬ (R[i].x = x ∧ R[i].w ≠ 0) → ∀ j, j < i + 1 → ∀ h : j < R.length, ¬ (R[j].x = x ∧ R[j].w ≠ 0) := fun h j hj hjl => by
        by_cases e : j = i
        · subst e; exact h
        · exact hno j (by omega) hjl
      clear hno
      generalize R[i] = r at *
      obtain ⟨⟨rs, ri⟩, rx, rm, rw', rt⟩ := r
      simp only at k2 k4 hyes hn2
      by_cases e1 : rx = x
      · subst e1
        by_cases e2 : rw' = 0
        · subst e2
          have HN := Lib.hid (hn2 (by simp))
          clear hn2 hyes
          go_wp2_with fail
          exact ⟨⟨i + 1, by omega, by go_num, by first | rfl | trivial, HN.out⟩, by simp [intOf]; omega⟩
        · have e3 : (rw' != 0) = true := by simpa using e2
          have HY := Lib.hid (hyes ⟨rfl, e2⟩)
          clear hn2 hyes e2
          go_wp2_with fail
          go_ret
          exact ⟨true, rfl, ⟨fun _ => HY.out, fun _ => rfl⟩, rfl⟩
      · have e3 : (rx == x) = false := by simpa using e1
        have HN := Lib.hid (hn2 fun h => e1 h.1)
        clear hn2 hyes e1
        go_wp2_with fail
        exact ⟨⟨i + 1, by omega, by go_num, by first | rfl | trivial, HN.out⟩, by simp [intOf]; omega⟩
    · have hie : i = R.length := by omega
      have HN : Hid (¬ ∃ r ∈ R, r.x = x ∧ r.w ≠ 0) := Lib.hid fun ⟨r, hr, h⟩ => by
        obtain ⟨j, hj, rfl⟩ := List.mem_iff_getElem.1 hr
        exact hno j (by omega) hj h
      subst hie
      clear hno
      go_wp2_with fail
      go_ret
      exact ⟨false, rfl, ⟨fun h => (by cases h), fun h => absurd h HN.out⟩, rfl⟩
set_option maxHeartbeats 8000000 in
set_option maxRecDepth 100000 in
theorem dwant_any (h : DAt w B tb rv R T) (n : Nm) :
    Calls Tryz.prog 34 #[.pointer (some ⟨tb, 0, none⟩), .agg #[.int .i64 n.s, .string n.i]] w fun e w' => ∃ b, e = .returned (.bool b) ∧ (b = true ↔ wantD R n) ∧ Gr w w' := by
  obtain ⟨a, c, rfl, ha⟩ := h.form
  have htb := (Array.getElem?_eq_some_iff.1 h.at_).1
  have hb0 : Below w.heap.size w (w.alloc (.cells #[.int .i64 n.s, .string n.i] 31)) := (Below.refl _ _).alloc (Nat.le_refl _) _
  have hn0 := heap_alloc_new w (.cells #[.int .i64 n.s, .string n.i] 31)
  have H1 := Lib.hid (h.below hb0)
  have HB0 : Hid (Gr w (w.alloc (.cells #[.int .i64 n.s, .string n.i] 31))) := Lib.hid ((Gr.refl w).alloc _)
  have HN0 := Lib.hid hn0
  have hlen := h.len
  clear h hb0 hn0
  unfold wantD
  go_enter Tryz.func34, Tryz.ntmps34
  go_wp2_with fail
  generalize hw1 : w.alloc (.cells #[.int .i64 n.s, .string n.i] 31) = w1 at *
  go_loopw [5] (fun v wr => ∃ i, i ≤ R.length ∧ v = .int .i64 i ∧ Gr w1 wr ∧ ∀ j, j < i → ∀ h : j < R.length, ¬ (R[j].n = n ∧ R[j].m ≠ 0 ∧ R[j].w ≠ 0)) (fun v _ => R.length - (intOf v).toNat)
  case atStart => exact ⟨0, by omega, rfl, Gr.refl _, fun j hj => by omega⟩
  case round =>
    obtain ⟨i, hi, rfl, hbw, hno⟩ := hrel
    obtain ⟨wo, rfl⟩ : ∃ wo : World, wo = wr := ⟨_, rfl⟩
    have HD := Lib.hid (H1.out.below hbw.below)
    have c0 := HD.out.hd
    have BW := Lib.hid (HB0.out.trans hbw)
    have hnx := (hbw.below.block w.heap.size (by rw [← hw1]; simp)).trans HN0.out
    have n0 : wo.cell? ⟨w.heap.size, 0, none⟩ = some (.int .i64 n.s) := (cell_of_block hnx 0).trans rfl
    have n1 : wo.cell? ⟨w.heap.size, 1, none⟩ = some (.string n.i) := (cell_of_block hnx 1).trans rfl
    by_cases hlt : i < R.length
    · obtain ⟨g, rfl, hBg, -⟩ := ha (by omega)
      have hik : (i : Int) < (R.length : Int) := by omega
      have hi0 : (0 : Int) ≤ (i : Int) := by omega
      have k0 := HD.out.cell i 0 hlt (.int .i64 R[i].n.s) rfl
      have k1 := HD.out.cell i 1 hlt (.string R[i].n.i) rfl
      have k3 := HD.out.cell i 3 hlt (.int .i64 R[i].m) rfl
      have k4 := HD.out.cell i 4 hlt (.int .i64 R[i].w) rfl
      simp only [Nat.add_zero] at k0
      have hyes : R[i].n = n ∧ R[i].m ≠ 0 ∧ R[i].w ≠ 0 → ∃ r ∈ R, r.n = n ∧ r.m ≠ 0 ∧ r.w ≠ 0 := fun h => ⟨R[i], List.getElem_mem hlt, h⟩
      have hn2 : ¬ (R[i].n = n ∧ R[i].m ≠ 0 ∧ R[i].w ≠ 0) → ∀ j, j < i + 1 → ∀ h : j < R.length, ¬ (R[j].n = n ∧ R[j].m ≠ 0 ∧ R[j].w ≠ 0) := fun h j hj hjl => by
        by_cases e : j = i
        · subst e; exact h
        · exact hno j (by omega) hjl
      have heq := nm_eqv R[i].n n
      have HBW := Lib.hid hbw
      clear hno hnx hbw
      generalize R[i] = r at *
      obtain ⟨⟨rs, ri⟩, rx, rm, rw', rt⟩ := r
      simp only at k0 k1 k3 k4 hyes hn2 heq
      have hiff : Nm.eqB ⟨rs, ri⟩ n = true ↔ (⟨rs, ri⟩ : Nm) = n := Nm.eqB_iff
      cases e2 : Nm.eqB ⟨rs, ri⟩ n with
      | false =>
        rw [e2] at heq hiff
        have HN := Lib.hid (hn2 fun h => by have := hiff.2 h.1; cases this)
        clear hn2 hyes e2 hiff
        go_wp2_with fail
        go_quiet (fail)
        go_wp2_with fail
        exact ⟨⟨i + 1, by omega, by go_num, HBW.out.drewN _, HN.out⟩, by simp [intOf]; omega⟩
      | true =>
        rw [e2] at heq hiff
        by_cases e3 : rm = 0
        · subst e3
          have HN := Lib.hid (hn2 (by simp))
          clear hn2 hyes e2 hiff
          go_wp2_with fail
          go_quiet (fail)
          go_wp2_with fail
          exact ⟨⟨i + 1, by omega, by go_num, HBW.out.drewN _, HN.out⟩, by simp [intOf]; omega⟩
        · have e4 : (rm != 0) = true := by simpa using e3
          by_cases e5 : rw' = 0
          · subst e5
            have HN := Lib.hid (hn2 (by simp))
            clear hn2 hyes e2 hiff e3
            go_wp2_with fail
            go_quiet (fail)
            go_wp2_with fail
            exact ⟨⟨i + 1, by omega, by go_num, HBW.out.drewN _, HN.out⟩, by simp [intOf]; omega⟩
          · have e6 : (rw' != 0) = true := by simpa using e5
            have HY := Lib.hid (hyes ⟨hiff.1 rfl, e3, e5⟩)
            clear hn2 hyes e2 hiff e3 e5
            go_wp2_with fail
            go_quiet (fail)
            go_wp2_with fail
            go_ret
            exact ⟨true, rfl, ⟨fun _ => HY.out, fun _ => rfl⟩, BW.out.drewN _⟩
    · have hie : i = R.length := by omega
      have HN : Hid (¬ ∃ r ∈ R, r.n = n ∧ r.m ≠ 0 ∧ r.w ≠ 0) := Lib.hid fun ⟨r, hr, h⟩ => by
        obtain ⟨j, hj, rfl⟩ := List.mem_iff_getElem.1 hr
        exact hno j (by omega) hj h
      subst hie
      clear hno hnx
      go_wp2_with fail
      go_ret
      exact ⟨false, rfl, ⟨fun h => (by cases h), fun h => absurd h HN.out⟩, BW.out⟩
end
end Go.Proofs.YtileamjmhhifaaaGreat
