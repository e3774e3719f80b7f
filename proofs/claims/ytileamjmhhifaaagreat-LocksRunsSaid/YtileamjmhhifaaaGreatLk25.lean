/-
  Layer 9 (locks): Mode and Waiting only draw and make new blocks.
-/
import Derived.Test.YtileamjmhhifaaaGreatPkD
import Derived.Test.YtileamjmhhifaaaGreatFrame09b
namespace Go.Proofs.YtileamjmhhifaaaGreat
open Go.RowKit Go.Joins Go.Sort
set_option linter.unusedVariables false
set_option linter.unusedSimpArgs false

section
variable {w w' : World} {B t nb wb : Nat} {turn : Int} {M : List (Nm × Value)} {E : Nm → Ent} {Wt : List (Int × Value)}
set_option maxHeartbeats 1000000 in
set_option maxRecDepth 100000 in
theorem mode_gr (h : TabAt w B t nb wb turn M E Wt) (x : Int) (n : Nm) :
    Calls Tryz.prog 10 #[.pointer (some ⟨t, 0, none⟩), .int .i64 x, n.v] w fun e w' => e = .returned (.int .i64 (modeL x (qOf M E n).H)) ∧ Gr w w' := by
  have mixed : Tryz.prog.follows Departure.mixedOrders = true := by kernel_rfl
  obtain ⟨c0, c1, c2⟩ := h.cells
  have htl := h.wait.lt.1
  have hnl := h.names.lt
  have hlk := h.look n
  have hb0 : Below w.heap.size w (w.alloc (.cells #[.int .i64 n.s, .string n.i] 31)) := (Below.refl _ _).alloc (Nat.le_refl _) _
  have HB0 := Lib.hid hb0
  have HG0 : Hid (Gr w (w.alloc (.cells #[.int .i64 n.s, .string n.i] 31))) := Lib.hid ((Gr.refl w).alloc _)
  have HT := Lib.hid h
  have hl2 : ∀ W : World, W.heap[nb]? = w.heap[nb]? → (Instr.lookup 49 (.map (some nb)) (.agg #[.int .i64 n.s, .string n.i]) false).run Tryz.prog W = .ok (if n ∈ keysM M then ptrQ (E n).qb else .pointer none) W := hlk
  have HL := Lib.hid hl2
  clear hlk hl2 h hb0
  show Calls _ _ #[.pointer (some ⟨t, 0, none⟩), .int .i64 x, .agg #[.int .i64 n.s, .string n.i]] _ _
  have hg0 := fun k os => cell_grown (w := w.alloc (.cells #[.int .i64 n.s, .string n.i] 31)) (a := ⟨t, 0, none⟩) (by rw [World.size_alloc]; exact Nat.lt_succ_of_lt htl) ((HB0.out.cell (p := ⟨t, 0, none⟩) htl).trans c0) k os
  have hg1 := fun k os => cell_grown (w := w.alloc (.cells #[.int .i64 n.s, .string n.i] 31)) (a := ⟨w.heap.size, 0, none⟩) (by simp) (World.cell?_alloc_mark w _ _ (0, 0) 0) k os
  have hg2 := fun k os => cell_grown (w := w.alloc (.cells #[.int .i64 n.s, .string n.i] 31)) (a := ⟨w.heap.size, 1, none⟩) (by simp) (World.cell?_alloc_mark w _ _ (0, 0) 1) k os
  by_cases hn : n ∈ keysM M
  · have hl3 : ∀ k os, (Instr.lookup 49 (.map (some nb)) (.agg #[.int .i64 n.s, .string n.i]) false).run Tryz.prog (grow ((w.alloc (.cells #[.int .i64 n.s, .string n.i] 31)).drewN k) os) = .ok (.pointer (some ⟨(E n).qb, 0, none⟩)) (grow ((w.alloc (.cells #[.int .i64 n.s, .string n.i] 31)).drewN k) os) := fun k os => by
      rw [HL.out _ (((Gr.below ⟨k, os, rfl⟩).block nb (by rw [World.size_alloc]; omega)).trans (HB0.out.block nb hnl)), if_pos hn]; rfl
    rw [qOf_in hn]
    have HQ := Lib.hid (HT.out.qat n hn)
    have HAt := Lib.hid (fun W (hW : Below w.heap.size w W) => at_any ((HT.out.qat n hn).below hW) x)
    have HN := Lib.hid hn
    have HLo := HL
    clear hn HL
    go_enter Tryz.func10, Tryz.ntmps10
    go_wp2_with fail
    refine wp_region_quiet_grown (by assumption) (by kernel_rfl) ?_
    iterate 11 (with_reducible refine wpQuiet_step (fun K hK => ?_); go_simp; with_reducible refine hK _ ?_; clear hK K)
    with_reducible refine wpQuiet_nil ?_
    with_reducible intro _ hw'
    obtain ⟨⟨nq, osq⟩, hw''⟩ := hw'
    subst hw''
    have hbq := (Gr.below (w := w.alloc (.cells #[.int .i64 n.s, .string n.i] 31)) ⟨nq, osq, rfl⟩)
    have hs0 := hbq.size
    rw [World.size_alloc] at hs0
    have g0 := hg0 nq osq
    have g1 := hg1 nq osq
    have g2 := hg2 nq osq
    have HB1 := Lib.hid (HB0.out.trans (hbq.mono (by rw [World.size_alloc]; omega)))
    have HG1 := Lib.hid (HG0.out.trans ⟨nq, osq, rfl⟩)
    have hl4 := hl3 nq osq
    have HL3 := Lib.hid hl3
    clear hg0 hg1 hg2 hl3 hbq
    generalize grow ((w.alloc (.cells #[.int .i64 n.s, .string n.i] 31)).drewN nq) osq = W1 at *
    have hg0 := fun k os => cell_grown (w := W1) (a := ⟨t, 0, none⟩) (by show t < _; omega) g0 k os
    have hg1 := fun k os => cell_grown (w := W1) (a := ⟨w.heap.size, 0, none⟩) (by show w.heap.size < _; omega) g1 k os
    have hg2 := fun k os => cell_grown (w := W1) (a := ⟨w.heap.size, 1, none⟩) (by show w.heap.size < _; omega) g2 k os
    have hl5 : ∀ k os, (Instr.lookup 49 (.map (some nb)) (.agg #[.int .i64 n.s, .string n.i]) false).run Tryz.prog (grow (W1.drewN k) os) = .ok (.pointer (some ⟨(E n).qb, 0, none⟩)) (grow (W1.drewN k) os) := fun k os => by
      rw [HLo.out _ (((Gr.below ⟨k, os, rfl⟩).block nb (by omega)).trans (HB1.out.block nb hnl)), if_pos HN.out]; rfl
    clear g0 g1 g2 hl4
    go_wp2_with fail
    refine wp_region_quiet_grown (by assumption) (by kernel_rfl) ?_
    iterate 7 (with_reducible refine wpQuiet_step (fun K hK => ?_); go_simp; with_reducible refine hK _ ?_; clear hK K)
    with_reducible refine wpQuiet_nil ?_
    with_reducible intro _ hw'
    obtain ⟨⟨nr, osr⟩, hw''⟩ := hw'
    subst hw''
    have HB2 := Lib.hid (HB1.out.trans ((Gr.below (w := W1) ⟨nr, osr, rfl⟩).mono (by omega)))
    have HG2 := Lib.hid (HG1.out.trans ⟨nr, osr, rfl⟩)
    clear hg0 hg1 hg2 hl5
    generalize grow (W1.drewN nr) osr = W2 at *
    go_wp2_with fail
    refine (HAt.out W2 HB2.out).mono ?_; rintro e W3 ⟨rfl, hgr⟩
    have HB3 := Lib.hid (HB2.out.trans (hgr.below.mono HB2.out.size))
    have HG3 := Lib.hid (HG2.out.trans hgr)
    have HQ3 := Lib.hid (HQ.out.below HB3.out)
    clear hgr
    rcases atL_cases x (E n).Q.H with ⟨he, -⟩ | ⟨i, hi, he, -, -⟩
    · have HM := Lib.hid (modeL_none he)
      rw [he]
      go_wp2_with fail
      go_ret
      exact ⟨by rw [HM.out]; rfl, HG3.out⟩
    · have HM := Lib.hid (modeL_some he hi)
      rw [he]
      obtain ⟨a, cap, hv, hcap, hmx, ha⟩ := own_cap HQ3.out.held
      obtain ⟨gb, rfl, hgb, hgl⟩ := ha.resolve_left (by omega)
      have hrow := HQ3.out.held
      rw [hv] at hrow
      have c3 := (hd_cells hrow i hi).2.1
      have c4 := HQ3.out.cell0
      rw [hv] at c4
      have hc1 : (0 : Int) ≤ (i : Int) := Int.natCast_nonneg _
      have hc2 : (i : Int) < ((E n).Q.H.length : Int) := by omega
      clear he hv hcap hmx hrow hgb
      generalize (E n).Q.H[i] = hd at *
      go_wp2_with fail
      go_ret
      exact ⟨by rw [HM.out]; rfl, HG3.out⟩
  · have hl3 : ∀ k os, (Instr.lookup 49 (.map (some nb)) (.agg #[.int .i64 n.s, .string n.i]) false).run Tryz.prog (grow ((w.alloc (.cells #[.int .i64 n.s, .string n.i] 31)).drewN k) os) = .ok (.pointer none) (grow ((w.alloc (.cells #[.int .i64 n.s, .string n.i] 31)).drewN k) os) := fun k os => by
      rw [HL.out _ (((Gr.below ⟨k, os, rfl⟩).block nb (by rw [World.size_alloc]; omega)).trans (HB0.out.block nb hnl)), if_neg hn]
    rw [qOf_out hn]
    have hm : modeL x ([] : List Hd) = 0 := rfl
    clear hn HL
    go_enter Tryz.func10, Tryz.ntmps10
    go_wp2_with fail
    refine wp_region_quiet_grown (by assumption) (by kernel_rfl) ?_
    iterate 11 (with_reducible refine wpQuiet_step (fun K hK => ?_); go_simp; with_reducible refine hK _ ?_; clear hK K)
    with_reducible refine wpQuiet_nil ?_
    with_reducible intro _ hw'
    obtain ⟨⟨nq, osq⟩, hw''⟩ := hw'
    subst hw''
    have hbq := (Gr.below (w := w.alloc (.cells #[.int .i64 n.s, .string n.i] 31)) ⟨nq, osq, rfl⟩)
    have HB1 := Lib.hid (HB0.out.trans (hbq.mono (by rw [World.size_alloc]; omega)))
    have HG1 := Lib.hid (HG0.out.trans ⟨nq, osq, rfl⟩)
    clear hg0 hg1 hg2 hl3 hbq
    go_wp2_with fail
    go_ret
    exact ⟨by rw [hm]; rfl, HG1.out⟩
set_option maxHeartbeats 1000000 in
set_option maxRecDepth 100000 in
theorem waiting_gr (h : TabAt w B t nb wb turn M E Wt) (x : Int) :
    Calls Tryz.prog 12 #[.pointer (some ⟨t, 0, none⟩), .int .i64 x] w fun e w' => e = .returned (.bool (decide (x ∈ keysM Wt))) ∧ Gr w w' := by
  obtain ⟨c0, c1, c2⟩ := h.cells
  obtain ⟨n, hl⟩ := h.lookW x
  have hlw := hl w rfl
  clear hl
  go_enter Tryz.func12, Tryz.ntmps12
  go_wp2_with fail
  go_ret
  exact ⟨rfl, (Gr.refl _).alloc _⟩
end
section
variable {w w' : World} {B t : Nat} {O : Nat → Prop} {S : LS} {N : Nat}
theorem lt_waitingG (h : LT w B t O S N) (x : Int) : Calls Tryz.prog 12 #[.pointer (some ⟨t, 0, none⟩), .int .i64 x] w fun e w' => e = .returned (.bool (S.wt x)) ∧ Gr w w' := by
  obtain ⟨nb, wb, M, E, Wt, h1, h2, h3, h4, h5, ho, h6⟩ := h
  refine (waiting_gr h1 x).mono ?_
  rintro e w' ⟨rfl, hb⟩
  refine ⟨?_, hb⟩
  have e : decide (x ∈ keysM Wt) = S.wt x := by
    cases hq : S.wt x with
    | true => exact decide_eq_true ((h3 x).2 hq)
    | false => exact decide_eq_false fun hh => by rw [(h3 x).1 hh] at hq; cases hq
  rw [e]
theorem lt_modeG (h : LT w B t O S N) (x : Int) (n : Nm) : Calls Tryz.prog 10 #[.pointer (some ⟨t, 0, none⟩), .int .i64 x, .agg #[.int .i64 n.s, .string n.i]] w fun e w' => e = .returned (.int .i64 (modeL x (S.q n).H)) ∧ Gr w w' := by
  obtain ⟨nb, wb, M, E, Wt, h1, h2, h3, h4, h5, ho, h6⟩ := h
  rw [← h2 n]
  exact mode_gr h1 x n
end
end Go.Proofs.YtileamjmhhifaaaGreat
