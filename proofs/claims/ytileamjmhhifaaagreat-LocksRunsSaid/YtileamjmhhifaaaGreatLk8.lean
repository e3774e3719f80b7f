/-
  Layer 9 (locks): New and Mode.
-/
import Derived.Test.YtileamjmhhifaaaGreatLk7
namespace Go.Proofs.YtileamjmhhifaaaGreat
open Go.RowKit Go.Joins Go.Sort
set_option linter.unusedVariables false
set_option linter.unusedSimpArgs false

theorem atL_cases (x : Int) (H : List Hd) : (atL x H 0 = -1 ∧ ∀ h ∈ H, h.x ≠ x) ∨ ∃ i, ∃ hi : i < H.length, atL x H 0 = (i : Int) ∧ H[i].x = x ∧ ∀ j (hj : j < i), H[j].x ≠ x := by
  rw [← idxP_at]
  rcases idxP_cases (fun h => h.x == x) H with ⟨h1, h2⟩ | ⟨i, h1, h2, h3, h4⟩
  · exact .inl ⟨h1, fun h hh => by simpa using h2 h hh⟩
  · exact .inr ⟨i, h1, h2, by simpa using h4 h1, fun j hj => by simpa using h3 j hj (by omega)⟩
/-- what a transaction has -/
def modeL (x : Int) (H : List Hd) : Int := if 0 ≤ atL x H 0 then (H.getD (atL x H 0).toNat default).m else 0
theorem modeL_none {x : Int} {H : List Hd} (h : atL x H 0 = -1) : modeL x H = 0 := by unfold modeL; rw [h]; rfl
theorem modeL_some {x : Int} {H : List Hd} {i : Nat} (h : atL x H 0 = (i : Int)) (hi : i < H.length) : modeL x H = H[i].m := by
  unfold modeL
  rw [h, if_pos (by omega), Int.toNat_natCast, List.getD_eq_getElem?_getD, List.getElem?_eq_getElem hi]; rfl
theorem qOf_in {M : List (Nm × Value)} {E : Nm → Ent} {n : Nm} (h : n ∈ keysM M) : qOf M E n = (E n).Q := if_pos h
theorem qOf_out {M : List (Nm × Value)} {E : Nm → Ent} {n : Nm} (h : n ∉ keysM M) : qOf M E n = ⟨[], []⟩ := if_neg h
theorem run_newT1 (w : World) : (Instr.makeMap 49 none).run Tryz.prog w = .ok (.map (some w.heap.size)) (w.alloc (.map #[] 0)) := by kernel_rfl
theorem run_newT2 (w : World) : (Instr.makeMap 50 none).run Tryz.prog w = .ok (.map (some w.heap.size)) (w.alloc (.map #[] 0)) := by kernel_rfl
theorem kmap_nil {K : Type} (kv : K → Value) {w : World} {b : Nat} (h : w.heap[b]? = some (.map #[] 0)) : KMap kv w b [] :=
  ⟨#[], 0, h, rfl, ⟨by simp, by simp, by simp⟩⟩

set_option maxHeartbeats 1000000 in
set_option maxRecDepth 100000 in
theorem new_any (w : World) :
    Calls Tryz.prog 5 #[] w fun e w' => e = .returned (.pointer (some ⟨w.heap.size + 2, 0, none⟩)) ∧ TabAt w' w.heap.size (w.heap.size + 2) w.heap.size (w.heap.size + 1) 0 [] (fun _ => default) [] ∧ Below w.heap.size w w' := by
  have h1 := run_newT1 w
  have h2 := run_newT2 (w.alloc (.map #[] 0))
  rw [World.size_alloc] at h2
  go_enter Tryz.func5, Tryz.ntmps5
  go_wp2_with fail
  go_ret
  have e := heap_alloc_new ((w.alloc (.map #[] 0)).alloc (.map #[] 0)) (.cells #[.map (some w.heap.size), .map (some (w.heap.size + 1)), .int .i64 0] 52)
  rw [World.size_alloc, World.size_alloc] at e
  have b1 : Below w.heap.size w (w.alloc (.map #[] 0)) := (Below.refl _ _).alloc (Nat.le_refl _) _
  have b2 : Below (w.alloc (.map #[] 0)).heap.size (w.alloc (.map #[] 0)) ((w.alloc (.map #[] 0)).alloc (.map #[] 0)) := (Below.refl _ _).alloc (Nat.le_refl _) _
  have b3 : Below ((w.alloc (.map #[] 0)).alloc (.map #[] 0)).heap.size ((w.alloc (.map #[] 0)).alloc (.map #[] 0)) (((w.alloc (.map #[] 0)).alloc (.map #[] 0)).alloc (.cells #[.map (some w.heap.size), .map (some (w.heap.size + 1)), .int .i64 0] 52)) := (Below.refl _ _).alloc (Nat.le_refl _) _
  have m1 : (((w.alloc (.map #[] 0)).alloc (.map #[] 0)).alloc (.cells #[.map (some w.heap.size), .map (some (w.heap.size + 1)), .int .i64 0] 52)).heap[w.heap.size]? = some (.map #[] 0) := (b3.block _ (by rw [World.size_alloc, World.size_alloc]; omega)).trans ((b2.block _ (by rw [World.size_alloc]; omega)).trans (heap_alloc_new w _))
  have m2 : (((w.alloc (.map #[] 0)).alloc (.map #[] 0)).alloc (.cells #[.map (some w.heap.size), .map (some (w.heap.size + 1)), .int .i64 0] 52)).heap[w.heap.size + 1]? = some (.map #[] 0) := by
    refine (b3.block _ (by simp)).trans ?_
    have := heap_alloc_new (w.alloc (.map #[] 0)) (.map #[] 0)
    rwa [World.size_alloc] at this
  exact ⟨rfl, ⟨⟨e, kmap_nil _ m2⟩, kmap_nil _ m1, fun x hx => (by cases hx), fun n hn => (by cases hn), fun n hn => (by cases hn), fun x hx => (by cases hx), by omega, by omega, by omega, by omega⟩, b1.trans ((b2.mono (by simp)).trans (b3.mono (by simp; omega)))⟩

section
variable {w w' : World} {B t nb wb : Nat} {turn : Int} {M : List (Nm × Value)} {E : Nm → Ent} {Wt : List (Int × Value)}
set_option maxHeartbeats 1000000 in
set_option maxRecDepth 100000 in
theorem mode_any (h : TabAt w B t nb wb turn M E Wt) (x : Int) (n : Nm) :
    Calls Tryz.prog 10 #[.pointer (some ⟨t, 0, none⟩), .int .i64 x, n.v] w fun e w' => e = .returned (.int .i64 (modeL x (qOf M E n).H)) ∧ Below w.heap.size w w' := by
  have mixed : Tryz.prog.follows Departure.mixedOrders = true := by kernel_rfl
  obtain ⟨c0, c1, c2⟩ := h.cells
  have htl := h.wait.lt.1
  have hnl := h.names.lt
  have hlk := h.look n
  have hb0 : Below w.heap.size w (w.alloc (.cells #[.int .i64 n.s, .string n.i] 31)) := (Below.refl _ _).alloc (Nat.le_refl _) _
  have HB0 := Lib.hid hb0
  have HT := Lib.hid h
  have hl2 : ∀ W : World, W.heap[nb]? = w.heap[nb]? → (Instr.lookup 49 (.map (some nb)) (.agg #[.int .i64 n.s, .string n.i]) false).run Tryz.prog W = .ok (if n ∈ keysM M then ptrQ (E n).qb else .pointer none) W := hlk
  have HL := Lib.hid hl2
  clear hlk hl2 h hb0
  show Calls _ _ #[.pointer (some ⟨t, 0, none⟩), .int .i64 x, .agg #[.int .i64 n.s, .string n.i]] _ _
  have hg0 := fun k os => cell_grown (w := w.alloc (.cells #[.int .i64 n.s, .string n.i] 31)) (a := ⟨t, 0, none⟩) (by rw [World.size_alloc]; exact Nat.lt_succ_of_lt htl) ((HB0.out.cell (p := ⟨t, 0, none⟩) htl).trans c0) k os
  have hg1 := fun k os => cell_grown (w := w.alloc (.cells #[.int .i64 n.s, .string n.i] 31)) (a := ⟨w.heap.size, 0, none⟩) (by simp) (World.cell?_alloc_mark w _ _ (0, 0) 0) k os
  have hg2 := fun k os => cell_grown (w := w.alloc (.cells #[.int .i64 n.s, .string n.i] 31)) (a := ⟨w.heap.size, 1, none⟩) (by simp) (World.cell?_alloc_mark w _ _ (0, 0) 1) k os
  by_cases hn : n ∈ keysM M
  · have hl3 : ∀ k os, (Instr.lookup 49 (.map (some nb)) (.agg #[.int .i64 n.s, .string n.i]) false).run Tryz.prog (grow ((w.alloc (.cells #[.int .i64 n.s, .string n.i] 31)).drewN k) os) = .ok (.pointer (some ⟨(E n).qb, 0, none⟩)) (grow ((w.alloc (.cells #[.int .i64 n.s, .string n.i] 31)).drewN k) os) := fun k os => by
      rw [HL.out _ (((Gr.below ⟨k, os, rfl⟩).block nb (by rw [World.size_alloc]; omega)).trans (HB0.out.block nb hnl)), if_pos hn]; rfl
    rw [qOf_in hn]
    have HQ := Lib.hid (HT.out.qat n hn)
    have HAt := Lib.hid (fun W (hW : Below w.heap.size w W) => at_any ((HT.out.qat n hn).below hW) x)
    have HN := Lib.hid hn
    have HLo := HL
    clear hn HL
    go_enter Tryz.func10, Tryz.ntmps10
    go_wp2_with fail
    refine wp_region_quiet_grown (by assumption) (by kernel_rfl) ?_
    iterate 11 (with_reducible refine wpQuiet_step (fun K hK => ?_); go_simp; with_reducible refine hK _ ?_; clear hK K)
    with_reducible refine wpQuiet_nil ?_
    with_reducible intro _ hw'
    obtain ⟨⟨nq, osq⟩, hw''⟩ := hw'
    subst hw''
    have hbq := (Gr.below (w := w.alloc (.cells #[.int .i64 n.s, .string n.i] 31)) ⟨nq, osq, rfl⟩)
    have hs0 := hbq.size
    rw [World.size_alloc] at hs0
    have g0 := hg0 nq osq
    have g1 := hg1 nq osq
    have g2 := hg2 nq osq
    have HB1 := Lib.hid (HB0.out.trans (hbq.mono (by rw [World.size_alloc]; omega)))
    have hl4 := hl3 nq osq
    have HL3 := Lib.hid hl3
    clear hg0 hg1 hg2 hl3 hbq
    generalize grow ((w.alloc (.cells #[.int .i64 n.s, .string n.i] 31)).drewN nq) osq = W1 at *
    have hg0 := fun k os => cell_grown (w := W1) (a := ⟨t, 0, none⟩) (by show t < _; omega) g0 k os
    have hg1 := fun k os => cell_grown (w := W1) (a := ⟨w.heap.size, 0, none⟩) (by show w.heap.size < _; omega) g1 k os
    have hg2 := fun k os => cell_grown (w := W1) (a := ⟨w.heap.size, 1, none⟩) (by show w.heap.size < _; omega) g2 k os
    have hl5 : ∀ k os, (Instr.lookup 49 (.map (some nb)) (.agg #[.int .i64 n.s, .string n.i]) false).run Tryz.prog (grow (W1.drewN k) os) = .ok (.pointer (some ⟨(E n).qb, 0, none⟩)) (grow (W1.drewN k) os) := fun k os => by
      rw [HLo.out _ (((Gr.below ⟨k, os, rfl⟩).block nb (by omega)).trans (HB1.out.block nb hnl)), if_pos HN.out]; rfl
    clear g0 g1 g2 hl4
    go_wp2_with fail
    refine wp_region_quiet_grown (by assumption) (by kernel_rfl) ?_
    iterate 7 (with_reducible refine wpQuiet_step (fun K hK => ?_); go_simp; with_reducible refine hK _ ?_; clear hK K)
    with_reducible refine wpQuiet_nil ?_
    with_reducible intro _ hw'
    obtain ⟨⟨nr, osr⟩, hw''⟩ := hw'
    subst hw''
    have HB2 := Lib.hid (HB1.out.trans ((Gr.below (w := W1) ⟨nr, osr, rfl⟩).mono (by omega)))
    clear hg0 hg1 hg2 hl5
    generalize grow (W1.drewN nr) osr = W2 at *
    go_wp2_with fail
    refine (HAt.out W2 HB2.out).mono ?_; rintro e W3 ⟨rfl, hgr⟩
    have HB3 := Lib.hid (HB2.out.trans (hgr.below.mono HB2.out.size))
    have HQ3 := Lib.hid (HQ.out.below HB3.out)
    clear hgr
    rcases atL_cases x (E n).Q.H with ⟨he, -⟩ | ⟨i, hi, he, -, -⟩
    · have HM := Lib.hid (modeL_none he)
      rw [he]
      go_wp2_with fail
      go_ret
      exact ⟨by rw [HM.out]; rfl, HB3.out⟩
    · have HM := Lib.hid (modeL_some he hi)
      rw [he]
      obtain ⟨a, cap, hv, hcap, hmx, ha⟩ := own_cap HQ3.out.held
      obtain ⟨gb, rfl, hgb, hgl⟩ := ha.resolve_left (by omega)
      have hrow := HQ3.out.held
      rw [hv] at hrow
      have c3 := (hd_cells hrow i hi).2.1
      have c4 := HQ3.out.cell0
      rw [hv] at c4
      have hc1 : (0 : Int) ≤ (i : Int) := Int.natCast_nonneg _
      have hc2 : (i : Int) < ((E n).Q.H.length : Int) := by omega
      clear he hv hcap hmx hrow hgb
      generalize (E n).Q.H[i] = hd at *
      go_wp2_with fail
      go_ret
      exact ⟨by rw [HM.out]; rfl, HB3.out⟩
  · have hl3 : ∀ k os, (Instr.lookup 49 (.map (some nb)) (.agg #[.int .i64 n.s, .string n.i]) false).run Tryz.prog (grow ((w.alloc (.cells #[.int .i64 n.s, .string n.i] 31)).drewN k) os) = .ok (.pointer none) (grow ((w.alloc (.cells #[.int .i64 n.s, .string n.i] 31)).drewN k) os) := fun k os => by
      rw [HL.out _ (((Gr.below ⟨k, os, rfl⟩).block nb (by rw [World.size_alloc]; omega)).trans (HB0.out.block nb hnl)), if_neg hn]
    rw [qOf_out hn]
    have hm : modeL x ([] : List Hd) = 0 := rfl
    clear hn HL
    go_enter Tryz.func10, Tryz.ntmps10
    go_wp2_with fail
    refine wp_region_quiet_grown (by assumption) (by kernel_rfl) ?_
    iterate 11 (with_reducible refine wpQuiet_step (fun K hK => ?_); go_simp; with_reducible refine hK _ ?_; clear hK K)
    with_reducible refine wpQuiet_nil ?_
    with_reducible intro _ hw'
    obtain ⟨⟨nq, osq⟩, hw''⟩ := hw'
    subst hw''
    have hbq := (Gr.below (w := w.alloc (.cells #[.int .i64 n.s, .string n.i] 31)) ⟨nq, osq, rfl⟩)
    have HB1 := Lib.hid (HB0.out.trans (hbq.mono (by rw [World.size_alloc]; omega)))
    clear hg0 hg1 hg2 hl3 hbq
    go_wp2_with fail
    go_ret
    exact ⟨by rw [hm]; rfl, HB1.out⟩
end
end Go.Proofs.YtileamjmhhifaaaGreat
