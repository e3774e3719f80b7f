/-
  Layer 9 (locks): the walk of the document's Ask: refused, busy, and one who holds.
-/
import Derived.Test.YtileamjmhhifaaaGreatLd8
namespace Go.Proofs.YtileamjmhhifaaaGreat
open Go.RowKit Go.Joins Go.Sort Go.Shelf
set_option linter.unusedVariables false
set_option linter.unusedSimpArgs false

theorem DAt.tick {w : World} {B tb : Nat} {rv : Value} {R : List Dr} {T : Int} (h : DAt w B tb rv R T) (T' : Int) : DAt (w.setCell ⟨tb, 1, none⟩ (.int .i64 T')) B tb rv R T' := by
  refine ⟨h.lo, ?_, own_keep h.own fun g hg => setCell_far9 w _ _ g fun e => ?_, h.len⟩
  · have := setCell_block9 h.at_ 1 (.int .i64 T')
    rw [this]; rfl
  · have e2 : tb = g := e
    exact own_ne_bl h.own h.at_ (by decide) (hg.trans (congrArg some e2.symm))
theorem DAt.tk {w : World} {B tb : Nat} {rv : Value} {R : List Dr} {T : Int} (h : DAt w B tb rv R T) : w.cell? ⟨tb, 1, none⟩ = some (.int .i64 T) ∧ w.frozen? ⟨tb, 1, none⟩ = false ∧ w.frozen? ⟨tb, 0, none⟩ = false :=
  ⟨(cell_of_block h.at_ 1).trans rfl, by simp [World.frozen?, h.at_], by simp [World.frozen?, h.at_]⟩
theorem DAt.two {w W : World} {B tb g c : Nat} {R : List Dr} {T : Int} (h : DAt w B tb (.slice (some ⟨g, 0, none⟩) R.length c) R T) (i k1 k2 : Nat) (hi : i < R.length) (hk1 : k1 < 6) (hk2 : k2 < 6) (r1 r2 : Dr) (u1 u2 : Value) (hl1 : r1.l = R[i].l.set k1 u1) (hl2 : r2.l = r1.l.set k2 u2) (hW : Below (w.setCell ⟨g, i * 6 + k1, none⟩ u1).heap.size (w.setCell ⟨g, i * 6 + k1, none⟩ u1) W) :
    W.cell? ⟨tb, 0, none⟩ = some (.slice (some ⟨g, 0, none⟩) R.length c) ∧ W.cell? ⟨tb, 1, none⟩ = some (.int .i64 T) ∧ (∀ k u, r1.l[k]? = some u → W.cell? ⟨g, i * 6 + k, none⟩ = some u) ∧ W.frozen? ⟨g, i * 6 + k2, none⟩ = false ∧ DAt (W.setCell ⟨g, i * 6 + k2, none⟩ u2) B tb (.slice (some ⟨g, 0, none⟩) R.length c) (R.set i r2) T := by
  obtain ⟨h1, -, -⟩ := h.setc i k1 hi hk1 r1 u1 hl1
  have h2 := h1.below hW
  have h2' : DAt W B tb (.slice (some ⟨g, 0, none⟩) (R.set i r1).length c) (R.set i r1) T := by rw [List.length_set]; exact h2
  have hi' : i < (R.set i r1).length := by rw [List.length_set]; exact hi
  have he : (R.set i r1)[i] = r1 := List.getElem_set_self ..
  obtain ⟨h3, -, h5⟩ := h2'.setc i k2 hi' hk2 r2 u2 (by rw [he]; exact hl2)
  rw [List.set_set, List.length_set] at h3
  exact ⟨h2.hd, h2.tk.1, fun k u hu => h2'.cell i k hi' u (by rw [he]; exact hu), h5, h3⟩
section
variable {w : World} {B tb : Nat} {rv : Value} {R : List Dr} {T : Int}
set_option maxHeartbeats 4000000 in
theorem dask_bad (tb : Nat) (x m : Int) (n : Nm) (w : World) (hm : m < 1 ∨ 6 < m) :
    Calls Tryz.prog 9 #[.pointer (some ⟨tb, 0, none⟩), .int .i64 x, .agg #[.int .i64 n.s, .string n.i], .int .i64 m] w fun e w' => e = .returned (.tuple #[.bool false, .int .i64 1]) ∧ Gr w w' := by
  have HG : Hid (Gr w (w.alloc (.cells #[.int .i64 n.s, .string n.i] 31))) := Lib.hid ((Gr.refl w).alloc _)
  by_cases h1 : m < 1
  · have e1 : decide (m < 1) = true := by simpa using h1
    clear hm
    go_enter Tryz.func9, Tryz.ntmps9
    go_wp2_with fail
    go_ret2
    exact ⟨rfl, HG.out⟩
  · have e1 : decide (m < 1) = false := by simpa using h1
    have h2 : 6 < m := hm.resolve_left h1
    have e2 : decide (m > 6) = true := by simpa using h2
    clear hm
    go_enter Tryz.func9, Tryz.ntmps9
    go_wp2_with fail
    go_ret2
    exact ⟨rfl, HG.out⟩
set_option maxHeartbeats 4000000 in
theorem dask_busy (h : DAt w B tb rv R T) (x m : Int) (n : Nm) (h1 : 1 ≤ m) (h6 : m ≤ 6) (hx : ∃ r ∈ R, r.x = x ∧ r.w ≠ 0) :
    Calls Tryz.prog 9 #[.pointer (some ⟨tb, 0, none⟩), .int .i64 x, .agg #[.int .i64 n.s, .string n.i], .int .i64 m] w fun e w' => e = .returned (.tuple #[.bool false, .int .i64 211]) ∧ Gr w w' := by
  have HG : Hid (Gr w (w.alloc (.cells #[.int .i64 n.s, .string n.i] 31))) := Lib.hid ((Gr.refl w).alloc _)
  have HW := Lib.hid (dwait_any (h.below HG.out.below) x)
  have HX := Lib.hid hx
  have e1 : decide (m < 1) = false := by simp; omega
  have e2 : decide (m > 6) = false := by simp; omega
  clear h hx
  go_enter Tryz.func9, Tryz.ntmps9
  go_wp2_with fail
  with_reducible refine HW.out.mono ?_
  rintro e w1 ⟨b, rfl, hb, rfl⟩
  have hbt : b = true := hb.2 HX.out
  subst hbt
  clear hb
  go_wp2_with fail
  go_ret2
  exact ⟨rfl, HG.out⟩
set_option maxHeartbeats 16000000 in
set_option maxRecDepth 100000 in
theorem dask_hold (h : DAt w B tb rv R T) (hT : 0 ≤ T ∧ T ≤ 1000000) (x m : Int) (n : Nm) (h1 : 1 ≤ m) (h6 : m ≤ 6) (hx : ¬ ∃ r ∈ R, r.x = x ∧ r.w ≠ 0) (i : Nat) (hi : i < R.length) (hidx : idxD (holdP x n) R = (i : Int)) :
    Calls Tryz.prog 9 #[.pointer (some ⟨tb, 0, none⟩), .int .i64 x, .agg #[.int .i64 n.s, .string n.i], .int .i64 m] w fun e w' => ∃ b R', e = .returned (.tuple #[.bool b, .int .i64 0]) ∧ ((b = true ∧ (joinL R[i].m m = R[i].m ∨ freeD R x n (joinL R[i].m m)) ∧ R' = R.set i ⟨R[i].n, R[i].x, joinL R[i].m m, R[i].w, R[i].t⟩) ∨ (b = false ∧ ¬ (joinL R[i].m m = R[i].m ∨ freeD R x n (joinL R[i].m m)) ∧ R' = R.set i ⟨R[i].n, R[i].x, R[i].m, joinL R[i].m m, T + 1⟩)) ∧ DAt w' B tb rv R' (T + 1) ∧ Moved (OD tb rv) w w' := by
  obtain ⟨a, c, rfl, ha⟩ := h.form
  obtain ⟨g, rfl, hBg, hgl⟩ := ha (by omega)
  have HG : Hid (Gr w (w.alloc (.cells #[.int .i64 n.s, .string n.i] 31))) := Lib.hid ((Gr.refl w).alloc _)
  have hn0 := heap_alloc_new w (.cells #[.int .i64 n.s, .string n.i] 31)
  have hD1 := h.below HG.out.below
  have HW := Lib.hid (dwait_any hD1 x)
  have HX := Lib.hid hx
  have e1 : decide (m < 1) = false := by simp; omega
  have e2 : decide (m > 6) = false := by simp; omega
  obtain ⟨t1, tf1, tf0⟩ := hD1.tk
  have c0 := hD1.hd
  have hD2 := hD1.tick (T + 1)
  have HD2 := Lib.hid hD2
  have HN2 := Lib.hid ((setCell_far9 _ ⟨tb, 1, none⟩ (.int .i64 (T + 1)) w.heap.size (by have := (Array.getElem?_eq_some_iff.1 h.at_).1; show tb ≠ _; omega)).trans hn0)
  have hwr : IntKind.i64.wrap (T + 1) = T + 1 := IntWalk.i64_in _ (by omega)
  have HM2 : Hid (Moved (OD tb (.slice (some ⟨g, 0, none⟩) R.length c)) w ((w.alloc (.cells #[.int .i64 n.s, .string n.i] 31)).setCell ⟨tb, 1, none⟩ (.int .i64 (T + 1)))) := Lib.hid ((Moved.of_below HG.out.below).setCell (p := ⟨tb, 1, none⟩) (.inl (.inl rfl)) _)
  have HHo := Lib.hid (dhold_any hD2 x n)
  rw [hidx] at HHo
  have hlen := h.len
  have hik : (i : Int) < (R.length : Int) := by omega
  have hi0 : (0 : Int) ≤ (i : Int) := by omega
  have hdg : decide ((i : Int) ≥ 0) = true := by simp
  have hzn : w.heap.size < (w.alloc (.cells #[.int .i64 n.s, .string n.i] 31)).heap.size := by simp
  clear h hx hD1 hD2 hn0 ha hidx
  go_enter Tryz.func9, Tryz.ntmps9
  go_wp2_with fail
  with_reducible refine HW.out.mono ?_
  rintro e w1 ⟨b, rfl, hb, rfl⟩
  have hbt : b = false := by
    cases b with
    | false => rfl
    | true => exact absurd (hb.1 rfl) HX.out
  subst hbt
  clear hb HX HW
  have n0 : ((w.alloc (.cells #[.int .i64 n.s, .string n.i] 31)).setCell ⟨tb, 1, none⟩ (.int .i64 (T + 1))).cell? ⟨w.heap.size, 0, none⟩ = some (.int .i64 n.s) := (cell_of_block HN2.out 0).trans rfl
  have n1 : ((w.alloc (.cells #[.int .i64 n.s, .string n.i] 31)).setCell ⟨tb, 1, none⟩ (.int .i64 (T + 1))).cell? ⟨w.heap.size, 1, none⟩ = some (.string n.i) := (cell_of_block HN2.out 1).trans rfl
  go_wp2_with fail
  generalize (w.alloc (.cells #[.int .i64 n.s, .string n.i] 31)).setCell ⟨tb, 1, none⟩ (.int .i64 (T + 1)) = W2 at *
  clear t1 tf1 tf0 c0 hzn n0 n1
  with_reducible refine HHo.out.mono ?_
  rintro e W3 ⟨rfl, hg3⟩
  have HD3 := Lib.hid (HD2.out.below hg3.below)
  have HM3 := Lib.hid (HM2.out.below hg3.below)
  have HN3 := Lib.hid ((hg3.below.block _ (Array.getElem?_eq_some_iff.1 HN2.out).1).trans HN2.out)
  have HJ := Lib.hid (rjoinB R[i].m m W3)
  have c0 := HD3.out.hd
  have k3 := HD3.out.cell i 3 hi (.int .i64 R[i].m) rfl
  clear hg3 HHo HD2 HN2 HM2
  obtain ⟨rm, hrm⟩ : ∃ rm, R[i].m = rm := ⟨_, rfl⟩
  rw [hrm] at k3 HJ
  have HRM := Lib.hid hrm
  clear hrm
  go_wp2_with fail
  with_reducible refine HJ.out.mono ?_
  rintro e W4 ⟨rfl, hg4⟩
  have HD4 := Lib.hid (HD3.out.below hg4.below)
  have HM4 := Lib.hid (HM3.out.below hg4.below)
  have HN4 := Lib.hid ((hg4.below.block _ (Array.getElem?_eq_some_iff.1 HN3.out).1).trans HN3.out)
  have c4 := HD4.out.hd
  have k4 := HD4.out.cell i 3 hi (.int .i64 R[i].m) rfl
  have hf4 := fun (k : Nat) (hk : k < 6) (r' : Dr) (u : Value) (hl : r'.l = R[i].l.set k u) => (HD4.out.setc i k hi hk r' u hl)
  have m0 : W4.cell? ⟨w.heap.size, 0, none⟩ = some (.int .i64 n.s) := (cell_of_block HN4.out 0).trans rfl
  have m1 : W4.cell? ⟨w.heap.size, 1, none⟩ = some (.string n.i) := (cell_of_block HN4.out 1).trans rfl
  rw [HRM.out] at k4
  clear hg4 HJ HD3 HM3 HN3 c0 k3
  obtain ⟨j, hj⟩ : ∃ j, joinL rm m = j := ⟨_, rfl⟩
  rw [hj]
  have HJ := Lib.hid hj
  have HFr := Lib.hid (dfree_any HD4.out x n j)
  have HF4 := Lib.hid hf4
  clear hj hf4
  have HRW : Hid (∃ rr : Dr, rr = R[i]) := Lib.hid ⟨_, rfl⟩
  by_cases e5 : j = rm
  · obtain ⟨hD5, -, hf5⟩ := HF4.out 3 (by omega) ⟨R[i].n, R[i].x, joinL R[i].m m, R[i].w, R[i].t⟩ (.int .i64 j) (by rw [HRM.out, HJ.out]; rfl)
    have HD5 := Lib.hid hD5
    have HC : Hid (joinL R[i].m m = R[i].m ∨ freeD R x n (joinL R[i].m m)) := Lib.hid (.inl (by rw [HRM.out, HJ.out]; exact e5))
    have HM5 := Lib.hid (HM4.out.setCell (p := ⟨g, i * 6 + 3, none⟩) (.inl (.inr rfl)) (.int .i64 j))
    clear hD5 HF4 HFr
    subst e5
    go_wp2_with fail
    go_ret2
    exact ⟨true, _, rfl, .inl ⟨rfl, HC.out, rfl⟩, HD5.out, HM5.out⟩
  · have e6 : (j == rm) = false := by simpa using e5
    have HE5 := Lib.hid e5
    clear HF4 e5
    go_wp2_with fail
    with_reducible refine HFr.out.mono ?_
    rintro e W5 ⟨q, rfl, hq, hg5⟩
    have HQ := Lib.hid hq
    have HD5 := Lib.hid (HD4.out.below hg5.below)
    have HM5 := Lib.hid (HM4.out.below hg5.below)
    have c5 := HD5.out.hd
    have t5 := HD5.out.tk.1
    clear hg5 hq HFr HD4 HM4 HN4 c4 k4 m0 m1
    cases q with
    | true =>
      have k5 := HD5.out.cell i 3 hi (.int .i64 R[i].m) rfl
      obtain ⟨hD6, -, hf6⟩ := HD5.out.setc i 3 hi (by omega) ⟨R[i].n, R[i].x, joinL R[i].m m, R[i].w, R[i].t⟩ (.int .i64 j) (by rw [HRM.out, HJ.out]; rfl)
      have HD6 := Lib.hid hD6
      have HC : Hid (joinL R[i].m m = R[i].m ∨ freeD R x n (joinL R[i].m m)) := Lib.hid (.inr (by rw [HRM.out, HJ.out]; exact HQ.out.1 rfl))
      have HM6 := Lib.hid (HM5.out.setCell (p := ⟨g, i * 6 + 3, none⟩) (.inl (.inr rfl)) (.int .i64 j))
      clear hD6
      go_wp2_with fail
      go_ret2
      exact ⟨true, _, rfl, .inl ⟨rfl, HC.out, rfl⟩, HD6.out, HM6.out⟩
    | false =>
      have k5 := HD5.out.cell i 4 hi (.int .i64 R[i].w) rfl
      obtain ⟨-, hgt, hf6⟩ := HD5.out.setc i 4 hi (by omega) ⟨R[i].n, R[i].x, R[i].m, j, R[i].t⟩ (.int .i64 j) rfl
      have HTw := Lib.hid fun W => HD5.out.two (W := W) i 4 5 hi (by omega) (by omega) ⟨R[i].n, R[i].x, R[i].m, j, R[i].t⟩ ⟨R[i].n, R[i].x, R[i].m, j, T + 1⟩ (.int .i64 j) (.int .i64 (T + 1)) rfl rfl
      have HC : Hid (¬ (joinL R[i].m m = R[i].m ∨ freeD R x n (joinL R[i].m m))) := Lib.hid (by
        rw [HRM.out, HJ.out]
        rintro (h | h)
        · exact HE5.out h
        · have := HQ.out.2 h; cases this)
      have HR' : Hid (R.set i ⟨R[i].n, R[i].x, R[i].m, j, T + 1⟩ = R.set i ⟨R[i].n, R[i].x, R[i].m, joinL R[i].m m, T + 1⟩) := Lib.hid (by rw [HRM.out, HJ.out])
      have HM6 := Lib.hid (HM5.out.setCell (p := ⟨g, i * 6 + 4, none⟩) (.inl (.inr rfl)) (.int .i64 j))
      obtain ⟨a1, a2, a3, a4, a5⟩ := HTw.out (W5.setCell ⟨g, i * 6 + 4, none⟩ (.int .i64 j)) (Below.refl _ _)
      have a6 := a3 5 _ rfl
      have HA5 := Lib.hid a5
      clear a3 a5 HTw
      go_upto_region 13 with fail
      generalize W5.setCell ⟨g, i * 6 + 4, none⟩ (.int .i64 j) = W6 at *
      clear c5 t5 k5 hf6
      go_region_held3 (fun W => W.cell? ⟨tb, 0, none⟩ = some (.slice (some ⟨g, 0, none⟩) R.length c) ∧ W.cell? ⟨tb, 1, none⟩ = some (.int .i64 (T + 1))) (first | exact ⟨a1, a2⟩ | exact ⟨(World.cell?_setCell_far _ _ _ _ hgt).trans a1, (World.cell?_setCell_far _ _ _ _ hgt).trans a2⟩ | go_keep) (fail)
      go_wp2_with fail
      go_ret2
      exact ⟨false, _, rfl, .inr ⟨rfl, HC.out, HR'.out⟩, HA5.out.below (Below.refl _ _).drew, (HM6.out.setCell (p := ⟨g, i * 6 + 5, none⟩) (.inl (.inr rfl)) (.int .i64 (T + 1))).drew⟩
end
end Go.Proofs.YtileamjmhhifaaaGreat
