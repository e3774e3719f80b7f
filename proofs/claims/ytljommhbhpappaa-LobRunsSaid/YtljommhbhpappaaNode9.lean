/-
  Layer 5 (node): Split of a full node.
-/
import Derived.Test.YtljommhbhpappaaPkNodeB
namespace Go.Proofs.Ytljommhbhpappaa
open Go.RowKit Go.Joins
set_option linter.unusedVariables false
set_option linter.unusedSimpArgs false

/-- the upper half of six cells -/
def splitHi (lv : Int) : List NC → List NC
  | _ :: _ :: _ :: d :: r => (if lv = 0 then d else ⟨ByteArray.empty, d.st, d.rest⟩) :: r
  | _ => []

set_option maxHeartbeats 8000000 in
set_option maxRecDepth 100000 in
theorem nsplit_six (lv st nx : Int) (c0 c1 c2 c3 c4 c5 : NC) (hok : ∀ c ∈ [c0, c1, c2, c3, c4, c5], c.ok) (w : World) :
    Calls Try.prog 110 #[(ndPg lv st nx [c0, c1, c2, c3, c4, c5]).v] w fun e w' => e = .returned (.tuple #[(ndPg lv st nx [c0, c1, c2]).v, (ndPg lv st nx (splitHi lv [c0, c1, c2, c3, c4, c5])).v, .string c3.key, .int .i64 0]) ∧ Below w.heap.size w w' := by
  have HC := Lib.hid (fun w' => ncount_nd lv st nx [c0, c1, c2, c3, c4, c5] (by simp) hok w')
  obtain ⟨p, hp⟩ : ∃ p, ndPg lv st nx [c0, c1, c2, c3, c4, c5] = p := ⟨_, rfl⟩
  rw [hp] at HC ⊢
  simp only [List.length_cons, List.length_nil, Nat.zero_add, Nat.reduceAdd] at HC
  have HP := Lib.hid hp
  clear hp
  have R0 : rowAt (((w.alloc (.cells p.cs 112)).alloc (.cells Pg.zero.cs 112)).alloc (.cells Pg.zero.cs 112)) w.heap.size = some p.cs := (rowAt_past _ _ _ (by go_size)).trans ((rowAt_past _ _ _ (by go_size)).trans (rowAt_at w p.cs 112 _ rfl))
  go_enter Try.func110, Try.ntmps110
  go_wp2_with fail
  refine (HC.out _).mono ?_; rintro e w1 ⟨rfl, hb1⟩
  have hz1 := hb1.size
  simp only [World.size_alloc] at hz1
  have P1 := (rowAt_below hb1 (n := w.heap.size) (by go_size)).trans R0
  have Z1 := Lib.hid ((rowAt_below hb1 (n := w.heap.size + 1) (by go_size)).trans ((rowAt_past _ _ _ (by go_size)).trans (rowAt_at (w.alloc (.cells p.cs 112)) Pg.zero.cs 112 _ (by go_size))))
  have Y1 := Lib.hid ((rowAt_below hb1 (n := w.heap.size + 1 + 1) (by go_size)).trans (rowAt_at ((w.alloc (.cells p.cs 112)).alloc (.cells Pg.zero.cs 112)) Pg.zero.cs 112 _ (by go_size)))
  have B1 : Hid (Below w.heap.size w w1) := Lib.hid (((((Below.refl _ _).alloc (Nat.le_refl _) _).alloc (by go_size) _).alloc (by go_size) _).trans (hb1.mono (by go_size)))
  clear hb1 R0
  have hw1 : w.heap.size < w1.heap.size := by omega
  have MK1 : ∀ a, rowAt (w1.alloc a).drew w.heap.size = some p.cs := fun a => (rowAt_past _ _ _ hw1).trans P1
  have MK2 : ∀ a b, rowAt ((w1.alloc a).alloc b).drew w.heap.size = some p.cs := fun a b => (rowAt_past _ _ _ (by go_size)).trans ((rowAt_past _ _ _ hw1).trans P1)
  have WA : rowAt ((w1.alloc (.cells Pg.zero.cs 112)).alloc (.cells Pg.zero.cs 112)).drew w1.heap.size = some Pg.zero.cs := (rowAt_past _ _ _ (by go_size)).trans (rowAt_at _ _ _ _ rfl)
  have WB : rowAt ((w1.alloc (.cells Pg.zero.cs 112)).alloc (.cells Pg.zero.cs 112)).drew (w1.heap.size + 1) = some Pg.zero.cs := rowAt_at _ _ _ _ (by go_size)
  have WA1 : row16 (rowAt (((w1.alloc (.cells Pg.zero.cs 112)).alloc (.cells Pg.zero.cs 112)).drew.setRow (w1.heap.size + 1) p.cs) w1.heap.size) = true := by rw [rowAt_setRow_far _ _ _ _ (by omega), WA]; rfl
  have WB1 : row16 (rowAt (((w1.alloc (.cells Pg.zero.cs 112)).alloc (.cells Pg.zero.cs 112)).drew.setRow w1.heap.size p.cs) (w1.heap.size + 1)) = true := by rw [rowAt_setRow_far _ _ _ _ (by omega), WB]; rfl
  go_wp2_with fail
  go_region_held3 (fun W => rowAt W w.heap.size = some p.cs)
    (first
      | exact P1
      | exact MK1 _
      | exact MK2 _ _
      | exact (rowAt_setRow_far _ _ _ _ (by omega)).trans (MK2 _ _)
      | exact (rowAt_setRow_far _ _ _ _ (by omega)).trans ((rowAt_setRow_far _ _ _ _ (by omega)).trans (MK2 _ _)))
    (fail)
  · have FA : rowAt ((((w1.alloc (.cells Pg.zero.cs 112)).alloc (.cells Pg.zero.cs 112)).drew.setRow w1.heap.size p.cs).setRow (w1.heap.size + 1) p.cs) w1.heap.size = some p.cs := (rowAt_setRow_far _ _ _ _ (by omega)).trans (rowAt_setRow _ _ _ _ WA)
    have FB : rowAt ((((w1.alloc (.cells Pg.zero.cs 112)).alloc (.cells Pg.zero.cs 112)).drew.setRow w1.heap.size p.cs).setRow (w1.heap.size + 1) p.cs) (w1.heap.size + 1) = some p.cs := rowAt_setRow _ _ _ _ ((rowAt_setRow_far _ _ _ _ (by omega)).trans WB)
    have FO : ∀ m, m < w1.heap.size → rowAt ((((w1.alloc (.cells Pg.zero.cs 112)).alloc (.cells Pg.zero.cs 112)).drew.setRow w1.heap.size p.cs).setRow (w1.heap.size + 1) p.cs) m = rowAt w1 m := fun m hm => (rowAt_setRow_far _ _ _ _ (by omega)).trans ((rowAt_setRow_far _ _ _ _ (by omega)).trans ((rowAt_past _ _ _ (by go_size)).trans (rowAt_past _ _ _ hm)))
    have FW : Below w.heap.size w ((((w1.alloc (.cells Pg.zero.cs 112)).alloc (.cells Pg.zero.cs 112)).drew.setRow w1.heap.size p.cs).setRow (w1.heap.size + 1) p.cs) := below_setRow (below_setRow ((B1.out.alloc (by omega) _).alloc (by go_size) _).drew _ (by omega)) _ (by omega)
    have FP := (FO w.heap.size (by omega)).trans P1
    have FZ := (FO (w.heap.size + 1) (by omega)).trans Z1.out
    have FY := (FO (w.heap.size + 1 + 1) (by omega)).trans Y1.out
    clear WA WB WA1 WB1 MK1 MK2 FO P1 Z1 Y1 B1
    generalize (((w1.alloc (.cells Pg.zero.cs 112)).alloc (.cells Pg.zero.cs 112)).drew.setRow w1.heap.size p.cs).setRow (w1.heap.size + 1) p.cs = W at *
    generalize hA : w1.heap.size = A at *
    generalize hB : A + 1 = B at *
    have hAB : A ≠ B := by omega
    have hA3 : w.heap.size + 1 + 1 < A := by omega
    have hB3 : w.heap.size + 1 + 1 < B := by omega
    clear hz1 hA hB hw1
    have hZ6 := run_storeZ6 W B p FB
    obtain ⟨qh, hqh⟩ : ∃ qh, ndPg lv st nx [c3, c4, c5] = qh := ⟨_, rfl⟩
    have hcp : Copied (blank p) p qh 0 3 3 := by rw [← HP.out, ← hqh]; exact hi_copied lv st nx c0 c1 c2 c3 c4 c5
    have HCp := Lib.hid hcp
    have HGB := Lib.hid (rowAt_setRow W B _ (blank p).cs FB)
    have HGP := Lib.hid ((rowAt_setRow_far W B w.heap.size (blank p).cs (by omega)).trans FP)
    have HGA := Lib.hid ((rowAt_setRow_far W B A (blank p).cs (by omega)).trans FA)
    have HGZ := Lib.hid ((rowAt_setRow_far W B (w.heap.size + 1) (blank p).cs (by omega)).trans FZ)
    have HGY := Lib.hid ((rowAt_setRow_far W B (w.heap.size + 1 + 1) (blank p).cs (by omega)).trans FY)
    have HGW := Lib.hid (below_setRow FW (blank p).cs (by omega : w.heap.size ≤ B))
    clear hcp FB FA FP FZ FY FW
    go_wp2_with fail
    clear hZ6
    generalize W.setRow B (blank p).cs = W1 at *
    go_region_held3 (fun W => True) (exact trivial)
      (first
        | (refine step_copy_page (by rfl) _ _ _ _ (by rfl) Try.underlying169 _ _ _ _ _ _ 3 (by rfl) (by rfl) (by rfl) B w.heap.size 0 3 (blank p) p qh HGB.out HGP.out (fun h => ⟨by rfl, by rfl⟩) (by omega) (by omega) HCp.out ?_))
    all_goals
      have IB := rowAt_setRow W1.drew B _ qh.cs HGB.out
      have IP := (rowAt_setRow_far W1.drew B w.heap.size qh.cs (by omega)).trans HGP.out
      have IA := (rowAt_setRow_far W1.drew B A qh.cs (by omega)).trans HGA.out
      have IZ := (rowAt_setRow_far W1.drew B (w.heap.size + 1) qh.cs (by omega)).trans HGZ.out
      have IY := (rowAt_setRow_far W1.drew B (w.heap.size + 1 + 1) qh.cs (by omega)).trans HGY.out
      have IW := below_setRow HGW.out.drew qh.cs (by omega : w.heap.size ≤ B)
      clear HCp HGB HGP HGA HGZ HGY HGW
      generalize W1.drew.setRow B qh.cs = W2 at *
      have a10 := (cell_row IA 10).trans (show p.cs[10]? = some (.int .i64 p.a3) from rfl)
      have a11 := (cell_row IA 11).trans (show p.cs[11]? = some (.string p.d3) from rfl)
      have a12 := (cell_row IA 12).trans (show p.cs[12]? = some (.int .i64 p.a4) from rfl)
      have a13 := (cell_row IA 13).trans (show p.cs[13]? = some (.string p.d4) from rfl)
      have a14 := (cell_row IA 14).trans (show p.cs[14]? = some (.int .i64 p.a5) from rfl)
      have a15 := (cell_row IA 15).trans (show p.cs[15]? = some (.string p.d5) from rfl)
      have f10 := frozen_row IA 10
      have f11 := frozen_row IA 11
      have f12 := frozen_row IA 12
      have f13 := frozen_row IA 13
      have f14 := frozen_row IA 14
      have f15 := frozen_row IA 15
      obtain ⟨ql, hql⟩ : ∃ ql, ndPg lv st nx [c0, c1, c2] = ql := ⟨_, rfl⟩
      have hqlc : (((((p.cs.setIfInBounds 10 (.int .i64 0)).setIfInBounds 11 (.string ⟨#[]⟩)).setIfInBounds 12 (.int .i64 0)).setIfInBounds 13 (.string ⟨#[]⟩)).setIfInBounds 14 (.int .i64 0)).setIfInBounds 15 (.string ⟨#[]⟩) = ql.cs := by rw [← HP.out, ← hql]; rfl
      have JA := rowAt_setCell_here _ A 15 (.string ⟨#[]⟩) _ (rowAt_setCell_here _ A 14 (.int .i64 0) _ (rowAt_setCell_here _ A 13 (.string ⟨#[]⟩) _ (rowAt_setCell_here _ A 12 (.int .i64 0) _ (rowAt_setCell_here _ A 11 (.string ⟨#[]⟩) _ (rowAt_setCell_here W2 A 10 (.int .i64 0) _ IA)))))
      rw [hqlc] at JA
      have JO : ∀ m, m ≠ A → rowAt ((((((W2.setCell ⟨A, 10, none⟩ (.int .i64 0)).setCell ⟨A, 11, none⟩ (.string ⟨#[]⟩)).setCell ⟨A, 12, none⟩ (.int .i64 0)).setCell ⟨A, 13, none⟩ (.string ⟨#[]⟩)).setCell ⟨A, 14, none⟩ (.int .i64 0)).setCell ⟨A, 15, none⟩ (.string ⟨#[]⟩)) m = rowAt W2 m := fun m hm => by
        have hm' : A ≠ m := fun e => hm e.symm
        rw [rowAt_setCell_far _ _ _ _ hm', rowAt_setCell_far _ _ _ _ hm', rowAt_setCell_far _ _ _ _ hm', rowAt_setCell_far _ _ _ _ hm', rowAt_setCell_far _ _ _ _ hm', rowAt_setCell_far _ _ _ _ hm']
      have hAw : w.heap.size ≤ A := by omega
      have JW := below_setCell (below_setCell (below_setCell (below_setCell (below_setCell (below_setCell IW ⟨A, 10, none⟩ (.int .i64 0) hAw) ⟨A, 11, none⟩ (.string ⟨#[]⟩) hAw) ⟨A, 12, none⟩ (.int .i64 0) hAw) ⟨A, 13, none⟩ (.string ⟨#[]⟩) hAw) ⟨A, 14, none⟩ (.int .i64 0) hAw) ⟨A, 15, none⟩ (.string ⟨#[]⟩) hAw
      have JB := (JO B (by omega)).trans IB
      have JP := (JO w.heap.size (by omega)).trans IP
      have JZ := (JO (w.heap.size + 1) (by omega)).trans IZ
      have JY := (JO (w.heap.size + 1 + 1) (by omega)).trans IY
      clear JO IB IP IA IZ IY IW hqlc
      generalize hW3 : (((((W2.setCell ⟨A, 10, none⟩ (.int .i64 0)).setCell ⟨A, 11, none⟩ (.string ⟨#[]⟩)).setCell ⟨A, 12, none⟩ (.int .i64 0)).setCell ⟨A, 13, none⟩ (.string ⟨#[]⟩)).setCell ⟨A, 14, none⟩ (.int .i64 0)).setCell ⟨A, 15, none⟩ (.string ⟨#[]⟩) = W3 at *
      have b4 := (cell_row JB 4).trans (show qh.cs[4]? = some (.int .i64 qh.a0) from rfl)
      have b5 := (cell_row JB 5).trans (show qh.cs[5]? = some (.string qh.d0) from rfl)
      rw [show qh.a0 = c3.st from by rw [← hqh]; rfl] at b4
      rw [show qh.d0 = tx c3.key ++ c3.rest from by rw [← hqh]; rfl] at b5
      have hok3 := hok c3 (by simp)
      have HK := Lib.hid (fun w' => key_ok c3.st c3.key c3.rest hok3.1 hok3.2.1 (by have := hok3.2.2; omega) w')
      have JA' := Lib.hid JA
      have JB' := Lib.hid JB
      have JP' := Lib.hid JP
      have JZ' := Lib.hid JZ
      have JY' := Lib.hid JY
      have JW' := Lib.hid JW
      have HQl := Lib.hid hql
      have HQh := Lib.hid hqh
      clear JA JB JP JZ JY JW hql hqh hok3
      go_wp2_with fail
      refine wp_loop_rounds 4 ?_
      rw [rounds_succ]
      go_wp2_with fail
      rw [rounds_succ]
      go_wp2_with fail
      rw [rounds_succ]
      go_wp2_with fail
      rw [rounds_succ]
      go_wp2_with fail
      refine (HK.out _).mono ?_; rintro e W4 ⟨rfl, hb4⟩
      have hz4 := hb4.size
      have hA4 : A < W3.heap.size := (Array.getElem?_eq_some_iff.1 (rowAt_heap JA'.out).choose_spec).1
      have hB4 : B < W3.heap.size := (Array.getElem?_eq_some_iff.1 (rowAt_heap JB'.out).choose_spec).1
      have RA4 := (rowAt_below hb4 hA4).trans JA'.out
      have RB4 := (rowAt_below hb4 hB4).trans JB'.out
      have RP4 := (rowAt_below hb4 (by omega : w.heap.size < W3.heap.size)).trans JP'.out
      have RZ4 := (rowAt_below hb4 (by omega : w.heap.size + 1 < W3.heap.size)).trans JZ'.out
      have RY4 := (rowAt_below hb4 (by omega : w.heap.size + 1 + 1 < W3.heap.size)).trans JY'.out
      have RW4 := JW'.out.trans (hb4.mono (by omega))
      have l1 := (cell_row RP4 1).trans (show p.cs[1]? = some (.int .i64 p.l) from rfl)
      rw [show p.l = lv from by rw [← HP.out]; rfl] at l1
      clear hb4 JA' JB' JP' JZ' JY' JW' b4 b5 hW3 a10 a11 a12 a13 a14 a15 f10 f11 f12 f13 f14 f15
      by_cases hlv : lv = 0
      · have hlv0 : (lv == 0) = true := by simp [hlv]
        have hspl : ndPg lv st nx (splitHi lv [c0, c1, c2, c3, c4, c5]) = qh := by rw [← HQh.out]; simp only [splitHi, if_pos hlv]
        have HSp := Lib.hid hspl
        have HRA := Lib.hid RA4
        have HRB := Lib.hid RB4
        have HRZ := Lib.hid RZ4
        have HRY := Lib.hid RY4
        have HRW := Lib.hid RW4
        clear hspl RA4 RB4 RP4 RZ4 RY4 RW4
        go_wp2_with fail
        have X1 : row16 (rowAt W4.drew (w.heap.size + 1)) = true := by rw [show rowAt W4.drew (w.heap.size + 1) = some Pg.zero.cs from HRZ.out]; rfl
        have X2 : row16 (rowAt W4.drew (w.heap.size + 1 + 1)) = true := by rw [show rowAt W4.drew (w.heap.size + 1 + 1) = some Pg.zero.cs from HRY.out]; rfl
        have X5 : row16 (rowAt W4 (w.heap.size + 1)) = true := by rw [HRZ.out]; rfl
        have X6 : row16 (rowAt W4 (w.heap.size + 1 + 1)) = true := by rw [HRY.out]; rfl
        have Y1 : rowAt (W4.drew.setRow (w.heap.size + 1 + 1) qh.cs) (w.heap.size + 1) = some Pg.zero.cs := (rowAt_setRow_far W4.drew _ _ _ (by omega)).trans HRZ.out
        have Y2 : rowAt (W4.drew.setRow (w.heap.size + 1) ql.cs) (w.heap.size + 1 + 1) = some Pg.zero.cs := (rowAt_setRow_far W4.drew _ _ _ (by omega)).trans HRY.out
        have X3 : row16 (rowAt (W4.drew.setRow (w.heap.size + 1 + 1) qh.cs) (w.heap.size + 1)) = true := by rw [Y1]; rfl
        have X4 : row16 (rowAt (W4.drew.setRow (w.heap.size + 1) ql.cs) (w.heap.size + 1 + 1)) = true := by rw [Y2]; rfl
        go_region_held3 (fun W => rowAt W A = some ql.cs ∧ rowAt W B = some qh.cs)
          (first
            | exact ⟨HRA.out, HRB.out⟩
            | exact ⟨(rowAt_setRow_far _ _ _ _ (by omega)).trans HRA.out, (rowAt_setRow_far _ _ _ _ (by omega)).trans HRB.out⟩
            | exact ⟨(rowAt_setRow_far _ _ _ _ (by omega)).trans ((rowAt_setRow_far _ _ _ _ (by omega)).trans HRA.out), (rowAt_setRow_far _ _ _ _ (by omega)).trans ((rowAt_setRow_far _ _ _ _ (by omega)).trans HRB.out)⟩)
          (fail)
        all_goals
          go_wp2_with fail
          rw [HSp.out]
          first
            | exact ret_pptt rfl rfl (w.heap.size + 1) (w.heap.size + 1 + 1) ql qh rfl rfl ((rowAt_setRow_far _ _ _ _ (by omega)).trans (rowAt_setRow W4.drew _ _ _ HRZ.out)) (rowAt_setRow _ _ _ _ Y2) ⟨by rw [HQl.out]; rfl, below_setRow (below_setRow HRW.out.drew _ (by omega)) _ (by omega)⟩
            | exact ret_pptt rfl rfl (w.heap.size + 1) (w.heap.size + 1 + 1) ql qh rfl rfl (rowAt_setRow _ _ _ _ Y1) ((rowAt_setRow_far _ _ _ _ (by omega)).trans (rowAt_setRow W4.drew _ _ _ HRY.out)) ⟨by rw [HQl.out]; rfl, below_setRow (below_setRow HRW.out.drew _ (by omega)) _ (by omega)⟩
      · have hlv0 : (lv == 0) = false := by simp [hlv]
        have hsz : ¬ 9223372036854775807 < (⟨#[0]⟩ : ByteArray).size + c3.rest.size := by
          have := (hok c3 (by simp)).2.2
          show ¬ 9223372036854775807 < 1 + c3.rest.size
          omega
        obtain ⟨q2, hq2⟩ : ∃ q2, ndPg lv st nx (splitHi lv [c0, c1, c2, c3, c4, c5]) = q2 := ⟨_, rfl⟩
        have hset : qh.cs.setIfInBounds 5 (.string (⟨#[0]⟩ ++ c3.rest)) = q2.cs := by
          rw [← HQh.out, ← hq2]
          simp only [splitHi, if_neg hlv]
          rfl
        have SB := rowAt_setCell_here W4 B 5 (.string (⟨#[0]⟩ ++ c3.rest)) _ RB4
        rw [hset] at SB
        have SO : ∀ m, m ≠ B → rowAt (W4.setCell ⟨B, 5, none⟩ (.string (⟨#[0]⟩ ++ c3.rest))) m = rowAt W4 m := fun m hm => rowAt_setCell_far _ _ _ _ (fun e => hm e.symm)
        have HSp := Lib.hid hq2
        have HRA := Lib.hid ((SO A hAB).trans RA4)
        have HRB := Lib.hid SB
        have HRZ := Lib.hid ((SO (w.heap.size + 1) (by omega)).trans RZ4)
        have HRY := Lib.hid ((SO (w.heap.size + 1 + 1) (by omega)).trans RY4)
        have HRW := Lib.hid (below_setCell RW4 ⟨B, 5, none⟩ (.string (⟨#[0]⟩ ++ c3.rest)) (by show w.heap.size ≤ B; omega))
        have g5 := (cell_row RB4 5).trans (show qh.cs[5]? = some (.string qh.d0) from rfl)
        have h5 := frozen_row RB4 5
        clear hq2 hset SB SO RA4 RB4 RP4 RZ4 RY4 RW4
        generalize hW5 : W4.setCell ⟨B, 5, none⟩ (.string (⟨#[0]⟩ ++ c3.rest)) = W5 at *
        go_wp2_with fail
        have X1 : row16 (rowAt W5.drew (w.heap.size + 1)) = true := by rw [show rowAt W5.drew (w.heap.size + 1) = some Pg.zero.cs from HRZ.out]; rfl
        have X2 : row16 (rowAt W5.drew (w.heap.size + 1 + 1)) = true := by rw [show rowAt W5.drew (w.heap.size + 1 + 1) = some Pg.zero.cs from HRY.out]; rfl
        have X5 : row16 (rowAt W5 (w.heap.size + 1)) = true := by rw [HRZ.out]; rfl
        have X6 : row16 (rowAt W5 (w.heap.size + 1 + 1)) = true := by rw [HRY.out]; rfl
        have Y1 : rowAt (W5.drew.setRow (w.heap.size + 1 + 1) q2.cs) (w.heap.size + 1) = some Pg.zero.cs := (rowAt_setRow_far W5.drew _ _ _ (by omega)).trans HRZ.out
        have Y2 : rowAt (W5.drew.setRow (w.heap.size + 1) ql.cs) (w.heap.size + 1 + 1) = some Pg.zero.cs := (rowAt_setRow_far W5.drew _ _ _ (by omega)).trans HRY.out
        have X3 : row16 (rowAt (W5.drew.setRow (w.heap.size + 1 + 1) q2.cs) (w.heap.size + 1)) = true := by rw [Y1]; rfl
        have X4 : row16 (rowAt (W5.drew.setRow (w.heap.size + 1) ql.cs) (w.heap.size + 1 + 1)) = true := by rw [Y2]; rfl
        go_region_held3 (fun W => rowAt W A = some ql.cs ∧ rowAt W B = some q2.cs)
          (first
            | exact ⟨HRA.out, HRB.out⟩
            | exact ⟨(rowAt_setRow_far _ _ _ _ (by omega)).trans HRA.out, (rowAt_setRow_far _ _ _ _ (by omega)).trans HRB.out⟩
            | exact ⟨(rowAt_setRow_far _ _ _ _ (by omega)).trans ((rowAt_setRow_far _ _ _ _ (by omega)).trans HRA.out), (rowAt_setRow_far _ _ _ _ (by omega)).trans ((rowAt_setRow_far _ _ _ _ (by omega)).trans HRB.out)⟩)
          (fail)
        all_goals
          go_wp2_with fail
          rw [HSp.out]
          first
            | exact ret_pptt rfl rfl (w.heap.size + 1) (w.heap.size + 1 + 1) ql q2 rfl rfl ((rowAt_setRow_far _ _ _ _ (by omega)).trans (rowAt_setRow W5.drew _ _ _ HRZ.out)) (rowAt_setRow _ _ _ _ Y2) ⟨by rw [HQl.out]; rfl, below_setRow (below_setRow HRW.out.drew _ (by omega)) _ (by omega)⟩
            | exact ret_pptt rfl rfl (w.heap.size + 1) (w.heap.size + 1 + 1) ql q2 rfl rfl (rowAt_setRow _ _ _ _ Y1) ((rowAt_setRow_far _ _ _ _ (by omega)).trans (rowAt_setRow W5.drew _ _ _ HRY.out)) ⟨by rw [HQl.out]; rfl, below_setRow (below_setRow HRW.out.drew _ (by omega)) _ (by omega)⟩
  · have FA : rowAt ((((w1.alloc (.cells Pg.zero.cs 112)).alloc (.cells Pg.zero.cs 112)).drew.setRow (w1.heap.size + 1) p.cs).setRow w1.heap.size p.cs) (w1.heap.size + 1) = some p.cs := (rowAt_setRow_far _ _ _ _ (by omega)).trans (rowAt_setRow _ _ _ _ WB)
    have FB : rowAt ((((w1.alloc (.cells Pg.zero.cs 112)).alloc (.cells Pg.zero.cs 112)).drew.setRow (w1.heap.size + 1) p.cs).setRow w1.heap.size p.cs) w1.heap.size = some p.cs := rowAt_setRow _ _ _ _ ((rowAt_setRow_far _ _ _ _ (by omega)).trans WA)
    have FO : ∀ m, m < w1.heap.size → rowAt ((((w1.alloc (.cells Pg.zero.cs 112)).alloc (.cells Pg.zero.cs 112)).drew.setRow (w1.heap.size + 1) p.cs).setRow w1.heap.size p.cs) m = rowAt w1 m := fun m hm => (rowAt_setRow_far _ _ _ _ (by omega)).trans ((rowAt_setRow_far _ _ _ _ (by omega)).trans ((rowAt_past _ _ _ (by go_size)).trans (rowAt_past _ _ _ hm)))
    have FW : Below w.heap.size w ((((w1.alloc (.cells Pg.zero.cs 112)).alloc (.cells Pg.zero.cs 112)).drew.setRow (w1.heap.size + 1) p.cs).setRow w1.heap.size p.cs) := below_setRow (below_setRow ((B1.out.alloc (by omega) _).alloc (by go_size) _).drew _ (by omega)) _ (by omega)
    have FP := (FO w.heap.size (by omega)).trans P1
    have FZ := (FO (w.heap.size + 1) (by omega)).trans Z1.out
    have FY := (FO (w.heap.size + 1 + 1) (by omega)).trans Y1.out
    clear WA WB WA1 WB1 MK1 MK2 FO P1 Z1 Y1 B1
    generalize (((w1.alloc (.cells Pg.zero.cs 112)).alloc (.cells Pg.zero.cs 112)).drew.setRow (w1.heap.size + 1) p.cs).setRow w1.heap.size p.cs = W at *
    generalize hA : w1.heap.size + 1 = A at *
    generalize hB : w1.heap.size = B at *
    have hAB : A ≠ B := by omega
    have hA3 : w.heap.size + 1 + 1 < A := by omega
    have hB3 : w.heap.size + 1 + 1 < B := by omega
    clear hz1 hA hB hw1
    have hZ6 := run_storeZ6 W B p FB
    obtain ⟨qh, hqh⟩ : ∃ qh, ndPg lv st nx [c3, c4, c5] = qh := ⟨_, rfl⟩
    have hcp : Copied (blank p) p qh 0 3 3 := by rw [← HP.out, ← hqh]; exact hi_copied lv st nx c0 c1 c2 c3 c4 c5
    have HCp := Lib.hid hcp
    have HGB := Lib.hid (rowAt_setRow W B _ (blank p).cs FB)
    have HGP := Lib.hid ((rowAt_setRow_far W B w.heap.size (blank p).cs (by omega)).trans FP)
    have HGA := Lib.hid ((rowAt_setRow_far W B A (blank p).cs (by omega)).trans FA)
    have HGZ := Lib.hid ((rowAt_setRow_far W B (w.heap.size + 1) (blank p).cs (by omega)).trans FZ)
    have HGY := Lib.hid ((rowAt_setRow_far W B (w.heap.size + 1 + 1) (blank p).cs (by omega)).trans FY)
    have HGW := Lib.hid (below_setRow FW (blank p).cs (by omega : w.heap.size ≤ B))
    clear hcp FB FA FP FZ FY FW
    go_wp2_with fail
    clear hZ6
    generalize W.setRow B (blank p).cs = W1 at *
    go_region_held3 (fun W => True) (exact trivial)
      (first
        | (refine step_copy_page (by rfl) _ _ _ _ (by rfl) Try.underlying169 _ _ _ _ _ _ 3 (by rfl) (by rfl) (by rfl) B w.heap.size 0 3 (blank p) p qh HGB.out HGP.out (fun h => ⟨by rfl, by rfl⟩) (by omega) (by omega) HCp.out ?_))
    all_goals
      have IB := rowAt_setRow W1.drew B _ qh.cs HGB.out
      have IP := (rowAt_setRow_far W1.drew B w.heap.size qh.cs (by omega)).trans HGP.out
      have IA := (rowAt_setRow_far W1.drew B A qh.cs (by omega)).trans HGA.out
      have IZ := (rowAt_setRow_far W1.drew B (w.heap.size + 1) qh.cs (by omega)).trans HGZ.out
      have IY := (rowAt_setRow_far W1.drew B (w.heap.size + 1 + 1) qh.cs (by omega)).trans HGY.out
      have IW := below_setRow HGW.out.drew qh.cs (by omega : w.heap.size ≤ B)
      clear HCp HGB HGP HGA HGZ HGY HGW
      generalize W1.drew.setRow B qh.cs = W2 at *
      have a10 := (cell_row IA 10).trans (show p.cs[10]? = some (.int .i64 p.a3) from rfl)
      have a11 := (cell_row IA 11).trans (show p.cs[11]? = some (.string p.d3) from rfl)
      have a12 := (cell_row IA 12).trans (show p.cs[12]? = some (.int .i64 p.a4) from rfl)
      have a13 := (cell_row IA 13).trans (show p.cs[13]? = some (.string p.d4) from rfl)
      have a14 := (cell_row IA 14).trans (show p.cs[14]? = some (.int .i64 p.a5) from rfl)
      have a15 := (cell_row IA 15).trans (show p.cs[15]? = some (.string p.d5) from rfl)
      have f10 := frozen_row IA 10
      have f11 := frozen_row IA 11
      have f12 := frozen_row IA 12
      have f13 := frozen_row IA 13
      have f14 := frozen_row IA 14
      have f15 := frozen_row IA 15
      obtain ⟨ql, hql⟩ : ∃ ql, ndPg lv st nx [c0, c1, c2] = ql := ⟨_, rfl⟩
      have hqlc : (((((p.cs.setIfInBounds 10 (.int .i64 0)).setIfInBounds 11 (.string ⟨#[]⟩)).setIfInBounds 12 (.int .i64 0)).setIfInBounds 13 (.string ⟨#[]⟩)).setIfInBounds 14 (.int .i64 0)).setIfInBounds 15 (.string ⟨#[]⟩) = ql.cs := by rw [← HP.out, ← hql]; rfl
      have JA := rowAt_setCell_here _ A 15 (.string ⟨#[]⟩) _ (rowAt_setCell_here _ A 14 (.int .i64 0) _ (rowAt_setCell_here _ A 13 (.string ⟨#[]⟩) _ (rowAt_setCell_here _ A 12 (.int .i64 0) _ (rowAt_setCell_here _ A 11 (.string ⟨#[]⟩) _ (rowAt_setCell_here W2 A 10 (.int .i64 0) _ IA)))))
      rw [hqlc] at JA
      have JO : ∀ m, m ≠ A → rowAt ((((((W2.setCell ⟨A, 10, none⟩ (.int .i64 0)).setCell ⟨A, 11, none⟩ (.string ⟨#[]⟩)).setCell ⟨A, 12, none⟩ (.int .i64 0)).setCell ⟨A, 13, none⟩ (.string ⟨#[]⟩)).setCell ⟨A, 14, none⟩ (.int .i64 0)).setCell ⟨A, 15, none⟩ (.string ⟨#[]⟩)) m = rowAt W2 m := fun m hm => by
        have hm' : A ≠ m := fun e => hm e.symm
        rw [rowAt_setCell_far _ _ _ _ hm', rowAt_setCell_far _ _ _ _ hm', rowAt_setCell_far _ _ _ _ hm', rowAt_setCell_far _ _ _ _ hm', rowAt_setCell_far _ _ _ _ hm', rowAt_setCell_far _ _ _ _ hm']
      have hAw : w.heap.size ≤ A := by omega
      have JW := below_setCell (below_setCell (below_setCell (below_setCell (below_setCell (below_setCell IW ⟨A, 10, none⟩ (.int .i64 0) hAw) ⟨A, 11, none⟩ (.string ⟨#[]⟩) hAw) ⟨A, 12, none⟩ (.int .i64 0) hAw) ⟨A, 13, none⟩ (.string ⟨#[]⟩) hAw) ⟨A, 14, none⟩ (.int .i64 0) hAw) ⟨A, 15, none⟩ (.string ⟨#[]⟩) hAw
      have JB := (JO B (by omega)).trans IB
      have JP := (JO w.heap.size (by omega)).trans IP
      have JZ := (JO (w.heap.size + 1) (by omega)).trans IZ
      have JY := (JO (w.heap.size + 1 + 1) (by omega)).trans IY
      clear JO IB IP IA IZ IY IW hqlc
      generalize hW3 : (((((W2.setCell ⟨A, 10, none⟩ (.int .i64 0)).setCell ⟨A, 11, none⟩ (.string ⟨#[]⟩)).setCell ⟨A, 12, none⟩ (.int .i64 0)).setCell ⟨A, 13, none⟩ (.string ⟨#[]⟩)).setCell ⟨A, 14, none⟩ (.int .i64 0)).setCell ⟨A, 15, none⟩ (.string ⟨#[]⟩) = W3 at *
      have b4 := (cell_row JB 4).trans (show qh.cs[4]? = some (.int .i64 qh.a0) from rfl)
      have b5 := (cell_row JB 5).trans (show qh.cs[5]? = some (.string qh.d0) from rfl)
      rw [show qh.a0 = c3.st from by rw [← hqh]; rfl] at b4
      rw [show qh.d0 = tx c3.key ++ c3.rest from by rw [← hqh]; rfl] at b5
      have hok3 := hok c3 (by simp)
      have HK := Lib.hid (fun w' => key_ok c3.st c3.key c3.rest hok3.1 hok3.2.1 (by have := hok3.2.2; omega) w')
      have JA' := Lib.hid JA
      have JB' := Lib.hid JB
      have JP' := Lib.hid JP
      have JZ' := Lib.hid JZ
      have JY' := Lib.hid JY
      have JW' := Lib.hid JW
      have HQl := Lib.hid hql
      have HQh := Lib.hid hqh
      clear JA JB JP JZ JY JW hql hqh hok3
      go_wp2_with fail
      refine wp_loop_rounds 4 ?_
      rw [rounds_succ]
      go_wp2_with fail
      rw [rounds_succ]
      go_wp2_with fail
      rw [rounds_succ]
      go_wp2_with fail
      rw [rounds_succ]
      go_wp2_with fail
      refine (HK.out _).mono ?_; rintro e W4 ⟨rfl, hb4⟩
      have hz4 := hb4.size
      have hA4 : A < W3.heap.size := (Array.getElem?_eq_some_iff.1 (rowAt_heap JA'.out).choose_spec).1
      have hB4 : B < W3.heap.size := (Array.getElem?_eq_some_iff.1 (rowAt_heap JB'.out).choose_spec).1
      have RA4 := (rowAt_below hb4 hA4).trans JA'.out
      have RB4 := (rowAt_below hb4 hB4).trans JB'.out
      have RP4 := (rowAt_below hb4 (by omega : w.heap.size < W3.heap.size)).trans JP'.out
      have RZ4 := (rowAt_below hb4 (by omega : w.heap.size + 1 < W3.heap.size)).trans JZ'.out
      have RY4 := (rowAt_below hb4 (by omega : w.heap.size + 1 + 1 < W3.heap.size)).trans JY'.out
      have RW4 := JW'.out.trans (hb4.mono (by omega))
      have l1 := (cell_row RP4 1).trans (show p.cs[1]? = some (.int .i64 p.l) from rfl)
      rw [show p.l = lv from by rw [← HP.out]; rfl] at l1
      clear hb4 JA' JB' JP' JZ' JY' JW' b4 b5 hW3 a10 a11 a12 a13 a14 a15 f10 f11 f12 f13 f14 f15
      by_cases hlv : lv = 0
      · have hlv0 : (lv == 0) = true := by simp [hlv]
        have hspl : ndPg lv st nx (splitHi lv [c0, c1, c2, c3, c4, c5]) = qh := by rw [← HQh.out]; simp only [splitHi, if_pos hlv]
        have HSp := Lib.hid hspl
        have HRA := Lib.hid RA4
        have HRB := Lib.hid RB4
        have HRZ := Lib.hid RZ4
        have HRY := Lib.hid RY4
        have HRW := Lib.hid RW4
        clear hspl RA4 RB4 RP4 RZ4 RY4 RW4
        go_wp2_with fail
        have X1 : row16 (rowAt W4.drew (w.heap.size + 1)) = true := by rw [show rowAt W4.drew (w.heap.size + 1) = some Pg.zero.cs from HRZ.out]; rfl
        have X2 : row16 (rowAt W4.drew (w.heap.size + 1 + 1)) = true := by rw [show rowAt W4.drew (w.heap.size + 1 + 1) = some Pg.zero.cs from HRY.out]; rfl
        have X5 : row16 (rowAt W4 (w.heap.size + 1)) = true := by rw [HRZ.out]; rfl
        have X6 : row16 (rowAt W4 (w.heap.size + 1 + 1)) = true := by rw [HRY.out]; rfl
        have Y1 : rowAt (W4.drew.setRow (w.heap.size + 1 + 1) qh.cs) (w.heap.size + 1) = some Pg.zero.cs := (rowAt_setRow_far W4.drew _ _ _ (by omega)).trans HRZ.out
        have Y2 : rowAt (W4.drew.setRow (w.heap.size + 1) ql.cs) (w.heap.size + 1 + 1) = some Pg.zero.cs := (rowAt_setRow_far W4.drew _ _ _ (by omega)).trans HRY.out
        have X3 : row16 (rowAt (W4.drew.setRow (w.heap.size + 1 + 1) qh.cs) (w.heap.size + 1)) = true := by rw [Y1]; rfl
        have X4 : row16 (rowAt (W4.drew.setRow (w.heap.size + 1) ql.cs) (w.heap.size + 1 + 1)) = true := by rw [Y2]; rfl
        go_region_held3 (fun W => rowAt W A = some ql.cs ∧ rowAt W B = some qh.cs)
          (first
            | exact ⟨HRA.out, HRB.out⟩
            | exact ⟨(rowAt_setRow_far _ _ _ _ (by omega)).trans HRA.out, (rowAt_setRow_far _ _ _ _ (by omega)).trans HRB.out⟩
            | exact ⟨(rowAt_setRow_far _ _ _ _ (by omega)).trans ((rowAt_setRow_far _ _ _ _ (by omega)).trans HRA.out), (rowAt_setRow_far _ _ _ _ (by omega)).trans ((rowAt_setRow_far _ _ _ _ (by omega)).trans HRB.out)⟩)
          (fail)
        all_goals
          go_wp2_with fail
          rw [HSp.out]
          first
            | exact ret_pptt rfl rfl (w.heap.size + 1) (w.heap.size + 1 + 1) ql qh rfl rfl ((rowAt_setRow_far _ _ _ _ (by omega)).trans (rowAt_setRow W4.drew _ _ _ HRZ.out)) (rowAt_setRow _ _ _ _ Y2) ⟨by rw [HQl.out]; rfl, below_setRow (below_setRow HRW.out.drew _ (by omega)) _ (by omega)⟩
            | exact ret_pptt rfl rfl (w.heap.size + 1) (w.heap.size + 1 + 1) ql qh rfl rfl (rowAt_setRow _ _ _ _ Y1) ((rowAt_setRow_far _ _ _ _ (by omega)).trans (rowAt_setRow W4.drew _ _ _ HRY.out)) ⟨by rw [HQl.out]; rfl, below_setRow (below_setRow HRW.out.drew _ (by omega)) _ (by omega)⟩
      · have hlv0 : (lv == 0) = false := by simp [hlv]
        have hsz : ¬ 9223372036854775807 < (⟨#[0]⟩ : ByteArray).size + c3.rest.size := by
          have := (hok c3 (by simp)).2.2
          show ¬ 9223372036854775807 < 1 + c3.rest.size
          omega
        obtain ⟨q2, hq2⟩ : ∃ q2, ndPg lv st nx (splitHi lv [c0, c1, c2, c3, c4, c5]) = q2 := ⟨_, rfl⟩
        have hset : qh.cs.setIfInBounds 5 (.string (⟨#[0]⟩ ++ c3.rest)) = q2.cs := by
          rw [← HQh.out, ← hq2]
          simp only [splitHi, if_neg hlv]
          rfl
        have SB := rowAt_setCell_here W4 B 5 (.string (⟨#[0]⟩ ++ c3.rest)) _ RB4
        rw [hset] at SB
        have SO : ∀ m, m ≠ B → rowAt (W4.setCell ⟨B, 5, none⟩ (.string (⟨#[0]⟩ ++ c3.rest))) m = rowAt W4 m := fun m hm => rowAt_setCell_far _ _ _ _ (fun e => hm e.symm)
        have HSp := Lib.hid hq2
        have HRA := Lib.hid ((SO A hAB).trans RA4)
        have HRB := Lib.hid SB
        have HRZ := Lib.hid ((SO (w.heap.size + 1) (by omega)).trans RZ4)
        have HRY := Lib.hid ((SO (w.heap.size + 1 + 1) (by omega)).trans RY4)
        have HRW := Lib.hid (below_setCell RW4 ⟨B, 5, none⟩ (.string (⟨#[0]⟩ ++ c3.rest)) (by show w.heap.size ≤ B; omega))
        have g5 := (cell_row RB4 5).trans (show qh.cs[5]? = some (.string qh.d0) from rfl)
        have h5 := frozen_row RB4 5
        clear hq2 hset SB SO RA4 RB4 RP4 RZ4 RY4 RW4
        generalize hW5 : W4.setCell ⟨B, 5, none⟩ (.string (⟨#[0]⟩ ++ c3.rest)) = W5 at *
        go_wp2_with fail
        have X1 : row16 (rowAt W5.drew (w.heap.size + 1)) = true := by rw [show rowAt W5.drew (w.heap.size + 1) = some Pg.zero.cs from HRZ.out]; rfl
        have X2 : row16 (rowAt W5.drew (w.heap.size + 1 + 1)) = true := by rw [show rowAt W5.drew (w.heap.size + 1 + 1) = some Pg.zero.cs from HRY.out]; rfl
        have X5 : row16 (rowAt W5 (w.heap.size + 1)) = true := by rw [HRZ.out]; rfl
        have X6 : row16 (rowAt W5 (w.heap.size + 1 + 1)) = true := by rw [HRY.out]; rfl
        have Y1 : rowAt (W5.drew.setRow (w.heap.size + 1 + 1) q2.cs) (w.heap.size + 1) = some Pg.zero.cs := (rowAt_setRow_far W5.drew _ _ _ (by omega)).trans HRZ.out
        have Y2 : rowAt (W5.drew.setRow (w.heap.size + 1) ql.cs) (w.heap.size + 1 + 1) = some Pg.zero.cs := (rowAt_setRow_far W5.drew _ _ _ (by omega)).trans HRY.out
        have X3 : row16 (rowAt (W5.drew.setRow (w.heap.size + 1 + 1) q2.cs) (w.heap.size + 1)) = true := by rw [Y1]; rfl
        have X4 : row16 (rowAt (W5.drew.setRow (w.heap.size + 1) ql.cs) (w.heap.size + 1 + 1)) = true := by rw [Y2]; rfl
        go_region_held3 (fun W => rowAt W A = some ql.cs ∧ rowAt W B = some q2.cs)
          (first
            | exact ⟨HRA.out, HRB.out⟩
            | exact ⟨(rowAt_setRow_far _ _ _ _ (by omega)).trans HRA.out, (rowAt_setRow_far _ _ _ _ (by omega)).trans HRB.out⟩
            | exact ⟨(rowAt_setRow_far _ _ _ _ (by omega)).trans ((rowAt_setRow_far _ _ _ _ (by omega)).trans HRA.out), (rowAt_setRow_far _ _ _ _ (by omega)).trans ((rowAt_setRow_far _ _ _ _ (by omega)).trans HRB.out)⟩)
          (fail)
        all_goals
          go_wp2_with fail
          rw [HSp.out]
          first
            | exact ret_pptt rfl rfl (w.heap.size + 1) (w.heap.size + 1 + 1) ql q2 rfl rfl ((rowAt_setRow_far _ _ _ _ (by omega)).trans (rowAt_setRow W5.drew _ _ _ HRZ.out)) (rowAt_setRow _ _ _ _ Y2) ⟨by rw [HQl.out]; rfl, below_setRow (below_setRow HRW.out.drew _ (by omega)) _ (by omega)⟩
            | exact ret_pptt rfl rfl (w.heap.size + 1) (w.heap.size + 1 + 1) ql q2 rfl rfl (rowAt_setRow _ _ _ _ Y1) ((rowAt_setRow_far _ _ _ _ (by omega)).trans (rowAt_setRow W5.drew _ _ _ HRY.out)) ⟨by rw [HQl.out]; rfl, below_setRow (below_setRow HRW.out.drew _ (by omega)) _ (by omega)⟩
end Go.Proofs.Ytljommhbhpappaa
