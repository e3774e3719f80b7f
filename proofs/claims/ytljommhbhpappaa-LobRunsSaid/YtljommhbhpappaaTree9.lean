/-
  Layer 16 (tree): a root that grows.
-/
import Derived.Test.YtljommhbhpappaaTree8
namespace Go.Proofs.Ytljommhbhpappaa
open Go.RowKit Go.Joins
set_option linter.unusedVariables false
set_option linter.unusedSimpArgs false

@[go_sem] theorem run_build_kls (w : World) (k l s : Int) : (buildPg #[(0, .int .i64 k), (1, .int .i64 l), (2, .int .i64 s)]).run Try.prog w = .ok (Pg.v { k := k, l := l, s := s }) w := by kernel_rfl
theorem top_cs (lv st r rr : Int) (sep : ByteArray) : (((({ k := 4, l := lv, s := st } : Pg).cs.setIfInBounds 4 (.int .i64 1)).setIfInBounds 5 (.string (tx ByteArray.empty ++ le4 r))).setIfInBounds 6 (.int .i64 1)).setIfInBounds 7 (.string (tx sep ++ le4 rr)) = (ndPg lv st 0 [⟨ByteArray.empty, 1, le4 r⟩, ⟨sep, 1, le4 rr⟩]).cs := rfl

set_option maxHeartbeats 8000000 in
set_option maxRecDepth 100000 in
theorem wgrow_any {S : Vol} {d m : Pg} {nn : Nat} (hv : VolOk S d m nn) (st root lv lw rr : Int) (sep : ByteArray) (pa : Pg) (hpa : stPg S root = pa) (hse : stE S root = 0) (hl : pa.l = lv) (hlw : wrap64 (lv + 1) = lw) (hlw2 : IntKind.i64.wrap (lv + 1) = lw) (hs8 : sep.size ≤ 8) (hr1 : 1 ≤ rr) (hr2 : rr < 1024) (h0 : 0 ≤ root) (h1 : root < 1024) (hoka : okPg pa = true)
    (ka : Option Addr) (kc : Nat) (kp : List ByteArray) (b mb hb pb wb : Nat) (w : World) (hs : PM w wb b mb hb pb st root ka kc kp S) (e0 : Int) (S' : Vol)
    (hcase : (takeV nn S m = none ∧ e0 = 140 ∧ S' = S) ∨ ∃ r S1 m1, takeV nn S m = some (r, S1, m1) ∧ 1 ≤ r ∧ okPg (ndPg lw st 0 [⟨ByteArray.empty, 1, le4 r⟩, ⟨sep, 1, le4 rr⟩]) = true ∧ e0 = 0 ∧ S' = (S1.put r pa).put root (ndPg lw st 0 [⟨ByteArray.empty, 1, le4 r⟩, ⟨sep, 1, le4 rr⟩])) :
    Calls Try.prog 85 #[.pointer (some ⟨wb, 0, none⟩), .string sep, .int .i64 rr] w fun e w' => e = .returned (.int .i64 e0) ∧ TS w w' wb b mb hb pb st root ka kc kp S' := by
  have HG := Lib.hid (fun w' (h : StageAt w' b mb hb pb S) => get_any S b mb hb pb root w' h)
  rw [hpa, hse] at HG
  have T0 := Lib.hid hs.ts
  have T0d := Lib.hid hs.ts.drew
  have c0 := T0.out.p.walk.cells.1
  have c2 := T0.out.p.walk.cells.2.2.1
  have d0 : w.drew.cell? ⟨wb, 0, none⟩ = some (.pointer (some ⟨b, 0, none⟩)) := c0
  have d2 : w.drew.cell? ⟨wb, 2, none⟩ = some (.int .i64 root) := c2
  have HCa := Lib.hid hcase
  have HI2 := Lib.hid (fun w' => ninner_ok sep rr hs8 hr1 hr2 w')
  have HV := Lib.hid hv
  have hnn := hv.map.hi
  have hlt0 := hs.ts.lt
  clear hs hcase hv
  go_enter Try.func85, Try.ntmps85
  go_wp2_with fail
  have TZ := Lib.hid (T0.out.alloc (.cells Pg.zero.cs 112))
  have TZd := Lib.hid TZ.out.drew
  have z0 : (w.alloc (.cells Pg.zero.cs 112)).drew.cell? ⟨wb, 0, none⟩ = some (.pointer (some ⟨b, 0, none⟩)) := TZ.out.p.walk.cells.1
  have z2 : (w.alloc (.cells Pg.zero.cs 112)).drew.cell? ⟨wb, 2, none⟩ = some (.int .i64 root) := TZ.out.p.walk.cells.2.2.1
  go_region_held3 (fun W => W.cell? ⟨wb, 0, none⟩ = some (.pointer (some ⟨b, 0, none⟩)) ∧ W.cell? ⟨wb, 2, none⟩ = some (.int .i64 root))
    (first
      | exact ⟨d0, d2⟩
      | exact ⟨z0, z2⟩
      | exact ⟨T1.out.p.walk.cells.1, T1.out.p.walk.cells.2.2.1⟩
      | exact ⟨(T1.out.row _ _ (Nat.le_refl _)).p.walk.cells.1, (T1.out.row _ _ (Nat.le_refl _)).p.walk.cells.2.2.1⟩
      | exact ⟨(T1.out.alloc _).p.walk.cells.1, (T1.out.alloc _).p.walk.cells.2.2.1⟩)
    (first
      | (go_at_call 58; refine (HG.out _ TZd.out.p.stage).mono ?_; rintro e w1 ⟨rfl, hb1⟩; have T1 := Lib.hid (TZd.out.after hb1); have RZ := (rowAt_below hb1 (n := w.heap.size) (by show _ < (w.alloc (.cells Pg.zero.cs 112)).heap.size; go_size)).trans (show rowAt (w.alloc (.cells Pg.zero.cs 112)).drew w.heap.size = some Pg.zero.cs from rowAt_at w Pg.zero.cs 112 _ rfl); have rz : row16 (rowAt w1 w.heap.size) = true := (by rw [RZ]; rfl))
      | (go_at_call 58; refine (HG.out _ T0d.out.p.stage).mono ?_; rintro e w1 ⟨rfl, hb1⟩; have T1 := Lib.hid (T0d.out.after hb1)))
  all_goals
    have hz1 := T1.out.lt
    first
      | (have T2 := Lib.hid (T1.out.row w.heap.size pa.cs (Nat.le_refl _))
         have P2 := rowAt_setRow w1 _ _ pa.cs RZ
         have hsz : (w1.setRow w.heap.size pa.cs).heap.size = w1.heap.size := by simp [World.setRow]
         have hzd := hb1.size
         have hzA : (w.alloc (.cells Pg.zero.cs 112)).drew.heap.size = w.heap.size + 1 := (World.size_alloc ..)
         have hPl : w.heap.size < (w1.setRow w.heap.size pa.cs).heap.size := by omega
         generalize w1.setRow w.heap.size pa.cs = W2 at *
         obtain ⟨P, hPe⟩ : ∃ P, w.heap.size = P := ⟨_, rfl⟩
         have hP : w.heap.size ≤ P := by omega
         rw [hPe] at P2 hPl ⊢)
      | (have T2 := Lib.hid (T1.out.alloc (.cells pa.cs 112))
         have P2 := rowAt_at w1 pa.cs 112 _ rfl
         have hPl : w1.heap.size < (w1.alloc (.cells pa.cs 112)).heap.size := by go_size
         generalize w1.alloc (.cells pa.cs 112) = W2 at *
         obtain ⟨P, hPe⟩ : ∃ P, w1.heap.size = P := ⟨_, rfl⟩
         have hP : w.heap.size ≤ P := by omega
         rw [hPe] at P2 hPl ⊢)
    clear c0 c2 d0 d2 z0 z2 hb1
    have cW := T2.out.p.walk.cells.1
    have P2h := Lib.hid P2
    go_wp2_with fail
    rcases HCa.out with ⟨htk, rfl, hSe⟩ | ⟨r, S1, m1, htk, hr1', hokt, rfl, rfl⟩
    · have HTk := Lib.hid (take_none S b mb hb pb m nn W2 T2.out.p.stage HV.out.map (takeV_none htk))
      refine HTk.out.mono ?_; rintro e w7 ⟨rfl, hb7⟩
      have T7 := Lib.hid (T2.out.after hb7)
      clear hb7 cW
      go_wp2_with fail
      go_ret
      exact ⟨rfl, by rw [hSe]; exact T7.out⟩
    · have HTk := Lib.hid (take_pm T2.out.p HV.out htk)
      have hrn := (takeV_some HV.out htk).2.2.2.1
      have hra : (1 : Int) ≤ (r : Int) := by omega
      have hrb : (r : Int) < 1024 := by omega
      have HI1 : Hid (∀ w', Calls Try.prog 107 #[.string ⟨#[]⟩, .int .i64 (r : Int)] w' fun e w2 => e = .returned (.tuple #[.agg #[.int .i64 1, .string (tx ByteArray.empty ++ le4 r)], .int .i64 0]) ∧ Below w'.heap.size w' w2) := Lib.hid (fun w' => ninner_ok ByteArray.empty r (by simp) hra hrb w')
      have HOkt := Lib.hid hokt
      obtain ⟨top, htop⟩ : ∃ top, ndPg lw st 0 [⟨ByteArray.empty, 1, le4 r⟩, ⟨sep, 1, le4 rr⟩] = top := ⟨_, rfl⟩
      have HTop := Lib.hid htop
      have hcs := top_cs lw st (r : Int) rr sep
      rw [htop] at hcs
      generalize tx ByteArray.empty ++ le4 (r : Int) = da at *
      generalize tx sep ++ le4 rr = db at *
      clear htk hokt htop
      refine HTk.out.mono ?_; rintro e w3 ⟨rfl, hg3, hp3⟩
      have T3 := Lib.hid (T2.out.grown hg3 hp3)
      have P3 := Lib.hid ((rowAt_grown hg3 (n := P) (by omega) (by omega)).trans P2h.out)
      have hz3 := hg3.size
      clear hg3 hp3 cW P2
      go_wp2_with fail
      refine (HI1.out _).mono ?_; rintro e w4 ⟨rfl, hb4⟩
      have hz4 := hb4.size
      have T4 := Lib.hid ((T3.out.after hb4).alloc (.cells #[.int .i64 1, .string da] 84))
      have P4 := Lib.hid ((rowAt_past w4 (.cells #[.int .i64 1, .string da] 84) P (by omega)).trans ((rowAt_below hb4 (by omega)).trans P3.out))
      have A4 := Lib.hid (rowAt_at w4 #[.int .i64 1, .string da] 84 _ rfl)
      have hs4 : (w4.alloc (.cells #[.int .i64 1, .string da] 84)).heap.size = w4.heap.size + 1 := World.size_alloc ..
      clear hb4
      go_wp2_with fail
      refine (HI2.out _).mono ?_; rintro e w5 ⟨rfl, hb5⟩
      have hz5 := hb5.size
      rw [hs4] at hz5
      have T5 := Lib.hid ((T4.out.after hb5).alloc (.cells #[.int .i64 1, .string db] 84))
      have P5 := Lib.hid ((rowAt_past w5 (.cells #[.int .i64 1, .string db] 84) P (by omega)).trans ((rowAt_below hb5 (by omega)).trans P4.out))
      have A5 := Lib.hid ((rowAt_past w5 (.cells #[.int .i64 1, .string db] 84) w4.heap.size (by omega)).trans ((rowAt_below hb5 (by omega)).trans A4.out))
      have B5 := Lib.hid (rowAt_at w5 #[.int .i64 1, .string db] 84 _ rfl)
      have hs5 : (w5.alloc (.cells #[.int .i64 1, .string db] 84)).heap.size = w5.heap.size + 1 := World.size_alloc ..
      clear hb5
      go_wp2_with fail
      generalize w5.alloc (.cells #[.int .i64 1, .string db] 84) = W5 at *
      generalize w4.heap.size = A at *
      generalize w5.heap.size = B at *
      have T5d := Lib.hid T5.out.drew
      have cl : W5.drew.cell? ⟨P, 1, none⟩ = some (.int .i64 lv) := (cell_row P5.out 1).trans (show pa.cs[1]? = some (.int .i64 lv) by rw [← hl]; rfl)
      have cs : W5.drew.cell? ⟨wb, 1, none⟩ = some (.int .i64 st) := T5.out.p.walk.cells.2.1
      have hBl : W5.heap.size = B + 1 := hs5
      have W5z : (W5.alloc (.cells Pg.zero.cs 112)).drew.heap.size = W5.heap.size + 1 := World.size_alloc ..
      obtain ⟨q0, hq0⟩ : ∃ q0 : Pg, ({ k := 4, l := lw, s := st } : Pg) = q0 := ⟨_, rfl⟩
      have T5a := Lib.hid (T5.out.alloc (.cells Pg.zero.cs 112)).drew
      have ZZ : rowAt (W5.alloc (.cells Pg.zero.cs 112)).drew (B + 1) = some Pg.zero.cs := rowAt_at W5 Pg.zero.cs 112 _ hBl.symm
      have Pa : rowAt (W5.alloc (.cells Pg.zero.cs 112)).drew P = some pa.cs := (rowAt_past W5 _ P (by omega)).trans P5.out
      have Aa : rowAt (W5.alloc (.cells Pg.zero.cs 112)).drew A = some #[.int .i64 1, .string da] := (rowAt_past W5 _ A (by omega)).trans A5.out
      have Ba : rowAt (W5.alloc (.cells Pg.zero.cs 112)).drew B = some #[.int .i64 1, .string db] := (rowAt_past W5 _ B (by omega)).trans B5.out
      have cl : (W5.alloc (.cells Pg.zero.cs 112)).drew.cell? ⟨P, 1, none⟩ = some (.int .i64 lv) := (cell_row Pa 1).trans (show pa.cs[1]? = some (.int .i64 lv) by rw [← hl]; rfl)
      have cs : (W5.alloc (.cells Pg.zero.cs 112)).drew.cell? ⟨wb, 1, none⟩ = some (.int .i64 st) := T5a.out.p.walk.cells.2.1
      have cl0 : W5.drew.cell? ⟨P, 1, none⟩ = some (.int .i64 lv) := (cell_row P5.out 1).trans (show pa.cs[1]? = some (.int .i64 lv) by rw [← hl]; rfl)
      have cs0 : W5.drew.cell? ⟨wb, 1, none⟩ = some (.int .i64 st) := T5.out.p.walk.cells.2.1
      have T6 := Lib.hid (T5a.out.row (B + 1) q0.cs (by omega))
      have Z6 := rowAt_setRow _ (B + 1) _ q0.cs ZZ
      have P6 := (rowAt_setRow_far _ (B + 1) P q0.cs (by omega)).trans Pa
      have A6 := (rowAt_setRow_far _ (B + 1) A q0.cs (by omega)).trans Aa
      have B6 := (rowAt_setRow_far _ (B + 1) B q0.cs (by omega)).trans Ba
      have hs6 : ((W5.alloc (.cells Pg.zero.cs 112)).drew.setRow (B + 1) q0.cs).heap.size = W5.heap.size + 1 := by rw [← W5z]; simp [World.setRow]
      have cl6 : ((W5.alloc (.cells Pg.zero.cs 112)).drew.setRow (B + 1) q0.cs).cell? ⟨P, 1, none⟩ = some (.int .i64 lv) := (cell_row P6 1).trans (show pa.cs[1]? = some (.int .i64 lv) by rw [← hl]; rfl)
      have cs6 := T6.out.p.walk.cells.2.1
      rw [hq0] at hcs
      subst hq0
      go_wp2_with fail
      go_region_held3 (fun W => W.cell? ⟨P, 1, none⟩ = some (.int .i64 lv) ∧ W.cell? ⟨wb, 1, none⟩ = some (.int .i64 st))
        (first
          | exact ⟨cl, cs⟩
          | exact ⟨cl6, cs6⟩
          | exact ⟨cl0, cs0⟩)
        (fail)
      obtain ⟨q0, hq0⟩ : ∃ q0 : Pg, ({ k := 4, l := lw, s := st } : Pg) = q0 := ⟨_, rfl⟩
      rw [hq0] at hcs T6 Z6 P6 A6 B6 hs6 ⊢
      clear cl cs cl6 cs6 cl0 cs0 ZZ Pa Aa Ba T5a
      generalize (W5.alloc (.cells Pg.zero.cs 112)).drew.setRow (B + 1) q0.cs = W6 at *
      have x0 : W6.drew.cell? ⟨A, 0, none⟩ = some (.int .i64 1) := cell_row A6 0
      have x1 : W6.drew.cell? ⟨A, 1, none⟩ = some (.string da) := cell_row A6 1
      have y0 : W6.drew.cell? ⟨B, 0, none⟩ = some (.int .i64 1) := cell_row B6 0
      have y1 : W6.drew.cell? ⟨B, 1, none⟩ = some (.string db) := cell_row B6 1
      have f4 := frozen_row Z6 4
      have f5 := frozen_row Z6 5
      have f6 := frozen_row Z6 6
      have f7 := frozen_row Z6 7
      have z4 := cell_row Z6 4
      have z5 := cell_row Z6 5
      have z6 := cell_row Z6 6
      have z7 := cell_row Z6 7
      have far1 : ∀ k, k ≠ B + 1 → rowAt ((W6.setCell ⟨B + 1, 4, none⟩ (.int .i64 1)).setCell ⟨B + 1, 5, none⟩ (.string da)) k = rowAt W6 k := fun k hk => (rowAt_setCell_far _ _ _ k (by simpa using Ne.symm hk)).trans (rowAt_setCell_far _ _ _ k (by simpa using Ne.symm hk))
      have A7 := (far1 A (by omega)).trans A6
      have B7 := (far1 B (by omega)).trans B6
      have far2 : ∀ k, k ≠ B + 1 → rowAt ((((W6.setCell ⟨B + 1, 4, none⟩ (.int .i64 1)).setCell ⟨B + 1, 5, none⟩ (.string da)).setCell ⟨B + 1, 6, none⟩ (.int .i64 1)).setCell ⟨B + 1, 7, none⟩ (.string db)) k = rowAt W6 k := fun k hk => ((rowAt_setCell_far _ _ _ k (by simpa using Ne.symm hk)).trans (rowAt_setCell_far _ _ _ k (by simpa using Ne.symm hk))).trans (far1 k hk)
      have A8 := (far2 A (by omega)).trans A6
      have B8 := (far2 B (by omega)).trans B6
      have Z8 := rowAt_setCell_here _ _ 7 (.string db) _ (rowAt_setCell_here _ _ 6 (.int .i64 1) _ (rowAt_setCell_here _ _ 5 (.string da) _ (rowAt_setCell_here _ _ 4 (.int .i64 1) _ Z6)))
      have P8 := (far2 P (by omega)).trans P6
      rw [hcs] at Z8
      have T8 := Lib.hid ((((T6.out.cell ⟨B + 1, 4, none⟩ (.int .i64 1) (by show _ ≤ B + 1; omega)).cell ⟨B + 1, 5, none⟩ (.string da) (by show _ ≤ B + 1; omega)).cell ⟨B + 1, 6, none⟩ (.int .i64 1) (by show _ ≤ B + 1; omega)).cell ⟨B + 1, 7, none⟩ (.string db) (by show _ ≤ B + 1; omega))
      have T8d := Lib.hid T8.out.drew
      have hs8' : ((((W6.setCell ⟨B + 1, 4, none⟩ (.int .i64 1)).setCell ⟨B + 1, 5, none⟩ (.string da)).setCell ⟨B + 1, 6, none⟩ (.int .i64 1)).setCell ⟨B + 1, 7, none⟩ (.string db)).drew.heap.size = W6.heap.size := by simp only [World.size_setCell, World.drew]
      have HZ8 : Hid (rowAt ((((W6.setCell ⟨B + 1, 4, none⟩ (.int .i64 1)).setCell ⟨B + 1, 5, none⟩ (.string da)).setCell ⟨B + 1, 6, none⟩ (.int .i64 1)).setCell ⟨B + 1, 7, none⟩ (.string db)).drew (B + 1) = some top.cs) := Lib.hid Z8
      have HP8 : Hid (rowAt ((((W6.setCell ⟨B + 1, 4, none⟩ (.int .i64 1)).setCell ⟨B + 1, 5, none⟩ (.string da)).setCell ⟨B + 1, 6, none⟩ (.int .i64 1)).setCell ⟨B + 1, 7, none⟩ (.string db)).drew P = some pa.cs) := Lib.hid P8
      clear far1 far2 Z8 P8
      go_wp2_with fail
      go_region_held3 (fun W => W.cell? ⟨A, 0, none⟩ = some (.int .i64 1) ∧ W.cell? ⟨A, 1, none⟩ = some (.string da) ∧ W.cell? ⟨B, 0, none⟩ = some (.int .i64 1) ∧ W.cell? ⟨B, 1, none⟩ = some (.string db))
        (first
          | exact ⟨x0, x1, y0, y1⟩
          | exact ⟨cell_row A7 0, cell_row A7 1, cell_row B7 0, cell_row B7 1⟩
          | exact ⟨cell_row A8 0, cell_row A8 1, cell_row B8 0, cell_row B8 1⟩)
        (fail)
      all_goals
        clear x0 x1 y0 y1 f4 f5 f6 f7 z4 z5 z6 z7 A6 B6 A7 B7 A8 B8 Z6 P6
        generalize ((((W6.setCell ⟨B + 1, 4, none⟩ (.int .i64 1)).setCell ⟨B + 1, 5, none⟩ (.string da)).setCell ⟨B + 1, 6, none⟩ (.int .i64 1)).setCell ⟨B + 1, 7, none⟩ (.string db)).drew = W8 at *
        have c8 := T8d.out.p.walk.cells.1
        have c8d := T8d.out.drew.p.walk.cells.1
        have P8 := HP8.out
        have P8d : rowAt W8.drew P = some pa.cs := HP8.out
        have HS8 := Lib.hid (set_pm T8d.out.drew.p (r : Int) pa hoka (by omega) hrb)
        have hmb := T8d.out.lt
        go_wp2_with fail
        go_region_held3 (fun W => W.cell? ⟨wb, 0, none⟩ = some (.pointer (some ⟨b, 0, none⟩)) ∧ rowAt W P = some pa.cs)
          (first
            | exact ⟨c8d, P8d⟩
            | exact ⟨T9.out.p.walk.cells.1, P9⟩)
          (first
            | (go_at_call 59; refine HS8.out.mono ?_; rintro e w9 ⟨rfl, hg9, hp9⟩; have T9 := Lib.hid (T8d.out.drew.grown hg9 hp9); have P9 := (rowAt_grown hg9 (n := P) (by show _ < W8.heap.size; omega) (by omega)).trans P8d; have Z9 := Lib.hid ((rowAt_grown hg9 (n := B + 1) (by show _ < W8.heap.size; omega) (by omega)).trans HZ8.out)))
        all_goals
          have hz9 := hg9.size
          have hz8 : W8.drew.heap.size = W8.heap.size := rfl
          rw [hz8] at hz9
          have c9 := T9.out.p.walk.cells.1
          have c9d := T9.out.drew.p.walk.cells.1
          have e9 := T9.out.p.walk.cells.2.2.1
          have e9d := T9.out.drew.p.walk.cells.2.2.1
          have Z9a := Z9.out
          have Z9d : rowAt w9.drew (B + 1) = some top.cs := Z9.out
          have HSa := Lib.hid (set_pm T9.out.drew.p root top (by rw [← HTop.out]; exact HOkt.out) h0 h1)
          clear hg9 hp9 c8 c8d P8 P8d P9
          go_wp2_with fail
          go_region_held3 (fun W => W.cell? ⟨wb, 0, none⟩ = some (.pointer (some ⟨b, 0, none⟩)) ∧ W.cell? ⟨wb, 2, none⟩ = some (.int .i64 root) ∧ rowAt W (B + 1) = some top.cs)
            (first
              | exact ⟨c9d, e9d, Z9d⟩
              | exact ⟨Ta.out.p.walk.cells.1, Ta.out.p.walk.cells.2.2.1, Za⟩)
            (first
              | (go_at_call 59; refine HSa.out.mono ?_; rintro e wa ⟨rfl, hga, hpa⟩; have Ta := Lib.hid (T9.out.drew.grown hga hpa); have Za := (rowAt_grown hga (n := B + 1) (by show _ < w9.heap.size; omega) (by omega)).trans Z9d))
          all_goals
            clear hga hpa c9 c9d e9 e9d Z9a Z9d Za
            go_wp2_with fail
            go_ret
            exact ⟨rfl, by rw [HTop.out]; exact Ta.out⟩
end Go.Proofs.Ytljommhbhpappaa
