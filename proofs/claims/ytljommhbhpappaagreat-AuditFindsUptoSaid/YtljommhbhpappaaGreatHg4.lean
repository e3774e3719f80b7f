/-
  Layer 15 (heap), for any chain of pages: Delete.
-/
import Derived.Test.YtljommhbhpappaaGreatHg3
namespace Go.Proofs.YtljommhbhpappaaGreat
open Go.RowKit Go.Joins
set_option linter.unusedVariables false
set_option linter.unusedSimpArgs false

theorem gfind_hit {S : Vol} {d m : Pg} {n : Nat} {st0 : Int} {I : List Nat} {C : List Pg} (hh : GH S d m n st0 I C) (b mb hb pb : Nat) (id : Int) (hid : id < 9223372036854775808) (w : World) (hs : StageAt w b mb hb pb S) (k : Nat) (hk : k < C.length) (hhit : hitB (I.getD k 0) C[k] id = true) :
    Calls Tryz.prog 70 #[.pointer (some ⟨b, 0, none⟩), .int .i64 st0, .int .i64 id] w fun e w' => e = .returned (.tuple #[.int .i64 ((I.getD k 0 : Nat) : Int), .int .i64 (id % 8), C[k].v, .int .i64 0]) ∧ Below w.heap.size w w' := by
  refine (gfind_any hh b mb hb pb id hid w hs).mono ?_
  rintro e w1 ⟨hb1, ⟨k', hk', hhit', rfl⟩ | ⟨hno, a, s, rfl⟩⟩
  · obtain rfl : k' = k := by
      have h1 := (hit_facts hhit').2.1
      have h2 := (hit_facts hhit).2.1
      exact hh.inj hk' hk (by omega)
    exact ⟨rfl, hb1⟩
  · have := hno k hk
    rw [hhit] at this; cases this
theorem gfind_miss {S : Vol} {d m : Pg} {n : Nat} {st0 : Int} {I : List Nat} {C : List Pg} (hh : GH S d m n st0 I C) (b mb hb pb : Nat) (id : Int) (hid : id < 9223372036854775808) (w : World) (hs : StageAt w b mb hb pb S) (hno : ∀ k (h : k < C.length), hitB (I.getD k 0) C[k] id = false) :
    Calls Tryz.prog 70 #[.pointer (some ⟨b, 0, none⟩), .int .i64 st0, .int .i64 id] w fun e w' => (∃ a s : Int, e = .returned (.tuple #[.int .i64 a, .int .i64 s, Pg.zero.v, .int .i64 150])) ∧ Below w.heap.size w w' := by
  refine (gfind_any hh b mb hb pb id hid w hs).mono ?_
  rintro e w1 ⟨hb1, ⟨k', hk', hhit', rfl⟩ | ⟨-, a, s, rfl⟩⟩
  · rw [hno k' hk'] at hhit'; cases hhit'
  · exact ⟨⟨a, s, rfl⟩, hb1⟩
set_option maxHeartbeats 8000000 in
set_option maxRecDepth 100000 in
theorem gchange_hit {S : Vol} {d m : Pg} {n : Nat} {st0 : Int} {I : List Nat} {C : List Pg} (hh : GH S d m n st0 I C) (b mb hb pb : Nat) (id : Int) (hid : id < 9223372036854775808) (k : Nat) (hk : k < C.length) (hhit : hitB (I.getD k 0) C[k] id = true) (f : Nat) (cap : Array Value) (hf : ∀ (args : Array Value) (w : World), (callFunc f args).run Tryz.prog w = .ok (.enter f args) w) (st : Int) (d : ByteArray) (hok : okC st d = true) (w : World) (hs : StageAt w b mb hb pb S)
    (hcl : ∀ w', Below w.heap.size w w' → Calls Tryz.prog f (#[.agg #[.int .i64 (C[k].a (id % 8).toNat), .string (C[k].d (id % 8).toNat)]] ++ cap) w' fun e w'' => e = .returned (.agg #[.int .i64 st, .string d]) ∧ Below w'.heap.size w' w'') :
    Calls Tryz.prog 46 #[.pointer (some ⟨b, 0, none⟩), .int .i64 st0, .int .i64 id, .func (.func f) #[] cap] w fun e w' =>
      e = .returned (.tuple #[Un.v { kind := 1, page := ((I.getD k 0 : Nat) : Int), slot := id % 8, st := C[k].a (id % 8).toNat, d := C[k].d (id % 8).toNat }, .int .i64 0]) ∧ w.grownBy w' (some mb) ∧ StageAt w' b mb hb pb (S.put ((I.getD k 0 : Nat) : Int) (C[k].setC (id % 8).toNat st d)) := by
  have hl := hs.lt
  obtain ⟨l1, l2, l3, l4⟩ := hs.lt
  have hn := hh.n1024
  have htop := hh.own k hk
  have hokq := hh.ok k hk
  have hfind := gfind_hit hh b mb hb pb id hid _ (hs.below ((Below.refl w.heap.size w).alloc (Nat.le_refl _) (.cells Un.zero.cs 74)) hl) k hk hhit
  have HF := Lib.hid hfind
  have HS := Lib.hid hs
  have HCl := Lib.hid hcl
  obtain ⟨f1, f2, f3, f4⟩ := hit_facts hhit
  obtain ⟨q, hq⟩ : ∃ q, C[k] = q := ⟨_, rfl⟩
  clear hfind hs hcl hh f4
  rw [hq] at HCl hokq HF ⊢
  clear hq
  obtain ⟨x, hx⟩ : ∃ x : Nat, I.getD k 0 = x := ⟨_, rfl⟩
  rw [hx] at f2 HF htop hhit ⊢
  clear hx
  obtain ⟨i, hi'⟩ : ∃ i : Nat, (id % 8).toNat = i := ⟨_, rfl⟩
  have hi : i < 6 := by omega
  have hi2 : id % 8 = (i : Int) := by omega
  rw [hi'] at HCl
  rw [hi2] at HF
  rw [hi', hi2]
  clear hi' hi2 hhit f3
  go_enter Tryz.func46, Tryz.ntmps46
  go_wp2_with fail
  refine HF.out.mono ?_; rintro e w1 ⟨rfl, hb1⟩
  have hz1 := hb1.size
  simp only [World.size_alloc] at hz1
  have R1 := rowAt_at w1 q.cs 38 _ rfl
  have cA := (cell_row R1 (4 + i * 2)).trans (cs_a q i hi)
  have cD := (cell_row R1 (4 + i * 2 + 1)).trans (cs_d q i hi)
  have R8 := (rowAt_below hb1 (by simp)).trans (rowAt_at w Un.zero.cs 74 _ rfl)
  have B1 : Below w.heap.size w w1 := ((Below.refl w.heap.size w).alloc (Nat.le_refl _) (.cells Un.zero.cs 74)).trans (hb1.mono (by simp))
  have HB1 := Lib.hid B1
  have R1' : rowAt ((w1.alloc (.cells q.cs 38)).alloc (.cells (Un.cs { kind := 1, page := (x : Int), slot := (i : Int), st := q.a i, d := q.d i }) 74)) w1.heap.size = some q.cs := (rowAt_past _ _ _ (by simp)).trans R1
  have cA' := (cell_row R1' (4 + i * 2)).trans (cs_a q i hi)
  have cD' := (cell_row R1' (4 + i * 2 + 1)).trans (cs_d q i hi)
  have R14 : rowAt ((w1.alloc (.cells q.cs 38)).alloc (.cells (Un.cs { kind := 1, page := (x : Int), slot := (i : Int), st := q.a i, d := q.d i }) 74)) (w1.heap.size + 1) = some (Un.cs { kind := 1, page := (x : Int), slot := (i : Int), st := q.a i, d := q.d i }) := rowAt_at _ _ _ _ (by simp)
  have R8' : rowAt ((w1.alloc (.cells q.cs 38)).alloc (.cells (Un.cs { kind := 1, page := (x : Int), slot := (i : Int), st := q.a i, d := q.d i }) 74)) w.heap.size = some Un.zero.cs := (rowAt_past _ _ _ (by simp; omega)).trans ((rowAt_past _ _ _ (by omega)).trans R8)
  have B2 : Below w.heap.size w ((w1.alloc (.cells q.cs 38)).alloc (.cells (Un.cs { kind := 1, page := (x : Int), slot := (i : Int), st := q.a i, d := q.d i }) 74)) := (B1.alloc (by omega) _).alloc (by simp; omega) _
  have HB2 := Lib.hid B2
  have HCl2 := Lib.hid (HCl.out _ B2)
  have hzW : ((w1.alloc (.cells q.cs 38)).alloc (.cells (Un.cs { kind := 1, page := (x : Int), slot := (i : Int), st := q.a i, d := q.d i }) 74)).heap.size = w1.heap.size + 1 + 1 := by simp
  clear hb1 B1 B2
  go_wp2_with fail
  clear cA cD cA' cD' R1 R8
  generalize ((w1.alloc (.cells q.cs 38)).alloc (.cells (Un.cs { kind := 1, page := (x : Int), slot := (i : Int), st := q.a i, d := q.d i }) 74)) = W2 at *
  refine HCl2.out.mono ?_; rintro e w3 ⟨rfl, hb3⟩
  have hz3 := hb3.size
  have R3 := (rowAt_below hb3 (by omega)).trans R1'
  have R14c := (rowAt_below hb3 (by omega)).trans R14
  have R8c := (rowAt_below hb3 (by omega)).trans R8'
  have cA := (cell_row R3 (4 + i * 2)).trans (cs_a q i hi)
  have cD := (cell_row R3 (4 + i * 2 + 1)).trans (cs_d q i hi)
  have fA := frozen_row R3 (4 + i * 2)
  have fD := frozen_row R3 (4 + i * 2 + 1)
  have B3 := Lib.hid (HB2.out.trans (hb3.mono (by omega)))
  clear hb3 R14 R8' R1'
  have R4 := rowAt_setCell_here _ _ (4 + i * 2 + 1) (.string d) _ (rowAt_setCell_here _ _ (4 + i * 2) (.int .i64 st) _ R3)
  rw [cs_setC q i hi st d] at R4
  have R14d : rowAt ((w3.setCell ⟨w1.heap.size, 4 + i * 2, none⟩ (.int .i64 st)).setCell ⟨w1.heap.size, 4 + i * 2 + 1, none⟩ (.string d)) (w1.heap.size + 1) = some (Un.cs { kind := 1, page := (x : Int), slot := (i : Int), st := q.a i, d := q.d i }) := (rowAt_setCell_far _ _ _ _ (by show w1.heap.size ≠ _; omega)).trans ((rowAt_setCell_far _ _ _ _ (by show w1.heap.size ≠ _; omega)).trans R14c)
  have R8d : rowAt ((w3.setCell ⟨w1.heap.size, 4 + i * 2, none⟩ (.int .i64 st)).setCell ⟨w1.heap.size, 4 + i * 2 + 1, none⟩ (.string d)) w.heap.size = some Un.zero.cs := (rowAt_setCell_far _ _ _ _ (by show w1.heap.size ≠ _; omega)).trans ((rowAt_setCell_far _ _ _ _ (by show w1.heap.size ≠ _; omega)).trans R8c)
  have B4 : Below w.heap.size w ((w3.setCell ⟨w1.heap.size, 4 + i * 2, none⟩ (.int .i64 st)).setCell ⟨w1.heap.size, 4 + i * 2 + 1, none⟩ (.string d)) := below_setCell (below_setCell B3.out ⟨w1.heap.size, 4 + i * 2, none⟩ (.int .i64 st) (by show w.heap.size ≤ w1.heap.size; omega)) ⟨w1.heap.size, 4 + i * 2 + 1, none⟩ (.string d) (by show w.heap.size ≤ w1.heap.size; omega)
  have hz4 : w1.heap.size + 1 < ((w3.setCell ⟨w1.heap.size, 4 + i * 2, none⟩ (.int .i64 st)).setCell ⟨w1.heap.size, 4 + i * 2 + 1, none⟩ (.string d)).heap.size := by simp only [World.size_setCell]; omega
  have HB4 := Lib.hid B4
  have HR4 := Lib.hid R4
  have HR14 := Lib.hid R14d
  have HR8 := Lib.hid R8d
  clear R4 R14d R8d B4 R14c R8c
  go_wp2_with fail
  clear cA cD fA fD R3
  generalize ((w3.setCell ⟨w1.heap.size, 4 + i * 2, none⟩ (.int .i64 st)).setCell ⟨w1.heap.size, 4 + i * 2 + 1, none⟩ (.string d)) = W4 at *
  have hst := HS.out.below HB4.out.drew hl
  have hset := set_any S b mb hb pb (x : Int) (q.setC i st d) _ hst
  have o1 : okSet (x : Int) (q.setC i st d) = true := okSet_one (ok_setC hokq i hi st d hok) _ (by omega) (by omega)
  have e0 : chkE true = 0 := rfl
  rw [o1, e0] at hset
  simp only [if_true] at hset
  have HSet := Lib.hid hset
  have U1 : rowAt W4.drew w1.heap.size = some (q.setC i st d).cs := HR4.out
  have U2 : rowAt W4.drew (w1.heap.size + 1) = some (Un.cs { kind := 1, page := (x : Int), slot := (i : Int), st := q.a i, d := q.d i }) := HR14.out
  have U3 : rowAt W4.drew w.heap.size = some Un.zero.cs := HR8.out
  clear hset o1 e0 hst
  go_region_held3 (fun W => rowAt W w1.heap.size = some (q.setC i st d).cs ∧ rowAt W (w1.heap.size + 1) = some (Un.cs { kind := 1, page := (x : Int), slot := (i : Int), st := q.a i, d := q.d i }))
    (first
      | exact ⟨U1, U2⟩
      | exact ⟨V1, V2⟩
      | exact ⟨(rowAt_setRow_far _ _ _ _ (by omega)).trans V1, (rowAt_setRow_far _ _ _ _ (by omega)).trans V2⟩)
    (first
      | ((go_at_call 16; refine HSet.out.mono ?_; rintro e w5 ⟨rfl, hg5, hs5⟩; have hz5 := hg5.size; have V1 := (rowAt_grown hg5 (show w1.heap.size < W4.heap.size by omega) (by omega)).trans U1; have V2 := (rowAt_grown hg5 (show w1.heap.size + 1 < W4.heap.size by omega) (by omega)).trans U2; have V3 := (rowAt_grown hg5 (show w.heap.size < W4.heap.size by omega) (by omega)).trans U3)))
  all_goals
    have RF := rowAt_setRow w5 w.heap.size _ (Un.cs { kind := 1, page := (x : Int), slot := (i : Int), st := q.a i, d := q.d i }) V3
    have hz6 : W4.heap.size ≤ w5.heap.size := hz5
    have BF : Below w.heap.size w5 (w5.setRow w.heap.size (Un.cs { kind := 1, page := (x : Int), slot := (i : Int), st := q.a i, d := q.d i })) := below_setRow (Below.refl _ _) _ (Nat.le_refl _)
    have GF := grown_below' ((grown_of_below HB4.out.drew (some mb)).trans hg5) BF
    have SF := hs5.below BF hl
    have HGF := Lib.hid GF
    have HSF := Lib.hid SF
    clear BF GF SF hg5 hs5 V1 V2 V3 U1 U2 U3 hz6
    generalize w5.setRow w.heap.size (Un.cs { kind := 1, page := (x : Int), slot := (i : Int), st := q.a i, d := q.d i }) = W at *
    go_wp2
    exact ret_un rfl rfl w.heap.size _ rfl RF ⟨rfl, HGF.out, HSF.out⟩
theorem cf55 (args : Array Value) (w : World) : (callFunc 47 args).run Tryz.prog w = .ok (.enter 47 args) w := by kernel_rfl
theorem infoCell : (Tryz.prog.info? 35).map (·.size) = some 2 := by kernel_rfl
theorem ret_cell {fn : Func} {R : Ending → World → Prop} {a : Act} {w : World} {pt : Tmp} (h : fn.results = #[.cell pt 35]) (hd : a.defers = []) (n : Nat) (c : Array Value) (hc : c.size = 2) (hp : a.tmps.getD pt undef = .pointer (some ⟨n, 0, none⟩)) (hr : rowAt w n = some c)
    (hR : R (.returned (.agg c)) w) : bodyPost Tryz.prog fn R .ret a w := by
  obtain ⟨t, ht⟩ := rowAt_heap hr
  exact bodyPost_ret (results_cell_row h a.tmps w n t c (0, 0) _ hp ht Tryz.underlying35 rfl (by rw [infoCell, hc])) hd hR
set_option maxHeartbeats 2000000 in
theorem del_clo (a : Int) (x : ByteArray) (w : World) :
    Calls Tryz.prog 47 #[.agg #[.int .i64 a, .string x]] w fun e w' => e = .returned (.agg #[.int .i64 2, .string x]) ∧ Below w.heap.size w w' := by
  go_enter Tryz.func47, Tryz.ntmps47
  go_wp2_with fail
  exact ret_cell rfl rfl (w.heap.size + 1) #[.int .i64 2, .string x] rfl rfl (rowAt_at _ _ _ _ (by simp)) ⟨rfl, ((Below.refl _ _).alloc (Nat.le_refl _) _).alloc (by simp) _⟩
set_option maxHeartbeats 4000000 in
set_option maxRecDepth 100000 in
theorem gchange_miss {S : Vol} {d m : Pg} {n : Nat} {st0 : Int} {I : List Nat} {C : List Pg} (hh : GH S d m n st0 I C) (b mb hb pb : Nat) (id : Int) (hid : id < 9223372036854775808) (hno : ∀ k (h : k < C.length), hitB (I.getD k 0) C[k] id = false) (v : Value) (w : World) (hs : StageAt w b mb hb pb S) :
    Calls Tryz.prog 46 #[.pointer (some ⟨b, 0, none⟩), .int .i64 st0, .int .i64 id, v] w fun e w' =>
      e = .returned (.tuple #[Un.zero.v, .int .i64 150]) ∧ Below w.heap.size w w' := by
  have HF := Lib.hid (gfind_miss hh b mb hb pb id hid _ (hs.below ((Below.refl w.heap.size w).alloc (Nat.le_refl _) (.cells Un.zero.cs 74)) hs.lt) hno)
  clear hh hno hs
  go_enter Tryz.func46, Tryz.ntmps46
  go_wp2_with fail
  refine HF.out.mono ?_; rintro e w1 ⟨⟨a, s, rfl⟩, hb1⟩
  have hz1 := hb1.size
  simp only [World.size_alloc] at hz1
  have R8 := (rowAt_past w1 (.cells Pg.zero.cs 38) w.heap.size (by omega)).trans ((rowAt_below hb1 (by simp)).trans (rowAt_at w Un.zero.cs 74 _ rfl))
  have RF := rowAt_setRow _ w.heap.size _ Un.zero.cs R8
  have B1 : Below w.heap.size w ((w1.alloc (.cells Pg.zero.cs 38)).setRow w.heap.size Un.zero.cs) := below_setRow ((((Below.refl w.heap.size w).alloc (Nat.le_refl _) (.cells Un.zero.cs 74)).trans (hb1.mono (by simp))).alloc (by omega) _) _ (Nat.le_refl _)
  have HB1 := Lib.hid B1
  clear hb1 B1
  go_wp2_with fail
  exact ret_un rfl rfl w.heap.size Un.zero rfl RF ⟨rfl, HB1.out⟩
/-- the undo of a change -/
def undoOf (I : List Nat) (C : List Pg) (id : Int) (k : Nat) : Un := { kind := 1, page := ((I.getD k 0 : Nat) : Int), slot := id % 8, st := (C.getD k Pg.zero).a (id % 8).toNat, d := (C.getD k Pg.zero).d (id % 8).toNat }
set_option maxHeartbeats 4000000 in
set_option maxRecDepth 100000 in
theorem gdelete_hit {S : Vol} {d m : Pg} {n : Nat} {st0 : Int} {I : List Nat} {C : List Pg} (hh : GH S d m n st0 I C) (b mb hb pb : Nat) (id : Int) (hid : id < 9223372036854775808) (k : Nat) (hk : k < C.length) (hhit : hitB (I.getD k 0) C[k] id = true) (w : World) (hs : StageAt w b mb hb pb S) :
    Calls Tryz.prog 24 #[.pointer (some ⟨b, 0, none⟩), .int .i64 st0, .int .i64 id] w fun e w' =>
      e = .returned (.tuple #[(undoOf I C id k).v, .int .i64 0]) ∧ w.grownBy w' (some mb) ∧ StageAt w' b mb hb pb (S.put ((I.getD k 0 : Nat) : Int) (C[k].setC (id % 8).toNat 2 (C[k].d (id % 8).toNat))) := by
  have hl := hs.lt
  have B2 : Below w.heap.size w (w.alloc (.cells Un.zero.cs 74)) := (Below.refl _ _).alloc (Nat.le_refl _) _
  obtain ⟨f1, f2, f3, f4⟩ := hit_facts hhit
  have hok2 : okC 2 (C[k].d (id % 8).toNat) = true := by
    have h3 := (okPg_to (hh.ok k hk)).2 (id % 8).toNat (by omega)
    simp only [okC, Bool.and_eq_true, decide_eq_true_eq] at h3
    simp [okC, h3.1.2]
  have hc := gchange_hit hh b mb hb pb id hid k hk hhit 47 #[] cf55 2 (C[k].d (id % 8).toNat) hok2 _ (hs.below B2 hl) (fun w' hb' => del_clo _ _ w')
  have HC := Lib.hid hc
  have HB2 := Lib.hid B2
  have hu : undoOf I C id k = { kind := 1, page := ((I.getD k 0 : Nat) : Int), slot := id % 8, st := C[k].a (id % 8).toNat, d := C[k].d (id % 8).toNat } := by rw [undoOf, getD_get hk]
  have R9 : rowAt (w.alloc (.cells Un.zero.cs 74)) w.heap.size = some Un.zero.cs := rowAt_at _ _ _ _ rfl
  rw [hu]
  generalize C[k] = q at *
  obtain ⟨u, hu'⟩ : ∃ u : Un, u = { kind := 1, page := ((I.getD k 0 : Nat) : Int), slot := id % 8, st := q.a (id % 8).toNat, d := q.d (id % 8).toNat } := ⟨_, rfl⟩
  rw [← hu'] at HC ⊢
  clear hh hs hc B2 hu hu' hhit f1 f2 f3 f4 hok2
  go_enter Tryz.func24, Tryz.ntmps24
  go_wp2_with fail
  refine HC.out.mono ?_; rintro e w3 ⟨rfl, hg3, hs3⟩
  have hz3 := hg3.size
  simp only [World.size_alloc] at hz3
  have R3 := (rowAt_grown hg3 (by simp) (by omega)).trans R9
  have RF := rowAt_setRow w3 w.heap.size _ u.cs R3
  have BF : Below w.heap.size w3 (w3.setRow w.heap.size u.cs) := below_setRow (Below.refl _ _) _ (by omega)
  have HGF := Lib.hid (grown_below' ((grown_of_below HB2.out (some mb)).trans hg3) BF)
  have HSF := Lib.hid (hs3.below BF hl)
  clear hg3 hs3 R9 BF
  go_wp2_with fail
  exact ret_un rfl rfl w.heap.size u rfl RF ⟨rfl, HGF.out, HSF.out⟩
set_option maxHeartbeats 4000000 in
set_option maxRecDepth 100000 in
theorem gdelete_miss {S : Vol} {d m : Pg} {n : Nat} {st0 : Int} {I : List Nat} {C : List Pg} (hh : GH S d m n st0 I C) (b mb hb pb : Nat) (id : Int) (hid : id < 9223372036854775808) (hno : ∀ k (h : k < C.length), hitB (I.getD k 0) C[k] id = false) (w : World) (hs : StageAt w b mb hb pb S) :
    Calls Tryz.prog 24 #[.pointer (some ⟨b, 0, none⟩), .int .i64 st0, .int .i64 id] w fun e w' => e = .returned (.tuple #[Un.zero.v, .int .i64 150]) ∧ Below w.heap.size w w' := by
  have B2 : Below w.heap.size w (w.alloc (.cells Un.zero.cs 74)) := (Below.refl _ _).alloc (Nat.le_refl _) _
  have HC := Lib.hid (gchange_miss hh b mb hb pb id hid hno (.func (.func 47) #[] #[]) _ (hs.below B2 hs.lt))
  have HB2 := Lib.hid B2
  have R9 : rowAt (w.alloc (.cells Un.zero.cs 74)) w.heap.size = some Un.zero.cs := rowAt_at _ _ _ _ rfl
  clear hh hno hs B2
  go_enter Tryz.func24, Tryz.ntmps24
  go_wp2_with fail
  refine HC.out.mono ?_; rintro e w3 ⟨rfl, hb3⟩
  have hz3 := hb3.size
  simp only [World.size_alloc] at hz3
  have R3 := (rowAt_below hb3 (by simp)).trans R9
  have RF := rowAt_setRow w3 w.heap.size _ Un.zero.cs R3
  have BF : Below w.heap.size w (w3.setRow w.heap.size Un.zero.cs) := below_setRow (HB2.out.trans (hb3.mono (by simp))) _ (Nat.le_refl _)
  have HBF := Lib.hid BF
  clear hb3 R9 BF
  go_wp2_with fail
  exact ret_un rfl rfl w.heap.size Un.zero rfl RF ⟨rfl, HBF.out⟩
end Go.Proofs.YtljommhbhpappaaGreat
