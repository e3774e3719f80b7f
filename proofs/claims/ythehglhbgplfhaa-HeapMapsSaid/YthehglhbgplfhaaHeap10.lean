/-
  Layer 15 (heap): Update, Delete, Restore.
-/
import Derived.Test.YthehglhbgplfhaaHeap9
namespace Go.Proofs.Ythehglhbgplfhaa
open Go.RowKit Go.Joins
set_option linter.unusedVariables false
set_option linter.unusedSimpArgs false

theorem cf54 (args : Array Value) (w : World) : (callFunc 54 args).run Try.prog w = .ok (.enter 54 args) w := by kernel_rfl
theorem cf55 (args : Array Value) (w : World) : (callFunc 55 args).run Try.prog w = .ok (.enter 55 args) w := by kernel_rfl
theorem infoCell : (Try.prog.info? 34).map (·.size) = some 2 := by kernel_rfl
theorem ret_cell {fn : Func} {R : Ending → World → Prop} {a : Act} {w : World} {pt : Tmp} (h : fn.results = #[.cell pt 34]) (hd : a.defers = []) (n : Nat) (c : Array Value) (hc : c.size = 2) (hp : a.tmps.getD pt undef = .pointer (some ⟨n, 0, none⟩)) (hr : rowAt w n = some c)
    (hR : R (.returned (.agg c)) w) : bodyPost Try.prog fn R .ret a w := by
  obtain ⟨t, ht⟩ := rowAt_heap hr
  exact bodyPost_ret (results_cell_row h a.tmps w n t c (0, 0) _ hp ht Try.underlying34 rfl (by rw [infoCell, hc])) hd hR

set_option maxHeartbeats 2000000 in
theorem upd_clo (a : Int) (x val : ByteArray) (c : Nat) (w : World) (k : w.heap[c]? = some (.cells #[.string val] 9)) :
    Calls Try.prog 54 #[.agg #[.int .i64 a, .string x], .pointer (some ⟨c, 0, none⟩)] w fun e w' => e = .returned (.agg #[.int .i64 1, .string val]) ∧ Below w.heap.size w w' := by
  have l := (Array.getElem?_eq_some_iff.1 k).1
  have c1 := (cell_of_block k 0).trans rfl
  go_enter Try.func54, Try.ntmps54
  go_wp2_with fail
  exact ret_cell rfl rfl (w.heap.size + 1) #[.int .i64 1, .string val] rfl rfl (rowAt_at _ _ _ _ (by simp)) ⟨rfl, ((Below.refl _ _).alloc (Nat.le_refl _) _).alloc (by simp) _⟩
set_option maxHeartbeats 2000000 in
theorem del_clo (a : Int) (x : ByteArray) (w : World) :
    Calls Try.prog 55 #[.agg #[.int .i64 a, .string x]] w fun e w' => e = .returned (.agg #[.int .i64 2, .string x]) ∧ Below w.heap.size w w' := by
  go_enter Try.func55, Try.ntmps55
  go_wp2_with fail
  exact ret_cell rfl rfl (w.heap.size + 1) #[.int .i64 2, .string x] rfl rfl (rowAt_at _ _ _ _ (by simp)) ⟨rfl, ((Below.refl _ _).alloc (Nat.le_refl _) _).alloc (by simp) _⟩
set_option maxHeartbeats 4000000 in
set_option maxRecDepth 100000 in
theorem change_miss {S : Vol} {n : Nat} {C : List Pg} (hh : HeapOk S n C) (b mb hb pb : Nat) (id : Int) (hid : id < 9223372036854775808) (hno : ∀ k (h : k < C.length), hitB (2 + k) C[k] id = false) (v : Value) (w : World) (hs : StageAt w b mb hb pb S) :
    Calls Try.prog 53 #[.pointer (some ⟨b, 0, none⟩), .int .i64 1, .int .i64 id, v] w fun e w' =>
      e = .returned (.tuple #[Un.zero.v, .int .i64 150]) ∧ Below w.heap.size w w' := by
  have HF := Lib.hid (find_miss hh b mb hb pb id hid _ (hs.below ((Below.refl w.heap.size w).alloc (Nat.le_refl _) (.cells Un.zero.cs 36)) hs.lt) hno)
  clear hh hno hs
  go_enter Try.func53, Try.ntmps53
  go_wp2_with fail
  refine HF.out.mono ?_; rintro e w1 ⟨⟨a, s, rfl⟩, hb1⟩
  have hz1 := hb1.size
  simp only [World.size_alloc] at hz1
  have R8 := (rowAt_past w1 (.cells Pg.zero.cs 41) w.heap.size (by omega)).trans ((rowAt_below hb1 (by simp)).trans (rowAt_at w Un.zero.cs 36 _ rfl))
  have RF := rowAt_setRow _ w.heap.size _ Un.zero.cs R8
  have B1 : Below w.heap.size w ((w1.alloc (.cells Pg.zero.cs 41)).setRow w.heap.size Un.zero.cs) := below_setRow ((((Below.refl w.heap.size w).alloc (Nat.le_refl _) (.cells Un.zero.cs 36)).trans (hb1.mono (by simp))).alloc (by omega) _) _ (Nat.le_refl _)
  have HB1 := Lib.hid B1
  clear hb1 B1
  go_wp2_with fail
  exact ret_un rfl rfl w.heap.size Un.zero rfl RF ⟨rfl, HB1.out⟩

/-- the undo of a change -/
def undoOf (C : List Pg) (id : Int) (k : Nat) : Un := { kind := 1, page := ((2 + k : Nat) : Int), slot := id % 8, st := (C.getD k Pg.zero).a (id % 8).toNat, d := (C.getD k Pg.zero).d (id % 8).toNat }

set_option maxHeartbeats 4000000 in
set_option maxRecDepth 100000 in
theorem update_long (a b c : Value) (val : ByteArray) (hv : 32 < val.size) (w : World) :
    Calls Try.prog 34 #[a, b, c, .string val] w fun e w' => e = .returned (.tuple #[Un.zero.v, .int .i64 2]) ∧ Below w.heap.size w w' := by
  go_enter Try.func34, Try.ntmps34
  go_wp2_with fail
  exact ret_un rfl rfl (w.heap.size + 1) Un.zero rfl (by simp [go_sem]) ⟨rfl, ((Below.refl _ _).alloc (Nat.le_refl _) _).alloc (by simp) _⟩

set_option maxHeartbeats 4000000 in
set_option maxRecDepth 100000 in
theorem update_hit {S : Vol} {n : Nat} {C : List Pg} (hh : HeapOk S n C) (b mb hb pb : Nat) (id : Int) (hid : id < 9223372036854775808) (k : Nat) (hk : k < C.length) (hhit : hitB (2 + k) C[k] id = true) (val : ByteArray) (hv : val.size ≤ 32) (w : World) (hs : StageAt w b mb hb pb S) :
    Calls Try.prog 34 #[.pointer (some ⟨b, 0, none⟩), .int .i64 1, .int .i64 id, .string val] w fun e w' =>
      e = .returned (.tuple #[(undoOf C id k).v, .int .i64 0]) ∧ w.grownBy w' (some mb) ∧ StageAt w' b mb hb pb (S.put ((2 + k : Nat) : Int) (C[k].setC (id % 8).toNat 1 val)) := by
  have hl := hs.lt
  have B2 : Below w.heap.size w ((w.alloc (.cells #[.string val] 9)).alloc (.cells Un.zero.cs 36)) := ((Below.refl _ _).alloc (Nat.le_refl _) _).alloc (by simp) _
  have k2 : ((w.alloc (.cells #[.string val] 9)).alloc (.cells Un.zero.cs 36)).heap[w.heap.size]? = some (.cells #[.string val] 9) := (Below.heap_alloc _ _ _ (by simp)).trans (heap_alloc_new _ _)
  have hc := change_hit hh b mb hb pb id hid k hk hhit 54 #[.pointer (some ⟨w.heap.size, 0, none⟩)] cf54 1 val (by simp [okC]; omega) _ (hs.below B2 hl)
    (fun w' hb' => upd_clo _ _ val w.heap.size w' ((hb'.block _ (by simp; omega)).trans k2))
  have HC := Lib.hid hc
  have HB2 := Lib.hid B2
  have hcc : ((w.alloc (.cells #[.string val] 9)).alloc (.cells Un.zero.cs 36)).cell? ⟨w.heap.size, 0, none⟩ = some (.string val) := (cell_of_block k2 0).trans rfl
  have hu : undoOf C id k = { kind := 1, page := ((2 + k : Nat) : Int), slot := id % 8, st := C[k].a (id % 8).toNat, d := C[k].d (id % 8).toNat } := by rw [undoOf, getD_get hk]
  have R9 : rowAt ((w.alloc (.cells #[.string val] 9)).alloc (.cells Un.zero.cs 36)) (w.heap.size + 1) = some Un.zero.cs := rowAt_at _ _ _ _ (by simp)
  rw [hu]
  generalize C[k] = q at *
  obtain ⟨u, hu'⟩ : ∃ u : Un, u = { kind := 1, page := ((2 + k : Nat) : Int), slot := id % 8, st := q.a (id % 8).toNat, d := q.d (id % 8).toNat } := ⟨_, rfl⟩
  rw [← hu'] at HC ⊢
  clear hh hs hc B2 k2 hu hu' hhit
  go_enter Try.func34, Try.ntmps34
  go_wp2_with fail
  refine HC.out.mono ?_; rintro e w3 ⟨rfl, hg3, hs3⟩
  have hz3 := hg3.size
  simp only [World.size_alloc] at hz3
  have R3 := (rowAt_grown hg3 (by simp) (by omega)).trans R9
  have RF := rowAt_setRow w3 (w.heap.size + 1) _ u.cs R3
  have BF : Below w.heap.size w3 (w3.setRow (w.heap.size + 1) u.cs) := below_setRow (Below.refl _ _) _ (by omega)
  have HGF := Lib.hid (grown_below' ((grown_of_below HB2.out (some mb)).trans hg3) BF)
  have HSF := Lib.hid (hs3.below BF hl)
  clear hg3 hs3 R9 hcc BF
  go_wp2_with fail
  exact ret_un rfl rfl (w.heap.size + 1) u rfl RF ⟨rfl, HGF.out, HSF.out⟩

set_option maxHeartbeats 4000000 in
set_option maxRecDepth 100000 in
theorem update_miss {S : Vol} {n : Nat} {C : List Pg} (hh : HeapOk S n C) (b mb hb pb : Nat) (id : Int) (hid : id < 9223372036854775808) (hno : ∀ k (h : k < C.length), hitB (2 + k) C[k] id = false) (val : ByteArray) (hv : val.size ≤ 32) (w : World) (hs : StageAt w b mb hb pb S) :
    Calls Try.prog 34 #[.pointer (some ⟨b, 0, none⟩), .int .i64 1, .int .i64 id, .string val] w fun e w' => e = .returned (.tuple #[Un.zero.v, .int .i64 150]) ∧ Below w.heap.size w w' := by
  have B2 : Below w.heap.size w ((w.alloc (.cells #[.string val] 9)).alloc (.cells Un.zero.cs 36)) := ((Below.refl _ _).alloc (Nat.le_refl _) _).alloc (by simp) _
  have k2 : ((w.alloc (.cells #[.string val] 9)).alloc (.cells Un.zero.cs 36)).heap[w.heap.size]? = some (.cells #[.string val] 9) := (Below.heap_alloc _ _ _ (by simp)).trans (heap_alloc_new _ _)
  have HC := Lib.hid (change_miss hh b mb hb pb id hid hno (.func (.func 54) #[] #[.pointer (some ⟨w.heap.size, 0, none⟩)]) _ (hs.below B2 hs.lt))
  have HB2 := Lib.hid B2
  have hcc : ((w.alloc (.cells #[.string val] 9)).alloc (.cells Un.zero.cs 36)).cell? ⟨w.heap.size, 0, none⟩ = some (.string val) := (cell_of_block k2 0).trans rfl
  have R9 : rowAt ((w.alloc (.cells #[.string val] 9)).alloc (.cells Un.zero.cs 36)) (w.heap.size + 1) = some Un.zero.cs := rowAt_at _ _ _ _ (by simp)
  clear hh hno hs B2 k2
  go_enter Try.func34, Try.ntmps34
  go_wp2_with fail
  refine HC.out.mono ?_; rintro e w3 ⟨rfl, hb3⟩
  have hz3 := hb3.size
  simp only [World.size_alloc] at hz3
  have R3 := (rowAt_below hb3 (by simp)).trans R9
  have RF := rowAt_setRow w3 (w.heap.size + 1) _ Un.zero.cs R3
  have BF : Below w.heap.size w (w3.setRow (w.heap.size + 1) Un.zero.cs) := below_setRow (HB2.out.trans (hb3.mono (by simp; omega))) _ (by omega)
  have HBF := Lib.hid BF
  clear hb3 R9 hcc BF
  go_wp2_with fail
  exact ret_un rfl rfl (w.heap.size + 1) Un.zero rfl RF ⟨rfl, HBF.out⟩

set_option maxHeartbeats 4000000 in
set_option maxRecDepth 100000 in
theorem delete_hit {S : Vol} {n : Nat} {C : List Pg} (hh : HeapOk S n C) (b mb hb pb : Nat) (id : Int) (hid : id < 9223372036854775808) (k : Nat) (hk : k < C.length) (hhit : hitB (2 + k) C[k] id = true) (w : World) (hs : StageAt w b mb hb pb S) :
    Calls Try.prog 35 #[.pointer (some ⟨b, 0, none⟩), .int .i64 1, .int .i64 id] w fun e w' =>
      e = .returned (.tuple #[(undoOf C id k).v, .int .i64 0]) ∧ w.grownBy w' (some mb) ∧ StageAt w' b mb hb pb (S.put ((2 + k : Nat) : Int) (C[k].setC (id % 8).toNat 2 (C[k].d (id % 8).toNat))) := by
  have hl := hs.lt
  have B2 : Below w.heap.size w (w.alloc (.cells Un.zero.cs 36)) := (Below.refl _ _).alloc (Nat.le_refl _) _
  obtain ⟨f1, f2, f3, f4⟩ := hit_facts hhit
  have hok2 : okC 2 (C[k].d (id % 8).toNat) = true := by
    have h3 := (okPg_to (hh.ok k hk)).2 (id % 8).toNat (by omega)
    simp only [okC, Bool.and_eq_true, decide_eq_true_eq] at h3
    simp [okC, h3.1.2]
  have hc := change_hit hh b mb hb pb id hid k hk hhit 55 #[] cf55 2 (C[k].d (id % 8).toNat) hok2 _ (hs.below B2 hl) (fun w' hb' => del_clo _ _ w')
  have HC := Lib.hid hc
  have HB2 := Lib.hid B2
  have hu : undoOf C id k = { kind := 1, page := ((2 + k : Nat) : Int), slot := id % 8, st := C[k].a (id % 8).toNat, d := C[k].d (id % 8).toNat } := by rw [undoOf, getD_get hk]
  have R9 : rowAt (w.alloc (.cells Un.zero.cs 36)) w.heap.size = some Un.zero.cs := rowAt_at _ _ _ _ rfl
  rw [hu]
  generalize C[k] = q at *
  obtain ⟨u, hu'⟩ : ∃ u : Un, u = { kind := 1, page := ((2 + k : Nat) : Int), slot := id % 8, st := q.a (id % 8).toNat, d := q.d (id % 8).toNat } := ⟨_, rfl⟩
  rw [← hu'] at HC ⊢
  clear hh hs hc B2 hu hu' hhit f1 f2 f3 f4 hok2
  go_enter Try.func35, Try.ntmps35
  go_wp2_with fail
  refine HC.out.mono ?_; rintro e w3 ⟨rfl, hg3, hs3⟩
  have hz3 := hg3.size
  simp only [World.size_alloc] at hz3
  have R3 := (rowAt_grown hg3 (by simp) (by omega)).trans R9
  have RF := rowAt_setRow w3 w.heap.size _ u.cs R3
  have BF : Below w.heap.size w3 (w3.setRow w.heap.size u.cs) := below_setRow (Below.refl _ _) _ (by omega)
  have HGF := Lib.hid (grown_below' ((grown_of_below HB2.out (some mb)).trans hg3) BF)
  have HSF := Lib.hid (hs3.below BF hl)
  clear hg3 hs3 R9 BF
  go_wp2_with fail
  exact ret_un rfl rfl w.heap.size u rfl RF ⟨rfl, HGF.out, HSF.out⟩

set_option maxHeartbeats 4000000 in
set_option maxRecDepth 100000 in
theorem delete_miss {S : Vol} {n : Nat} {C : List Pg} (hh : HeapOk S n C) (b mb hb pb : Nat) (id : Int) (hid : id < 9223372036854775808) (hno : ∀ k (h : k < C.length), hitB (2 + k) C[k] id = false) (w : World) (hs : StageAt w b mb hb pb S) :
    Calls Try.prog 35 #[.pointer (some ⟨b, 0, none⟩), .int .i64 1, .int .i64 id] w fun e w' => e = .returned (.tuple #[Un.zero.v, .int .i64 150]) ∧ Below w.heap.size w w' := by
  have B2 : Below w.heap.size w (w.alloc (.cells Un.zero.cs 36)) := (Below.refl _ _).alloc (Nat.le_refl _) _
  have HC := Lib.hid (change_miss hh b mb hb pb id hid hno (.func (.func 55) #[] #[]) _ (hs.below B2 hs.lt))
  have HB2 := Lib.hid B2
  have R9 : rowAt (w.alloc (.cells Un.zero.cs 36)) w.heap.size = some Un.zero.cs := rowAt_at _ _ _ _ rfl
  clear hh hno hs B2
  go_enter Try.func35, Try.ntmps35
  go_wp2_with fail
  refine HC.out.mono ?_; rintro e w3 ⟨rfl, hb3⟩
  have hz3 := hb3.size
  simp only [World.size_alloc] at hz3
  have R3 := (rowAt_below hb3 (by simp)).trans R9
  have RF := rowAt_setRow w3 w.heap.size _ Un.zero.cs R3
  have BF : Below w.heap.size w (w3.setRow w.heap.size Un.zero.cs) := below_setRow (HB2.out.trans (hb3.mono (by simp))) _ (Nat.le_refl _)
  have HBF := Lib.hid BF
  clear hb3 R9 BF
  go_wp2_with fail
  exact ret_un rfl rfl w.heap.size Un.zero rfl RF ⟨rfl, HBF.out⟩

set_option maxHeartbeats 4000000 in
set_option maxRecDepth 100000 in
/-- Restore of a cell of one of the heap's pages -/
theorem restore_ok {S : Vol} {n : Nat} {C : List Pg} (hh : HeapOk S n C) (b mb hb pb : Nat) (u : Un) (k i : Nat) (hk : k < C.length) (hi : i < 6) (h1 : u.kind = 1) (h2 : u.page = ((2 + k : Nat) : Int)) (h3 : u.slot = (i : Int)) (hok : okC u.st u.d = true) (w : World) (hs : StageAt w b mb hb pb S) :
    Calls Try.prog 38 #[.pointer (some ⟨b, 0, none⟩), u.v] w fun e w' => e = .returned (.int .i64 0) ∧ w.grownBy w' (some mb) ∧ StageAt w' b mb hb pb (S.put ((2 + k : Nat) : Int) (C[k].setC i u.st u.d)) := by
  have hl := hs.lt
  obtain ⟨l1, l2, l3, l4⟩ := hs.lt
  have hn := hh.n1024
  have htop := hh.top
  have hokq := hh.ok k hk
  have B1 : Below w.heap.size w (w.alloc (.cells u.cs 36)) := (Below.refl _ _).alloc (Nat.le_refl _) _
  have hc := get_any S b mb hb pb ((2 + k : Nat) : Int) _ (hs.below B1 hl)
  rw [hh.pg k hk, hh.there k hk] at hc
  have HC := Lib.hid hc
  have HS := Lib.hid hs
  have HB1 := Lib.hid B1
  have R3 := rowAt_at w u.cs 36 _ rfl
  generalize C[k] = q at *
  have c0 : (w.alloc (.cells u.cs 36)).cell? ⟨w.heap.size, 0, none⟩ = some (.int .i64 1) := by rw [cell_row R3 0, ← h1]; rfl
  have c2 : (w.alloc (.cells u.cs 36)).cell? ⟨w.heap.size, 2, none⟩ = some (.int .i64 ((2 + k : Nat) : Int)) := by rw [cell_row R3 2, ← h2]; rfl
  have c3 : (w.alloc (.cells u.cs 36)).cell? ⟨w.heap.size, 3, none⟩ = some (.int .i64 (i : Int)) := by rw [cell_row R3 3, ← h3]; rfl
  have hi6 : (i : Int) < 6 := by omega
  have n0 : decide ((i : Int) < 0) = false := by simp
  have n6 : decide (6 ≤ (i : Int)) = false := by simp; omega
  clear hh hs hc B1
  go_enter Try.func38, Try.ntmps38
  go_wp2_with fail
  refine HC.out.mono ?_; rintro e w1 ⟨rfl, hb1⟩
  have hz1 := hb1.size
  simp only [World.size_alloc] at hz1
  have R3b : rowAt (w1.alloc (.cells q.cs 41)) w.heap.size = some u.cs := (rowAt_past _ _ _ (by omega)).trans ((rowAt_below hb1 (by simp)).trans R3)
  have d2 : (w1.alloc (.cells q.cs 41)).cell? ⟨w.heap.size, 2, none⟩ = some (.int .i64 ((2 + k : Nat) : Int)) := by rw [cell_row R3b 2, ← h2]; rfl
  have d3 : (w1.alloc (.cells q.cs 41)).cell? ⟨w.heap.size, 3, none⟩ = some (.int .i64 (i : Int)) := by rw [cell_row R3b 3, ← h3]; rfl
  have d5 : (w1.alloc (.cells q.cs 41)).cell? ⟨w.heap.size, 5, none⟩ = some (.int .i64 u.st) := (cell_row R3b 5).trans rfl
  have d6 : (w1.alloc (.cells q.cs 41)).cell? ⟨w.heap.size, 6, none⟩ = some (.string u.d) := (cell_row R3b 6).trans rfl
  have R1 := rowAt_at w1 q.cs 41 _ rfl
  have cA := (cell_row R1 (4 + i * 2)).trans (cs_a q i hi)
  have cD := (cell_row R1 (4 + i * 2 + 1)).trans (cs_d q i hi)
  have fA := frozen_row R1 (4 + i * 2)
  have fD := frozen_row R1 (4 + i * 2 + 1)
  have B2 : Below w.heap.size w (w1.alloc (.cells q.cs 41)) := (HB1.out.trans (hb1.mono (by simp))).alloc (by omega) _
  have ecs := cs_setC q i hi u.st u.d
  have ka := cs_a q i hi
  have kd := cs_d q i hi
  have b2 : w1.cell? ⟨w.heap.size, 2, none⟩ = some (.int .i64 ((2 + k : Nat) : Int)) := by rw [cell_row ((rowAt_below hb1 (by simp)).trans R3) 2, ← h2]; rfl
  have R4 := rowAt_at w1 (q.setC i u.st u.d).cs 41 _ rfl
  have g2 : (w1.alloc (.cells (q.setC i u.st u.d).cs 41)).cell? ⟨w.heap.size, 2, none⟩ = some (.int .i64 ((2 + k : Nat) : Int)) := by
    have : rowAt (w1.alloc (.cells (q.setC i u.st u.d).cs 41)) w.heap.size = some u.cs := (rowAt_past _ _ _ (by omega)).trans ((rowAt_below hb1 (by simp)).trans R3)
    rw [cell_row this 2, ← h2]; rfl
  have B4 : Below w.heap.size w (w1.alloc (.cells (q.setC i u.st u.d).cs 41)) := (HB1.out.trans (hb1.mono (by simp))).alloc (by omega) _
  have hset := set_any S b mb hb pb ((2 + k : Nat) : Int) (q.setC i u.st u.d) _ (HS.out.below B4 hl)
  have o1 : okSet ((2 + k : Nat) : Int) (q.setC i u.st u.d) = true := okSet_one (ok_setC hokq i hi u.st u.d hok) _ (by omega) (by omega)
  have e0 : chkE true = 0 := rfl
  rw [o1, e0] at hset
  simp only [if_true] at hset
  have HSet := Lib.hid hset
  have HB4 := Lib.hid B4
  clear hb1 c0 c2 c3 h1 h2 h3 hset o1 e0 B4 B2
  go_wp2_with fail
  refine HSet.out.mono ?_; rintro e w5 ⟨rfl, hg5, hs5⟩
  have HGF := Lib.hid ((grown_of_below HB4.out (some mb)).trans hg5)
  have HSF := Lib.hid hs5
  clear hg5 hs5
  go_wp2_with fail
  go_ret
  exact ⟨rfl, HGF.out, HSF.out⟩
end Go.Proofs.Ythehglhbgplfhaa
