/-
  Layer 15 (heap), for any chain of pages: a page more.
-/
import Derived.Test.YtljommhbhpappaaGreatHg4
import Derived.Test.YtljommhbhpappaaGreatPkPut
namespace Go.Proofs.YtljommhbhpappaaGreat
open Go.RowKit Go.Joins
set_option linter.unusedVariables false
set_option linter.unusedSimpArgs false

/-- a page that leads on -/
def Pg.link (p : Pg) (x : Int) : Pg := { p with n := x }
theorem link_a (p : Pg) (x : Int) (i : Nat) : (p.link x).a i = p.a i := rfl
theorem link_d (p : Pg) (x : Int) (i : Nat) : (p.link x).d i = p.d i := rfl
theorem link_ok {p : Pg} {x : Int} (h : okPg p = true) (h0 : 0 ≤ x) (h1 : x < 1024) : okPg (p.link x) = true := by
  obtain ⟨h2, h3⟩ := okPg_to h
  refine okPg_of ?_ h3
  simp only [okH, Bool.and_eq_true, decide_eq_true_eq] at h2 ⊢
  exact ⟨⟨h2.1.1, h0⟩, h1⟩
theorem results_tct {fn : Func} {p u v : Tmp} {ty : TypeId} (h : fn.results = #[.tmp u, .cell p ty, .tmp v]) (tmps : Array Value) (P : Program) (w : World) :
    (results fn tmps).run P w = ((asAddr (tmps.getD p undef)).run P w).andThen fun a w₁ => ((loadVar ty a).run P w₁).andThen fun x w₂ => .ok (.tuple #[tmps.getD u undef, x, tmps.getD v undef]) w₂ := by
  simp only [results, h]
  simp [Sem.run_bind, Result.andThen]
/-- the end of a function that hands back a number, a page, a number -/
theorem ret_tpt {fn : Func} {R : Ending → World → Prop} {a : Act} {w : World} {pt u v : Tmp} (h : fn.results = #[.tmp u, .cell pt 38, .tmp v]) (hd : a.defers = []) (n : Nat) (p : Pg) (hp : a.tmps.getD pt undef = .pointer (some ⟨n, 0, none⟩)) (hr : rowAt w n = some p.cs)
    (hR : R (.returned (.tuple #[a.tmps.getD u undef, p.v, a.tmps.getD v undef])) w) : bodyPost Tryz.prog fn R .ret a w := by
  refine bodyPost_ret ?_ hd hR
  rw [results_tct h, hp]
  have hl := run_loadPage w n (by rw [hr]; rfl)
  rw [hr] at hl
  simp only [asAddr, Sem.run_pure, Result.andThen_ok, hl]
  rfl
/-- the end of a function that hands back a number, an undo, a number -/
theorem ret_tut {fn : Func} {R : Ending → World → Prop} {a : Act} {w : World} {pt u v : Tmp} (h : fn.results = #[.tmp u, .cell pt 74, .tmp v]) (hd : a.defers = []) (n : Nat) (p : Un) (hp : a.tmps.getD pt undef = .pointer (some ⟨n, 0, none⟩)) (hr : rowAt w n = some p.cs)
    (hR : R (.returned (.tuple #[a.tmps.getD u undef, p.v, a.tmps.getD v undef])) w) : bodyPost Tryz.prog fn R .ret a w := by
  refine bodyPost_ret ?_ hd hR
  rw [results_tct h, hp]
  simp only [asAddr, Sem.run_pure, Result.andThen_ok, run_loadUnRow w n p hr]
theorem cs_link (p : Pg) (x : Int) : p.cs.setIfInBounds 3 (.int .i64 x) = (p.link x).cs := rfl
/-- a page more for a heap -/
def freshG (st : Int) : Pg := { k := 3, s := st }
theorem freshG_ok (st : Int) (h : 1 ≤ st ∧ st ≤ 6) : okPg (freshG st) = true := by
  have := ok_root 3 (st - 1) (by omega) (by omega) (by omega) (by omega)
  rw [show st - 1 + 1 = st from by omega] at this
  exact this
set_option maxHeartbeats 4000000 in
set_option maxRecDepth 100000 in
theorem ggrow_ok {S : Vol} {d m : Pg} {n : Nat} (hv : VolOk S d m n) (st : Int) (hst : 1 ≤ st ∧ st ≤ 6) (la : Nat) (q : Pg) (hq : okPg q = true) (hla : 2 ≤ la ∧ la < n) {id : Nat} {S1 : Vol} {m1 : Pg} (ht : takeV n S m = some (id, S1, m1)) (b mb hb pb : Nat) (w : World) (hs : StageAt w b mb hb pb S) :
    Calls Tryz.prog 44 #[.pointer (some ⟨b, 0, none⟩), .int .i64 st, .int .i64 (la : Int), q.v] w fun e w' => e = .returned (.tuple #[.int .i64 (id : Int), (freshG st).v, .int .i64 0]) ∧ w.grownBy w' (some mb) ∧ StageAt w' b mb hb pb ((S1.put (la : Int) (q.link (id : Int))).put (id : Int) (freshG st)) := by
  obtain ⟨l1, l2, l3, l4⟩ := hs.lt
  have hn := hv.map.hi
  obtain ⟨hS1, -, h2, hid2, hbf, hbel, -, -⟩ := takeV_some hv ht
  have HT := Lib.hid (fun w' h => take_some S b mb hb pb m n w' h hv.map id hid2 hbf hbel)
  rw [← hS1] at HT
  have o2 : okSet (la : Int) (q.link (id : Int)) = true := okSet_one (link_ok hq (by omega) (by omega)) _ (by omega) (by omega)
  have o3 : okSet (id : Int) (freshG st) = true := okSet_one (freshG_ok st hst) _ (by omega) (by omega)
  have HO2 := Lib.hid o2
  have HO3 := Lib.hid o3
  have HS := Lib.hid hs
  obtain ⟨S3, hS3⟩ : ∃ S3, ((S1.put (la : Int) (q.link (id : Int))).put (id : Int) (freshG st)) = S3 := ⟨_, rfl⟩
  have HSG := Lib.hid hS3
  rw [hS3]
  clear hS3 hs hv o2 o3 ht hS1 hbf hbel
  go_enter Tryz.func44, Tryz.ntmps44
  go_wp2_with fail
  have B1 : Below w.heap.size w ((w.alloc (.cells q.cs 38)).alloc (.cells Pg.zero.cs 38)) := ((Below.refl _ _).alloc (Nat.le_refl _) _).alloc (by simp) _
  refine (HT.out _ (HS.out.below B1 ⟨l1, l2, l3, l4⟩)).mono ?_; rintro e w2 ⟨rfl, hg2, hs2⟩
  have hz2 := hg2.size
  simp only [World.size_alloc] at hz2
  have R7 : rowAt w2 w.heap.size = some q.cs := (rowAt_grown hg2 (by simp; omega) (by omega)).trans ((rowAt_past _ _ _ (by simp)).trans (rowAt_at w _ _ _ rfl))
  have R9 : rowAt w2 (w.heap.size + 1) = some Pg.zero.cs := (rowAt_grown hg2 (by simp) (by omega)).trans (rowAt_at _ _ _ _ (by simp))
  have G2 := Lib.hid ((grown_of_below B1 (some mb)).trans hg2)
  have HS2 := Lib.hid hs2
  clear hg2 hs2 B1
  have c3 : w2.cell? ⟨w.heap.size, 3, none⟩ = some (.int .i64 q.n) := (cell_row R7 3).trans rfl
  have f3 := frozen_row R7 3
  have R7b := rowAt_setCell_here _ _ 3 (.int .i64 (id : Int)) _ R7
  rw [cs_link] at R7b
  have R9b := (rowAt_setCell_far w2 ⟨w.heap.size, 3, none⟩ (.int .i64 (id : Int)) (w.heap.size + 1) (by simp)).trans R9
  have BW : Below w.heap.size w2 (w2.setCell ⟨w.heap.size, 3, none⟩ (.int .i64 (id : Int))) := below_setCell (Below.refl _ _) _ _ (Nat.le_refl _)
  have HBW := Lib.hid BW
  have hzW := BW.size
  clear BW
  go_wp2_with fail
  refine (set_any _ b mb hb pb la (q.link (id : Int)) _ (HS2.out.below HBW.out ⟨l1, l2, l3, l4⟩)).mono ?_; rintro e w3 ⟨rfl, hg3, hs3⟩
  have hz3 := hg3.size
  have R9c := (rowAt_grown hg3 (by omega) (by omega)).trans R9b
  rw [HO2.out] at hs3 ⊢
  have e0 : chkE true = 0 := rfl
  rw [e0]
  simp only [if_true] at hs3
  have HS3 := Lib.hid hs3
  have HG3 := Lib.hid hg3
  clear hs3 hg3 R9 R9b R7 R7b c3 f3
  have hlt : w.heap.size + 1 < w3.heap.size := by omega
  go_wp2_with fail
  have B4 : Below w3.heap.size w3 (w3.alloc (.cells (Pg.cs { k := 3, s := st }) 38)).drew := ((Below.refl _ _).alloc (Nat.le_refl _) _).drew
  have Ra : rowAt (w3.alloc (.cells (Pg.cs { k := 3, s := st }) 38)).drew w3.heap.size = some (Pg.cs { k := 3, s := st }) := rowAt_at w3 _ _ _ rfl
  have Rb : rowAt (w3.alloc (.cells (Pg.cs { k := 3, s := st }) 38)).drew (w.heap.size + 1) = some Pg.zero.cs := (rowAt_past w3 _ _ hlt).trans R9c
  have hs4 := HS3.out.below B4 ⟨by omega, by omega, by omega, by omega⟩
  have hc4 := set_any _ b mb hb pb id { k := 3, s := st } _ hs4
  have ho3 : okSet (id : Int) { k := 3, s := st } = true := HO3.out
  rw [ho3, e0] at hc4
  simp only [if_true] at hc4
  have HC4 := Lib.hid hc4
  have HB4 := Lib.hid B4
  clear hs4 hc4 B4 ho3
  go_region_held3 (fun W => rowAt W w3.heap.size = some (Pg.cs { k := 3, s := st }))
    (first
      | exact Ra
      | exact U1
      | exact (rowAt_setRow_far _ _ _ _ (by omega)).trans U1)
    (first
      | ((go_at_call 16; refine HC4.out.mono ?_; rintro e w5 ⟨rfl, hg5, hs5⟩; have hz5 := hg5.size; have U1 := (rowAt_grown hg5 (by simp) (by omega)).trans Ra; have U2 := (rowAt_grown hg5 (by simp; omega) (by omega)).trans Rb)))
  all_goals
    have RF := rowAt_setRow w5 (w.heap.size + 1) _ (Pg.cs { k := 3, s := st }) U2
    have hzz := World.size_alloc w3 (.cells (Pg.cs { k := 3, s := st }) 38)
    have hz6 : w3.heap.size + 1 ≤ w5.heap.size := by simpa using hz5
    have BF : Below w.heap.size w5 (w5.setRow (w.heap.size + 1) (Pg.cs { k := 3, s := st })) := below_setRow (Below.refl _ _) _ (by omega)
    have SF := hs5.below BF ⟨l1, l2, l3, l4⟩
    have G5 := grown_below ((((grown_below G2.out HBW.out (Nat.le_refl _)).trans HG3.out).trans ((grown_of_below HB4.out (some mb)).trans hg5))) BF (Nat.le_refl _)
    have HSF := Lib.hid SF
    have HGF := Lib.hid G5
    clear BF SF G5 hg5 hs5 U1 U2 hzz hz6 hz5 Ra Rb
    generalize w5.setRow (w.heap.size + 1) (Pg.cs { k := 3, s := st }) = W at *
    go_wp2
    refine ret_tpt rfl rfl (w.heap.size + 1) { k := 3, s := st } rfl RF ⟨rfl, HGF.out, ?_⟩
    rw [← HSG.out]; exact HSF.out

set_option maxHeartbeats 2000000 in
set_option maxRecDepth 100000 in
theorem ggrow_none {S : Vol} {d m : Pg} {n : Nat} (hv : VolOk S d m n) (st : Int) (ht : takeV n S m = none) (b mb hb pb : Nat) (w : World) (hs : StageAt w b mb hb pb S) (la : Int) (q : Pg) :
    Calls Tryz.prog 44 #[.pointer (some ⟨b, 0, none⟩), .int .i64 st, .int .i64 la, q.v] w fun e w' => e = .returned (.tuple #[.int .i64 0, Pg.zero.v, .int .i64 140]) ∧ Below w.heap.size w w' := by
  obtain ⟨l1, l2, l3, l4⟩ := hs.lt
  have B1 : Below w.heap.size w ((w.alloc (.cells q.cs 38)).alloc (.cells Pg.zero.cs 38)) := ((Below.refl _ _).alloc (Nat.le_refl _) _).alloc (by simp) _
  have HT := Lib.hid (take_none S b mb hb pb m n _ (hs.below B1 ⟨l1, l2, l3, l4⟩) hv.map (takeV_none ht))
  have HB1 := Lib.hid B1
  clear hv hs B1 ht
  go_enter Tryz.func44, Tryz.ntmps44
  go_wp2_with fail
  refine HT.out.mono ?_; rintro e w2 ⟨rfl, hb2⟩
  have hz2 := hb2.size
  simp only [World.size_alloc] at hz2
  have R9 : rowAt w2 (w.heap.size + 1) = some Pg.zero.cs := (rowAt_below hb2 (by simp)).trans (rowAt_at _ _ _ _ (by simp))
  have RF := rowAt_setRow w2 (w.heap.size + 1) _ Pg.zero.cs R9
  have BF : Below w.heap.size w (w2.setRow (w.heap.size + 1) Pg.zero.cs) := below_setRow (HB1.out.trans (hb2.mono (by simp; omega))) _ (by omega)
  have HBF := Lib.hid BF
  clear hb2 BF
  go_wp2_with fail
  exact ret_tpt rfl rfl (w.heap.size + 1) Pg.zero rfl RF ⟨rfl, HBF.out⟩
end Go.Proofs.YtljommhbhpappaaGreat
