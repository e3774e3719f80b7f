/-
  Layer 15 (heap): undos as values; the visit that looks for a place.
-/
import Derived.Test.YthehglhbgplfhaaHeap3
import Derived.Deep.RegionHeld3
import Derived.OneCell
namespace Go.Proofs.Ythehglhbgplfhaa
open Go.RowKit Go.Joins
set_option linter.unusedVariables false
set_option linter.unusedSimpArgs false

/-- an undo -/
structure Un where
  kind : Int := 0
  store : Int := 0
  page : Int := 0
  slot : Int := 0
  key : ByteArray := ByteArray.empty
  st : Int := 0
  d : ByteArray := ByteArray.empty
def Un.cs (u : Un) : Array Value := #[.int .i64 u.kind, .int .i64 u.store, .int .i64 u.page, .int .i64 u.slot, .string u.key, .int .i64 u.st, .string u.d]
def Un.v (u : Un) : Value := .agg u.cs
def Un.zero : Un := {}
@[go_sem] theorem Un.size_cs (u : Un) : u.cs.size = 7 := rfl
@[go_sem] theorem Un.cells_v (u : Un) : u.v.cells = u.cs := rfl
def loadUn (a : Value) : Sem Value := Instr.loadAt 36 a
def storeUn (a v : Value) : Sem Unit := Instr.storeAt 36 a v
def allocUn : Sem Value := Instr.alloc 36 true (.tuple #[])
def boxUn (v : Value) : Sem Value := Instr.box 36 v
def buildUn (parts : Array (Nat × Value)) : Sem Value := Instr.build 36 parts
@[go_sem ↓] theorem loadUn_eq (a : Value) : Instr.loadAt 36 a = loadUn a := rfl
@[go_sem ↓] theorem storeUn_eq (a v : Value) : Instr.storeAt 36 a v = storeUn a v := rfl
@[go_sem ↓] theorem allocUn_eq : Instr.alloc 36 true (.tuple #[]) = allocUn := rfl
@[go_sem ↓] theorem boxUn_eq (v : Value) : Instr.box 36 v = boxUn v := rfl
@[go_sem ↓] theorem buildUn_eq (parts : Array (Nat × Value)) : Instr.build 36 parts = buildUn parts := rfl
@[go_sem] theorem run_allocUn (w : World) : allocUn.run Try.prog w = .ok (.pointer (some ⟨w.heap.size, 0, none⟩)) (w.alloc (.cells Un.zero.cs 36)) := by kernel_rfl
@[go_sem] theorem run_boxUn (w : World) (u : Un) : (boxUn u.v).run Try.prog w = .ok (.pointer (some ⟨w.heap.size, 0, none⟩)) (w.alloc (.cells u.cs 36)) := by kernel_rfl
@[go_sem] theorem run_buildUn0 (w : World) : (buildUn #[]).run Try.prog w = .ok Un.zero.v w := by kernel_rfl
@[go_sem] theorem run_buildUn (w : World) (k a s st : Int) (d : ByteArray) : (buildUn #[(0, .int .i64 k), (2, .int .i64 a), (3, .int .i64 s), (5, .agg #[.int .i64 st, .string d])]).run Try.prog w = .ok (Un.v { kind := k, page := a, slot := s, st := st, d := d }) w := by kernel_rfl
theorem sizeUn : (Try.prog.info? 36).map (·.size) = some 7 := by kernel_rfl
def row7 (o : Option (Array Value)) : Bool := match o with | some c => c.size == 7 | none => false
@[go_sem] theorem row7_un (u : Un) : row7 (some u.cs) = true := rfl
@[go_sem] theorem run_storeUn (w : World) (n : Nat) (u : Un) (h : row7 (rowAt w n) = true) : (storeUn (.pointer (some ⟨n, 0, none⟩)) u.v).run Try.prog w = .ok () (w.setRow n u.cs) := by
  have hv : (storeVar 36 ⟨n, 0, none⟩ u.v).run Try.prog w = .ok () (w.setRow n u.cs) := by
    cases hr : rowAt w n with
    | none => rw [hr] at h; cases h
    | some cc =>
      rw [hr] at h
      obtain ⟨t, ht⟩ := rowAt_heap hr
      have hs : cc.size = 7 := by simpa [row7] using h
      have hst := run_storeCells_at Try.prog n 0 t u.cs.toList 0 cc w ht (by simp [hs, Un.size_cs]) (by intro x hx; simp [Un.cs] at hx; rcases hx with rfl | rfl | rfl | rfl | rfl | rfl | rfl <;> rfl)
      have e : cc.toList.drop (0 + 0 + u.cs.toList.length) = [] := by simp [hs, Un.size_cs]
      rw [e] at hst
      cases hq : Try.prog.info? 36 with
      | none => have := sizeUn; simp [hq] at this
      | some i =>
        have hi : i.size = 7 := by have := sizeUn; simpa [hq] using this
        simp only [List.take_zero, List.nil_append, List.append_nil, Nat.add_zero, Array.toArray_toList] at hst
        simp [storeVar, Sem.run_bind, sizeOf, typeInfo, hq, hi, Un.cells_v, Un.size_cs, hst]
  simp only [storeUn, Instr.storeAt, Instr.sureAddr, Sem.run_bind, Sem.run_pure, Result.andThen_ok, hv]
theorem run_loadUnRow (w : World) (n : Nat) (u : Un) (h : rowAt w n = some u.cs) : (loadVar 36 ⟨n, 0, none⟩).run Try.prog w = .ok u.v w := by
  obtain ⟨t, ht⟩ := rowAt_heap h
  exact run_loadVar_row w n t 36 u.cs (0, 0) _ ht Try.underlying36 rfl (by rw [sizeUn, Un.size_cs])
@[go_sem] theorem run_loadUn (w : World) (n : Nat) (h : row7 (rowAt w n) = true) : (loadUn (.pointer (some ⟨n, 0, none⟩))).run Try.prog w = .ok (.agg ((rowAt w n).getD #[])) w := by
  cases hr : rowAt w n with
  | none => rw [hr] at h; cases h
  | some c =>
    rw [hr] at h
    obtain ⟨t, ht⟩ := rowAt_heap hr
    have hs : c.size = 7 := by simpa [row7] using h
    have := run_loadVar_row w n t 36 c (0, 0) _ ht Try.underlying36 rfl (by rw [sizeUn, hs])
    simp only [loadUn, Instr.loadAt, Instr.sureAddr, Sem.run_bind, Sem.run_pure, Result.andThen_ok, this]
    rfl
@[go_sem] theorem Un.agg_cs (u : Un) : Value.agg u.cs = u.v := rfl
@[go_sem] theorem Un.getD_cs (u : Un) : (some u.cs).getD #[] = u.cs := rfl

set_option maxHeartbeats 4000000 in
set_option maxRecDepth 100000 in
theorem visit_ins (id : Int) (p : Pg) (c7 c11 c12 c13 : Nat) (vp : Option Addr) (len cap : Nat) (zs : List Int) (w : World) (h0 : 0 ≤ id) (h1 : id < 1024) (hR : RowOk w vp len zs)
    (k7 : w.heap[c7]? = some (.cells #[.slice vp len cap] 77)) (x11 x12 : Value) (q13 : Pg) (k11 : w.heap[c11]? = some (.cells #[x11] 3)) (k12 : w.heap[c12]? = some (.cells #[x12] 3)) (k13 : w.heap[c13]? = some (.cells q13.cs 41)) (hne : c11 ≠ c12) :
    Calls Try.prog 45 #[.int .i64 id, p.v, .pointer (some ⟨c7, 0, none⟩), .pointer (some ⟨c11, 0, none⟩), .pointer (some ⟨c12, 0, none⟩), .pointer (some ⟨c13, 0, none⟩)] w fun e w' =>
      e = .returned (.bool (decide (0 ≤ placeI zs len id p))) ∧ Poked [c11, c12, c13] w w' ∧ w'.heap[c11]? = some (.cells #[.int .i64 id] 3) ∧ w'.heap[c12]? = some (.cells #[.int .i64 (placeI zs len id p)] 3) ∧ w'.heap[c13]? = some (.cells p.cs 41) := by
  have HC := Lib.hid (fun (w' : World) (h : RowOk w' vp len zs) => place_any id p vp len cap zs w' h0 h1 h)
  go_enter Try.func45, Try.ntmps45
  have l7 := (Array.getElem?_eq_some_iff.1 k7).1
  have l11 := (Array.getElem?_eq_some_iff.1 k11).1
  have l12 := (Array.getElem?_eq_some_iff.1 k12).1
  have l13 := (Array.getElem?_eq_some_iff.1 k13).1
  have B0 : Below w.heap.size w (w.alloc (.cells p.cs 41)).drew := ((Below.refl _ _).alloc (Nat.le_refl _) _).drew
  have mkS : ∀ W, Below w.heap.size w W → rowAt W w.heap.size = some p.cs →
      W.cell? ⟨c7, 0, none⟩ = some (.slice vp len cap) ∧ (loadPg (.pointer (some ⟨w.heap.size, 0, none⟩))).run Try.prog W = .ok p.v W ∧ W.cell? ⟨c11, 0, none⟩ = some x11 ∧ W.frozen? ⟨c11, 0, none⟩ = false ∧ W.cell? ⟨c12, 0, none⟩ = some x12 ∧ W.frozen? ⟨c12, 0, none⟩ = false ∧ rowAt W c13 = some q13.cs := by
    intro W hW hr
    have t7 := (hW.block c7 l7).trans k7
    have t11 := (hW.block c11 l11).trans k11
    have t12 := (hW.block c12 l12).trans k12
    have t13 := (hW.block c13 l13).trans k13
    exact ⟨(cell_of_block t7 0).trans rfl, by rw [run_loadPg W _ (by rw [hr]; rfl), hr]; rfl, (cell_of_block t11 0).trans rfl, by simp [World.frozen?, t11], (cell_of_block t12 0).trans rfl, by simp [World.frozen?, t12], rowAt_of t13⟩
  have R0 : rowAt (w.alloc (.cells p.cs 41)).drew w.heap.size = some p.cs := rowAt_at w _ _ _ rfl
  have S0 := mkS _ B0 R0
  have HM := Lib.hid mkS
  have HR0 := Lib.hid (hR.below B0)
  clear mkS
  go_wp2_with fail
  have n1 : c11 ≠ c7 := blk_ne k11 k7 (by decide)
  have n2 : c12 ≠ c7 := blk_ne k12 k7 (by decide)
  have n3 : c13 ≠ c7 := blk_ne k13 k7 (by decide)
  have n4 : c11 ≠ c13 := blk_ne k11 k13 (by decide)
  have n5 : c12 ≠ c13 := blk_ne k12 k13 (by decide)
  have hS : ∀ (W : World) (a : Addr) (x : Value), a.block ≠ c7 → a.block ≠ w.heap.size → (W.cell? ⟨c7, 0, none⟩ = some (.slice vp len cap) ∧ rowAt W w.heap.size = some p.cs) → ((W.setCell a x).cell? ⟨c7, 0, none⟩ = some (.slice vp len cap) ∧ rowAt (W.setCell a x) w.heap.size = some p.cs) := fun W a x h1 h2 h =>
    ⟨(World.cell?_setCell_other _ _ _ _ (fun e => h1 (congrArg Addr.block e))).trans h.1, (rowAt_setCell_far _ _ _ _ h2).trans h.2⟩
  have hS2 : ∀ (W : World) (x : Array Value), (W.cell? ⟨c7, 0, none⟩ = some (.slice vp len cap) ∧ rowAt W w.heap.size = some p.cs) → ((W.setRow c13 x).cell? ⟨c7, 0, none⟩ = some (.slice vp len cap) ∧ rowAt (W.setRow c13 x) w.heap.size = some p.cs) := fun W x h =>
    ⟨(cell?_setRow_far _ _ _ _ n3).trans h.1, (rowAt_setRow_far _ _ _ _ (by omega)).trans h.2⟩
  have U0 := And.intro S0.1 R0
  have hF : ∀ W, Below w.heap.size w W → (((W.setCell ⟨c11, 0, none⟩ (.int .i64 id)).setCell ⟨c12, 0, none⟩ (.int .i64 (placeI zs len id p))).setRow c13 p.cs).cell? ⟨c12, 0, none⟩ = some (.int .i64 (placeI zs len id p)) ∧
      Poked [c11, c12, c13] w (((W.setCell ⟨c11, 0, none⟩ (.int .i64 id)).setCell ⟨c12, 0, none⟩ (.int .i64 (placeI zs len id p))).setRow c13 p.cs) ∧
      (((W.setCell ⟨c11, 0, none⟩ (.int .i64 id)).setCell ⟨c12, 0, none⟩ (.int .i64 (placeI zs len id p))).setRow c13 p.cs).heap[c11]? = some (.cells #[.int .i64 id] 3) ∧
      (((W.setCell ⟨c11, 0, none⟩ (.int .i64 id)).setCell ⟨c12, 0, none⟩ (.int .i64 (placeI zs len id p))).setRow c13 p.cs).heap[c12]? = some (.cells #[.int .i64 (placeI zs len id p)] 3) ∧
      (((W.setCell ⟨c11, 0, none⟩ (.int .i64 id)).setCell ⟨c12, 0, none⟩ (.int .i64 (placeI zs len id p))).setRow c13 p.cs).heap[c13]? = some (.cells p.cs 41) := by
    intro W hW
    have t11 := (hW.block c11 l11).trans k11
    have t12 := (hW.block c12 l12).trans k12
    have t13 := (hW.block c13 l13).trans k13
    have g11 : (((W.setCell ⟨c11, 0, none⟩ (.int .i64 id)).setCell ⟨c12, 0, none⟩ (.int .i64 (placeI zs len id p))).setRow c13 p.cs).heap[c11]? = some (.cells #[.int .i64 id] 3) :=
      (heap_setRow_far _ _ _ _ (Ne.symm n4)).trans ((heap_setCell_far _ _ _ _ (Ne.symm hne)).trans (setCell_block t11 0 _))
    have g12 : (((W.setCell ⟨c11, 0, none⟩ (.int .i64 id)).setCell ⟨c12, 0, none⟩ (.int .i64 (placeI zs len id p))).setRow c13 p.cs).heap[c12]? = some (.cells #[.int .i64 (placeI zs len id p)] 3) :=
      (heap_setRow_far _ _ _ _ (Ne.symm n5)).trans (setCell_block ((heap_setCell_far _ _ _ _ hne).trans t12) 0 _)
    have g13 : (((W.setCell ⟨c11, 0, none⟩ (.int .i64 id)).setCell ⟨c12, 0, none⟩ (.int .i64 (placeI zs len id p))).setRow c13 p.cs).heap[c13]? = some (.cells p.cs 41) :=
      setRow_heap _ _ _ _ _ _ ((heap_setCell_far _ _ _ _ n5).trans ((heap_setCell_far _ _ _ _ n4).trans t13))
    exact ⟨(cell_of_block g12 0).trans rfl, (((Poked.of_below hW).setCell _ _ (by simp)).setCell _ _ (by simp)).setRow _ _ (by simp), g11, g12, g13⟩
  have HF := Lib.hid hF
  clear hF
  have HS1 := Lib.hid hS
  have HS2 := Lib.hid hS2
  clear hS hS2
  go_region_held3 (fun W => W.cell? ⟨c7, 0, none⟩ = some (.slice vp len cap) ∧ rowAt W w.heap.size = some p.cs)
    (first
      | exact U0
      | exact U1
      | exact HS1.out _ _ _ n1 (by simp; omega) U1
      | exact HS1.out _ _ _ n2 (by simp; omega) (HS1.out _ _ _ n1 (by simp; omega) U1)
      | exact HS2.out _ _ (HS1.out _ _ _ n2 (by simp; omega) (HS1.out _ _ _ n1 (by simp; omega) U1)))
    (first
      | ((go_at_call 46; refine (HC.out _ HR0.out).mono ?_; rintro e w1 ⟨rfl, hb1⟩; have B1 : Below w.heap.size w w1 := B0.trans (hb1.mono (by simp)); have R1 : rowAt w1 w.heap.size = some p.cs := (rowAt_below hb1 (by simp)).trans R0; have S1 := HM.out _ B1 R1; obtain ⟨s1, s2, s3, s4, s5, s6, s7⟩ := S1; have U1 := And.intro s1 R1; have R13 := (rowAt_setCell_far (w1.setCell ⟨c11, 0, none⟩ (.int .i64 id)) ⟨c12, 0, none⟩ (.int .i64 (placeI zs len id p)) c13 n5).trans ((rowAt_setCell_far w1 ⟨c11, 0, none⟩ (.int .i64 id) c13 n4).trans s7))))
  all_goals
    obtain ⟨f1, f2, f3, f4, f5⟩ := HF.out _ B1
    clear B0 hb1 B1 R1 U1 R13 s1 s2 s3 s4 s5 s6 s7 S0 R0 U0
    generalize ((w1.setCell ⟨c11, 0, none⟩ (.int .i64 id)).setCell ⟨c12, 0, none⟩ (.int .i64 (placeI zs len id p))).setRow c13 p.cs = W at *
    go_wp2
    go_ret
    exact ⟨rfl, f2, f3, f4, f5⟩
end Go.Proofs.Ythehglhbgplfhaa
