/-
  Pages as values that the walk does not take apart: loads, stores and boxes of sixteen cells in one step.
-/
import Derived.Test.YtljommhbhpappaaStage0
namespace Go.Proofs.Ytljommhbhpappaa
open Go.RowKit Go.Joins
set_option linter.unusedVariables false
set_option linter.unusedSimpArgs false

/-- a page: kind, level, store, next, six cells -/
structure Pg where
  k : Int := 0
  l : Int := 0
  s : Int := 0
  n : Int := 0
  a0 : Int := 0
  d0 : ByteArray := ByteArray.empty
  a1 : Int := 0
  d1 : ByteArray := ByteArray.empty
  a2 : Int := 0
  d2 : ByteArray := ByteArray.empty
  a3 : Int := 0
  d3 : ByteArray := ByteArray.empty
  a4 : Int := 0
  d4 : ByteArray := ByteArray.empty
  a5 : Int := 0
  d5 : ByteArray := ByteArray.empty

/-- its cells in memory -/
def Pg.cs (p : Pg) : Array Value := #[.int .i64 p.k, .int .i64 p.l, .int .i64 p.s, .int .i64 p.n, .int .i64 p.a0, .string p.d0, .int .i64 p.a1, .string p.d1, .int .i64 p.a2, .string p.d2, .int .i64 p.a3, .string p.d3, .int .i64 p.a4, .string p.d4, .int .i64 p.a5, .string p.d5]
def Pg.v (p : Pg) : Value := .agg p.cs
@[go_sem] theorem Pg.size_cs (p : Pg) : p.cs.size = 16 := rfl
@[go_sem] theorem Pg.cells_v (p : Pg) : p.v.cells = p.cs := rfl
@[go_sem] theorem Pg.fold_v (p : Pg) : Value.agg p.cs = p.v := rfl
@[go_sem] theorem Pg.cs_0 (p : Pg) : p.cs[0]? = some (.int .i64 p.k) := rfl
@[go_sem] theorem Pg.cs_1 (p : Pg) : p.cs[1]? = some (.int .i64 p.l) := rfl
@[go_sem] theorem Pg.cs_2 (p : Pg) : p.cs[2]? = some (.int .i64 p.s) := rfl
@[go_sem] theorem Pg.cs_3 (p : Pg) : p.cs[3]? = some (.int .i64 p.n) := rfl
@[go_sem] theorem Pg.cs_4 (p : Pg) : p.cs[4]? = some (.int .i64 p.a0) := rfl
@[go_sem] theorem Pg.cs_5 (p : Pg) : p.cs[5]? = some (.string p.d0) := rfl
@[go_sem] theorem Pg.cs_6 (p : Pg) : p.cs[6]? = some (.int .i64 p.a1) := rfl
@[go_sem] theorem Pg.cs_7 (p : Pg) : p.cs[7]? = some (.string p.d1) := rfl
@[go_sem] theorem Pg.cs_8 (p : Pg) : p.cs[8]? = some (.int .i64 p.a2) := rfl
@[go_sem] theorem Pg.cs_9 (p : Pg) : p.cs[9]? = some (.string p.d2) := rfl
@[go_sem] theorem Pg.cs_10 (p : Pg) : p.cs[10]? = some (.int .i64 p.a3) := rfl
@[go_sem] theorem Pg.cs_11 (p : Pg) : p.cs[11]? = some (.string p.d3) := rfl
@[go_sem] theorem Pg.cs_12 (p : Pg) : p.cs[12]? = some (.int .i64 p.a4) := rfl
@[go_sem] theorem Pg.cs_13 (p : Pg) : p.cs[13]? = some (.string p.d4) := rfl
@[go_sem] theorem Pg.cs_14 (p : Pg) : p.cs[14]? = some (.int .i64 p.a5) := rfl
@[go_sem] theorem Pg.cs_15 (p : Pg) : p.cs[15]? = some (.string p.d5) := rfl

/-- the state and the bytes of a cell -/
def Pg.a (p : Pg) : Nat → Int
  | 0 => p.a0
  | 1 => p.a1
  | 2 => p.a2
  | 3 => p.a3
  | 4 => p.a4
  | _ => p.a5
def Pg.d (p : Pg) : Nat → ByteArray
  | 0 => p.d0
  | 1 => p.d1
  | 2 => p.d2
  | 3 => p.d3
  | 4 => p.d4
  | _ => p.d5

/-- the row of a block, if it is a row that is not frozen -/
def rowAt (w : World) (n : Nat) : Option (Array Value) :=
  match w.heap[n]? with
  | some (.cells c _ (0, 0)) => some c
  | _ => none
@[go_sem] theorem rowAt_at (w : World) (c : Array Value) (t : TypeId) (n : Nat) (hn : n = w.heap.size) : rowAt (w.alloc (.cells c t)) n = some c := by
  subst hn; unfold rowAt; rw [heap_alloc_new]; rfl
@[go_sem] theorem rowAt_past (w : World) (o : Obj) (n : Nat) (hn : n < w.heap.size) : rowAt (w.alloc o) n = rowAt w n := by
  unfold rowAt; rw [Below.heap_alloc w o n hn]
@[go_sem] theorem rowAt_drew (w : World) (n : Nat) : rowAt w.drew n = rowAt w n := rfl
theorem rowAt_heap {w : World} {n : Nat} {c : Array Value} (h : rowAt w n = some c) : ∃ t, w.heap[n]? = some (.cells c t (0, 0)) := by
  unfold rowAt at h
  split at h
  · rename_i c' t' h'; cases h; exact ⟨_, h'⟩
  · cases h
theorem rowAt_of {w : World} {n : Nat} {c : Array Value} {t : TypeId} (h : w.heap[n]? = some (.cells c t (0, 0))) : rowAt w n = some c := by
  unfold rowAt; rw [h]; rfl

/-- is it a row of sixteen? -/
def row16 (o : Option (Array Value)) : Bool := match o with | some c => c.size == 16 | none => false
@[go_sem] theorem row16_pg (p : Pg) : row16 (some p.cs) = true := rfl
@[go_sem] theorem row16_lit (c0 c1 c2 c3 c4 c5 c6 c7 c8 c9 c10 c11 c12 c13 c14 c15 : Value) : row16 (some #[c0, c1, c2, c3, c4, c5, c6, c7, c8, c9, c10, c11, c12, c13, c14, c15]) = true := rfl
@[go_sem] theorem getD_some_row (c : Array Value) : (some c).getD #[] = c := rfl

theorem infoPage : (Try.prog.info? 112).map (·.size) = some 16 := by kernel_rfl

theorem run_loadPage (w : World) (n : Nat) (h : row16 (rowAt w n) = true) : (loadVar 112 ⟨n, 0, none⟩).run Try.prog w = .ok (.agg ((rowAt w n).getD #[])) w := by
  cases hr : rowAt w n with
  | none => rw [hr] at h; cases h
  | some c =>
    rw [hr] at h
    obtain ⟨t, ht⟩ := rowAt_heap hr
    have hs : c.size = 16 := by simpa [row16] using h
    exact run_loadVar_row w n t 112 c (0, 0) _ ht Try.underlying112 rfl (by rw [infoPage, hs])

theorem run_storePage (w : World) (n : Nat) (p : Pg) (h : row16 (rowAt w n) = true) : (storeVar 112 ⟨n, 0, none⟩ p.v).run Try.prog w = .ok () (w.setRow n p.cs) := by
  cases hr : rowAt w n with
  | none => rw [hr] at h; cases h
  | some c =>
    rw [hr] at h
    obtain ⟨t, ht⟩ := rowAt_heap hr
    have hs : c.size = 16 := by simpa [row16] using h
    have hst := run_storeCells_at Try.prog n 0 t p.cs.toList 0 c w ht (by simp [hs, Pg.size_cs]) (by intro u hu; simp [Pg.cs] at hu; rcases hu with rfl | rfl | rfl | rfl | rfl | rfl | rfl | rfl | rfl | rfl | rfl | rfl | rfl | rfl | rfl | rfl <;> rfl)
    have e : c.toList.drop (0 + 0 + p.cs.toList.length) = [] := by simp [hs, Pg.size_cs]
    rw [e] at hst
    cases hq : Try.prog.info? 112 with
    | none => have := infoPage; simp [hq] at this
    | some i =>
      have hi : i.size = 16 := by have := infoPage; simpa [hq] using this
      simp only [List.take_zero, List.nil_append, List.append_nil, Nat.add_zero, Array.toArray_toList] at hst
      simp [storeVar, Sem.run_bind, sizeOf, typeInfo, hq, hi, Pg.cells_v, Pg.size_cs, hst]

theorem modify_push_last {α : Type} (a : Array α) (x : α) (f : α → α) : (a.push x).modify a.size f = a.push (f x) := by
  apply Array.ext_getElem?
  intro i
  rw [Array.getElem?_modify, Array.getElem?_push, Array.getElem?_push]
  by_cases h : a.size = i
  · subst h; simp
  · have h2 : ¬ i = a.size := fun e => h e.symm
    simp [h, h2]
theorem modify_push_old {α : Type} (a : Array α) (x : α) (f : α → α) (n : Nat) (hn : n < a.size) : (a.push x).modify n f = (a.modify n f).push x := by
  apply Array.ext_getElem?
  intro i
  rw [Array.getElem?_modify, Array.getElem?_push, Array.getElem?_push, Array.getElem?_modify, Array.size_modify]
  by_cases h : i = a.size
  · subst h
    have h2 : ¬ n = a.size := by omega
    simp [h2]
  · simp [h]
@[go_sem] theorem setRow_at (w : World) (c d : Array Value) (t : TypeId) (n : Nat) (hn : n = w.heap.size) : (w.alloc (.cells c t)).setRow n d = w.alloc (.cells d t) := by
  subst hn
  unfold World.setRow
  exact congrArg (fun h => ({ w with heap := h } : World)) (modify_push_last w.heap _ _)
@[go_sem] theorem setRow_past (w : World) (o : Obj) (d : Array Value) (n : Nat) (hn : n < w.heap.size) : (w.alloc o).setRow n d = (w.setRow n d).alloc o := by
  unfold World.setRow
  exact congrArg (fun h => ({ w with heap := h } : World)) (modify_push_old w.heap o _ n hn)
@[go_sem] theorem rowAt_setRow (w : World) (n : Nat) (c d : Array Value) (h : rowAt w n = some c) : rowAt (w.setRow n d) n = some d := by
  obtain ⟨t, ht⟩ := rowAt_heap h
  exact rowAt_of (setRow_heap w n c d t (0, 0) ht)

/-- the blank page -/
def Pg.zero : Pg := {}

/-- the loads, stores and new variables of a page's type, under names that the walk does not open -/
def loadPg (a : Value) : Sem Value := Instr.loadAt 112 a
def storePg (a v : Value) : Sem Unit := Instr.storeAt 112 a v
def allocPg : Sem Value := Instr.alloc 112 true (.tuple #[])
def boxPg (v : Value) : Sem Value := Instr.box 112 v
@[go_sem ↓] theorem loadPg_eq (a : Value) : Instr.loadAt 112 a = loadPg a := rfl
@[go_sem ↓] theorem storePg_eq (a v : Value) : Instr.storeAt 112 a v = storePg a v := rfl
@[go_sem ↓] theorem allocPg_eq : Instr.alloc 112 true (.tuple #[]) = allocPg := rfl
@[go_sem ↓] theorem boxPg_eq (v : Value) : Instr.box 112 v = boxPg v := rfl

@[go_sem] theorem run_loadPg (w : World) (n : Nat) (h : row16 (rowAt w n) = true) : (loadPg (.pointer (some ⟨n, 0, none⟩))).run Try.prog w = .ok (.agg ((rowAt w n).getD #[])) w := by
  simp only [loadPg, Instr.loadAt, Instr.sureAddr, Sem.run_bind, Sem.run_pure, Result.andThen_ok, run_loadPage w n h]
@[go_sem] theorem run_storePg (w : World) (n : Nat) (p : Pg) (h : row16 (rowAt w n) = true) : (storePg (.pointer (some ⟨n, 0, none⟩)) p.v).run Try.prog w = .ok () (w.setRow n p.cs) := by
  simp only [storePg, Instr.storeAt, Instr.sureAddr, Sem.run_bind, Sem.run_pure, Result.andThen_ok, run_storePage w n p h]
@[go_sem] theorem run_allocPg (w : World) : allocPg.run Try.prog w = .ok (.pointer (some ⟨w.heap.size, 0, none⟩)) (w.alloc (.cells Pg.zero.cs 112)) := by kernel_rfl
@[go_sem] theorem run_boxPg (w : World) (p : Pg) : (boxPg p.v).run Try.prog w = .ok (.pointer (some ⟨w.heap.size, 0, none⟩)) (w.alloc (.cells p.cs 112)) := by kernel_rfl

def buildPg (parts : Array (Nat × Value)) : Sem Value := Instr.build 112 parts
@[go_sem ↓] theorem buildPg_eq (parts : Array (Nat × Value)) : Instr.build 112 parts = buildPg parts := rfl
@[go_sem] theorem run_build0 (w : World) : (buildPg #[]).run Try.prog w = .ok Pg.zero.v w := by kernel_rfl
@[go_sem] theorem run_build_k (w : World) (k : Int) : (buildPg #[(0, .int .i64 k)]).run Try.prog w = .ok (Pg.v { k := k }) w := by kernel_rfl
@[go_sem] theorem run_build_kn (w : World) (k n : Int) : (buildPg #[(0, .int .i64 k), (3, .int .i64 n)]).run Try.prog w = .ok (Pg.v { k := k, n := n }) w := by kernel_rfl
@[go_sem] theorem run_build_ks (w : World) (k s : Int) : (buildPg #[(0, .int .i64 k), (2, .int .i64 s)]).run Try.prog w = .ok (Pg.v { k := k, s := s }) w := by kernel_rfl

/-- the end of a function that hands back a page and a number -/
theorem ret_page {fn : Func} {R : Ending → World → Prop} {a : Act} {w : World} {pt u : Tmp} (h : fn.results = #[.cell pt 112, .tmp u]) (hd : a.defers = []) (n : Nat) (p : Pg) (hp : a.tmps.getD pt undef = .pointer (some ⟨n, 0, none⟩)) (hr : rowAt w n = some p.cs)
    (hR : R (.returned (.tuple #[p.v, a.tmps.getD u undef])) w) : bodyPost Try.prog fn R .ret a w := by
  refine bodyPost_ret ?_ hd hR
  rw [results_cell_tmp h, hp]
  have hl := run_loadPage w n (by rw [hr]; rfl)
  rw [hr] at hl
  simp only [asAddr, Sem.run_pure, Result.andThen_ok, hl]
  rfl
theorem ret_page1 {fn : Func} {R : Ending → World → Prop} {a : Act} {w : World} {pt : Tmp} (h : fn.results = #[.cell pt 112]) (hd : a.defers = []) (n : Nat) (p : Pg) (hp : a.tmps.getD pt undef = .pointer (some ⟨n, 0, none⟩)) (hr : rowAt w n = some p.cs)
    (hR : R (.returned p.v) w) : bodyPost Try.prog fn R .ret a w := by
  obtain ⟨t, ht⟩ := rowAt_heap hr
  exact bodyPost_ret (results_cell_row h a.tmps w n t p.cs (0, 0) _ hp ht Try.underlying112 rfl infoPage) hd hR
end Go.Proofs.Ytljommhbhpappaa
