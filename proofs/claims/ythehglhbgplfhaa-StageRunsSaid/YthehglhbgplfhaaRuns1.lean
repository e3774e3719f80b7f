/-
  Layer 13: the calls of StageRuns as they come in; a stage over nothing.
-/
import Derived.Test.YthehglhbgplfhaaTwin
import Derived.Test.YthehglhbgplfhaaFrame13
namespace Go.Proofs.Ythehglhbgplfhaa
open Go.ChangeShapes Go.WideShapes Go.ChangeAt Go.RowKit Go.Deep Go.Joins
set_option linter.unusedVariables false
set_option linter.unusedSimpArgs false

structure CallV where
  kind : Int := 0
  id : Int := 0
  page : Pg := Pg.zero
instance : Inhabited CallV := ⟨{}⟩
def CallV.cs (c : CallV) : Array Value := #[.int .i64 c.kind, .int .i64 c.id, .int .i64 c.page.k, .int .i64 c.page.l, .int .i64 c.page.s, .int .i64 c.page.n, .int .i64 c.page.a0, .string c.page.d0, .int .i64 c.page.a1, .string c.page.d1, .int .i64 c.page.a2, .string c.page.d2, .int .i64 c.page.a3, .string c.page.d3, .int .i64 c.page.a4, .string c.page.d4, .int .i64 c.page.a5, .string c.page.d5]
def CallV.v (c : CallV) : Value := .agg c.cs
@[go_sem] theorem CallV.size_cs (c : CallV) : c.cs.size = 18 := rfl
@[go_sem] theorem CallV.cells_v (c : CallV) : c.v.cells = c.cs := rfl
@[go_sem] theorem CallV.cs_0 (c : CallV) : c.cs[0]? = some (.int .i64 c.kind) := rfl
@[go_sem] theorem CallV.cs_1 (c : CallV) : c.cs[1]? = some (.int .i64 c.id) := rfl

section
variable {H : Type} {enc : TypeId × Value → H} {w : World} {base : Nat} {spare : Nat → Bool} {held : Bool}
set_option maxRecDepth 100000 in
theorem call_form {n : Nat} {cs : List Value} {x : DataW H × List MemPlace} (h : DataW.trod enc Try.prog w base spare held n 66 cs = some x) : ∃ c : CallV, cs = c.cs.toList := by
  obtain ⟨xs, m, rfl, rfl, hlen, hsz, hall⟩ := DataW.trod_struct Try.underlying66 h
  have hl : cs.length = 18 := hlen.trans (by kernel_rfl)
  have k3 : Try.prog.cellsOf 3 = 1 := by kernel_rfl
  have k16 : Try.prog.cellsOf 41 = 16 := by kernel_rfl
  obtain ⟨c0, c1, r, rfl⟩ : ∃ c0 c1 r, cs = c0 :: c1 :: r := by
    match cs, hl with
    | c0 :: c1 :: r, _ => exact ⟨c0, c1, r, rfl⟩
  obtain ⟨y0, f0, -⟩ := cell_field hall hsz 0 0 3 rfl rfl rfl k3 (c := c0) rfl
  obtain ⟨y1, f1, -⟩ := cell_field hall hsz 1 1 3 rfl rfl rfl k3 (c := c1) rfl
  obtain ⟨y2, f2, -⟩ := wide_field hall hsz 2 2 16 41 rfl rfl rfl k16
  obtain ⟨n0, h0, -, -⟩ := DataW.trod_int Try.underlying3 f0
  obtain ⟨n1, h1, -, -⟩ := DataW.trod_int Try.underlying3 f1
  simp only [List.cons.injEq, and_true] at h0 h1
  subst h0 h1
  have er : ((Value.int .i64 n0 :: Value.int .i64 n1 :: r).drop 2).take 16 = r := by
    simp only [List.drop_succ_cons, List.drop_zero]
    rw [List.take_of_length_le (by simp at hl; omega)]
  rw [er] at f2
  obtain ⟨p, rfl⟩ := page_form f2
  exact ⟨⟨n0, n1, p⟩, rfl⟩

/-- a slice of calls that came in: its elements -/
def CallsIn (w : World) (a : Option Addr) (len : Nat) (I : List CallV) : Prop :=
  len ≤ 9223372036854775807 ∧ I.length = len ∧ (len = 0 ∨ ∃ b off, a = some ⟨b, off, none⟩ ∧ b < w.heap.size ∧ ∀ (i : Nat) (h : i < I.length), w.rangeAt b (off + i * 18) I[i].cs.toList)
set_option maxRecDepth 100000 in
theorem calls_form {n : Nat} {c : Value} {x : DataW H × List MemPlace} (h : DataW.trod enc Try.prog w base spare held n 58 [c] = some x) :
    ∃ a len cap I, c = .slice a len cap ∧ CallsIn w a len I := by
  rcases open_slice Try.underlying58 h with ⟨hcs, rfl⟩ | ⟨a, len, cap, m, n', D, Pl, hcs, hb, hl, hm, hmm, rfl, hx⟩
  · simp at hcs
    exact ⟨_, _, _, [], hcs, by omega, rfl, .inl rfl⟩
  · simp only [List.cons.injEq, and_true] at hcs
    have k18 : Try.prog.cellsOf 66 = 18 := by kernel_rfl
    rw [k18] at hx
    have hle : len ≤ m := by rw [hmm]; split <;> omega
    obtain ⟨V, hV⟩ := choose_lt (α := CallV) (p := fun i v => w.cells? base (a.add (i * 18)) 18 = some v.cs.toList) (n := m) (fun i hi => by
      obtain ⟨cs', h1, h2⟩ := hx i hi
      obtain ⟨c, rfl⟩ := call_form h2
      exact ⟨c, h1⟩)
    refine ⟨some a, len, cap, (List.range len).map V, hcs, by simp only [maxLen] at hm; omega, by simp, ?_⟩
    by_cases h0 : len = 0
    · exact .inl h0
    · right
      obtain ⟨-, -, hcell0⟩ := World.cells?_some (hV 0 (by omega))
      have hc0 := (hcell0 0 (by omega)).trans (show (V 0).cs.toList[0]? = some (.int .i64 (V 0).kind) from rfl)
      obtain ⟨b, off, spot⟩ := a
      have hspot : spot = none := by simpa [Addr.add] using World.cell?_spot hc0
      subst hspot
      refine ⟨b, off, rfl, World.block_lt_of_cell? w _ (by simpa [Addr.add] using hc0), fun i hi => ?_⟩
      have hi' : i < len := by simpa using hi
      intro j v hv
      obtain ⟨-, -, hcell⟩ := World.cells?_some (hV i (by omega))
      have hv' : (V i).cs.toList[j]? = some v := by simpa using hv
      have hj : j < 18 := (List.getElem?_eq_some_iff.1 hv').1
      have := (hcell j hj).trans hv'
      simpa [Addr.add_lit] using this
theorem CallsIn.below {w' : World} {a : Option Addr} {len : Nat} {I : List CallV} (h : CallsIn w a len I) (hb : Below w.heap.size w w') : CallsIn w' a len I := by
  refine ⟨h.1, h.2.1, ?_⟩
  rcases h.2.2 with h0 | ⟨b, off, rfl, h1, h2⟩
  · exact .inl h0
  · exact .inr ⟨b, off, rfl, Nat.lt_of_lt_of_le h1 hb.size, fun i hi j v hv => (hb.cell (p := ⟨b, off + i * 18 + j, none⟩) h1).trans (h2 i hi j v hv)⟩
end

/-- loads, stores and variables of a call, under names that the walk does not open -/
def loadCall (a : Value) : Sem Value := Instr.loadAt 66 a
def storeCall (a v : Value) : Sem Unit := Instr.storeAt 66 a v
def allocCall : Sem Value := Instr.alloc 66 true (.tuple #[])
@[go_sem ↓] theorem loadCall_eq (a : Value) : Instr.loadAt 66 a = loadCall a := rfl
@[go_sem ↓] theorem storeCall_eq (a v : Value) : Instr.storeAt 66 a v = storeCall a v := rfl
@[go_sem ↓] theorem allocCall_eq : Instr.alloc 66 true (.tuple #[]) = allocCall := rfl
@[go_sem] theorem run_allocCall (w : World) : allocCall.run Try.prog w = .ok (.pointer (some ⟨w.heap.size, 0, none⟩)) (w.alloc (.cells (CallV.cs {}) 66)) := by kernel_rfl
theorem sizeCall : (Try.prog.info? 66).map (·.size) = some 18 := by kernel_rfl
def row18 (o : Option (Array Value)) : Bool := match o with | some c => c.size == 18 | none => false
@[go_sem] theorem row18_call (c : CallV) : row18 (some c.cs) = true := rfl
@[go_sem] theorem run_storeCall (w : World) (n : Nat) (c : CallV) (h : row18 (rowAt w n) = true) : (storeCall (.pointer (some ⟨n, 0, none⟩)) c.v).run Try.prog w = .ok () (w.setRow n c.cs) := by
  have hv : (storeVar 66 ⟨n, 0, none⟩ c.v).run Try.prog w = .ok () (w.setRow n c.cs) := by
    cases hr : rowAt w n with
    | none => rw [hr] at h; cases h
    | some cc =>
      rw [hr] at h
      obtain ⟨t, ht⟩ := rowAt_heap hr
      have hs : cc.size = 18 := by simpa [row18] using h
      have hst := run_storeCells_at Try.prog n 0 t c.cs.toList 0 cc w ht (by simp [hs, CallV.size_cs]) (by intro u hu; simp [CallV.cs] at hu; rcases hu with rfl | rfl | rfl | rfl | rfl | rfl | rfl | rfl | rfl | rfl | rfl | rfl | rfl | rfl | rfl | rfl | rfl | rfl <;> rfl)
      have e : cc.toList.drop (0 + 0 + c.cs.toList.length) = [] := by simp [hs, CallV.size_cs]
      rw [e] at hst
      cases hq : Try.prog.info? 66 with
      | none => have := sizeCall; simp [hq] at this
      | some i =>
        have hi : i.size = 18 := by have := sizeCall; simpa [hq] using this
        simp only [List.take_zero, List.nil_append, List.append_nil, Nat.add_zero, Array.toArray_toList] at hst
        simp [storeVar, Sem.run_bind, sizeOf, typeInfo, hq, hi, CallV.cells_v, CallV.size_cs, hst]
  simp only [storeCall, Instr.storeAt, Instr.sureAddr, Sem.run_bind, Sem.run_pure, Result.andThen_ok, hv]
theorem load_callIn {w : World} {b off : Nat} {c : CallV} (h : w.rangeAt b off c.cs.toList) : (loadCall (.pointer (some ⟨b, off, none⟩))).run Try.prog w = .ok c.v w :=
  run_loadAt_mid w b off 66 c.cs.toList _ h Try.underlying66 rfl sizeCall
/-- the page of a call in a variable -/
theorem load_callPage {w : World} {n : Nat} {c : CallV} (h : rowAt w n = some c.cs) : (loadPg (.pointer (some ⟨n, 2, none⟩))).run Try.prog w = .ok c.page.v w := by
  exact run_loadAt_mid w n 2 41 c.page.cs.toList _ (fun k v hv => by
    rw [cell_row h]
    have hk : k < 16 := (List.getElem?_eq_some_iff.1 hv).1
    have h16 : k = 0 ∨ k = 1 ∨ k = 2 ∨ k = 3 ∨ k = 4 ∨ k = 5 ∨ k = 6 ∨ k = 7 ∨ k = 8 ∨ k = 9 ∨ k = 10 ∨ k = 11 ∨ k = 12 ∨ k = 13 ∨ k = 14 ∨ k = 15 := by omega
    rw [← hv]
    rcases h16 with rfl | rfl | rfl | rfl | rfl | rfl | rfl | rfl | rfl | rfl | rfl | rfl | rfl | rfl | rfl | rfl <;> rfl) Try.underlying41 rfl infoPage

/-- a stage over nothing -/
def NilStage (w : World) (b mb : Nat) : Prop := w.heap[b]? = some (.cells #[Value.nilIface, .map (some mb)] 105) ∧ IntMap w mb (([] : List (Int × Pg)).map fun x => (x.1, x.2.v))
set_option maxHeartbeats 2000000 in
set_option maxRecDepth 100000 in
theorem new_nil (w : World) :
    Calls Try.prog 14 #[Value.nilIface] w fun e w' => ∃ b mb, e = .returned (.pointer (some ⟨b, 0, none⟩)) ∧ Below w.heap.size w w' ∧ NilStage w' b mb := by
  have hmk := run_newMap w
  go_enter Try.func14, Try.ntmps14
  go_wp2_with fail
  go_ret
  have e := heap_alloc_new (w.alloc (.map #[] 0)) (.cells #[Value.nilIface, .map (some w.heap.size)] 105)
  rw [World.size_alloc] at e
  have hb2 := ((Below.refl w.heap.size w).alloc (Nat.le_refl _) (.map #[] 0)).alloc (by go_size) (.cells #[Value.nilIface, .map (some w.heap.size)] 105)
  exact ⟨w.heap.size + 1, w.heap.size, rfl, hb2, e, ⟨#[], 0, by rw [Below.heap_alloc _ _ _ (by go_size), heap_alloc_new], rfl, MapKept.stamped_empty 0⟩⟩
set_option maxHeartbeats 2000000 in
set_option maxRecDepth 100000 in
theorem nil_get (b mb : Nat) (id : Int) (w : World) (h : NilStage w b mb) :
    Calls Try.prog 18 #[.pointer (some ⟨b, 0, none⟩), .int .i64 id] w fun e w' => e = .returned (.tuple #[Pg.zero.v, .int .i64 1]) ∧ Below w.heap.size w w' := by
  have c0 := cell_of_block h.1 0
  have c1 := cell_of_block h.1 1
  simp only [List.getElem?_toArray, List.getElem?_cons_succ, List.getElem?_cons_zero] at c0 c1
  have l1 := (Array.getElem?_eq_some_iff.1 h.1).1
  have hl := fun o => lookup_noneI (h.2.alloc o) (id := id) rfl
  clear h
  go_enter Try.func18, Try.ntmps18
  go_wp2_with fail
  exact ret_page rfl rfl w.heap.size Pg.zero rfl (by simp [go_sem]) ⟨rfl, ((Below.refl _ _).alloc (Nat.le_refl _) _).alloc (by simp) _⟩
end Go.Proofs.Ythehglhbgplfhaa
