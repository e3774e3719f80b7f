/-
  How slices of operations read that came in as arguments; operations as values.
-/
import Derived.Test.YtljommhbhpappaaFrameS
import Derived.Test.YtljommhbhpappaaPkLand
import Derived.SliceStrings
import Derived.ChangeSlices
namespace Go.Proofs.Ytljommhbhpappaa
open Go.ChangeShapes Go.WideShapes Go.ChangeAt Go.RowKit Go.Deep Go.Joins
set_option linter.unusedVariables false
set_option linter.unusedSimpArgs false

/-- an operation, as it lies in memory -/
structure Ao where
  kind : Int := 0
  store : Int := 0
  key : ByteArray := ByteArray.empty
  val : ByteArray := ByteArray.empty
  num : Int := 0
  pos : Int := 0
  len : Int := 0
instance : Inhabited Ao := ⟨{}⟩
def Ao.cs (c : Ao) : Array Value := #[.int .i64 c.kind, .int .i64 c.store, .string c.key, .string c.val, .int .i64 c.num, .int .i64 c.pos, .int .i64 c.len]
def Ao.v (c : Ao) : Value := .agg c.cs
@[go_sem] theorem Ao.size_cs (c : Ao) : c.cs.size = 7 := rfl
@[go_sem] theorem Ao.cells_v (c : Ao) : c.v.cells = c.cs := rfl
@[go_sem] theorem Ao.cs_0 (c : Ao) : c.cs[0]? = some (.int .i64 c.kind) := rfl
@[go_sem] theorem Ao.cs_1 (c : Ao) : c.cs[1]? = some (.int .i64 c.store) := rfl
@[go_sem] theorem Ao.cs_2 (c : Ao) : c.cs[2]? = some (.string c.key) := rfl
@[go_sem] theorem Ao.cs_3 (c : Ao) : c.cs[3]? = some (.string c.val) := rfl
@[go_sem] theorem Ao.cs_4 (c : Ao) : c.cs[4]? = some (.int .i64 c.num) := rfl
@[go_sem] theorem Ao.cs_5 (c : Ao) : c.cs[5]? = some (.int .i64 c.pos) := rfl
@[go_sem] theorem Ao.cs_6 (c : Ao) : c.cs[6]? = some (.int .i64 c.len) := rfl
def AoOk (c : Ao) : Prop := (-9223372036854775808 ≤ c.num ∧ c.num ≤ 9223372036854775807) ∧ (-9223372036854775808 ≤ c.pos ∧ c.pos ≤ 9223372036854775807) ∧ (-9223372036854775808 ≤ c.len ∧ c.len ≤ 9223372036854775807)

section
variable {H : Type} {enc : TypeId × Value → H} {w : World} {base : Nat} {spare : Nat → Bool} {held : Bool}
set_option maxRecDepth 100000 in
theorem ao_form {n : Nat} {cs : List Value} {x : DataW H × List MemPlace} (h : DataW.trod enc Try.prog w base spare held n 44 cs = some x) : ∃ c : Ao, cs = c.cs.toList ∧ AoOk c := by
  obtain ⟨xs, m, rfl, rfl, hlen, hsz, hall⟩ := DataW.trod_struct Try.underlying44 h
  have hl : cs.length = 7 := hlen.trans (by kernel_rfl)
  have k3 : Try.prog.cellsOf 3 = 1 := by kernel_rfl
  have k9 : Try.prog.cellsOf 9 = 1 := by kernel_rfl
  obtain ⟨c0, c1, c2, c3, c4, c5, c6, rfl⟩ : ∃ c0 c1 c2 c3 c4 c5 c6, cs = [c0, c1, c2, c3, c4, c5, c6] := by
    match cs, hl with
    | [c0, c1, c2, c3, c4, c5, c6], _ => exact ⟨c0, c1, c2, c3, c4, c5, c6, rfl⟩
  obtain ⟨y0, f0, -⟩ := cell_field hall hsz 0 0 3 rfl rfl rfl k3 (c := c0) rfl
  obtain ⟨y1, f1, -⟩ := cell_field hall hsz 1 1 3 rfl rfl rfl k3 (c := c1) rfl
  obtain ⟨y2, f2, -⟩ := cell_field hall hsz 2 2 9 rfl rfl rfl k9 (c := c2) rfl
  obtain ⟨y3, f3, -⟩ := cell_field hall hsz 3 3 9 rfl rfl rfl k9 (c := c3) rfl
  obtain ⟨y4, f4, -⟩ := cell_field hall hsz 4 4 3 rfl rfl rfl k3 (c := c4) rfl
  obtain ⟨y5, f5, -⟩ := cell_field hall hsz 5 5 3 rfl rfl rfl k3 (c := c5) rfl
  obtain ⟨y6, f6, -⟩ := cell_field hall hsz 6 6 3 rfl rfl rfl k3 (c := c6) rfl
  obtain ⟨n0, h0, -, -⟩ := DataW.trod_int Try.underlying3 f0
  obtain ⟨n1, h1, -, -⟩ := DataW.trod_int Try.underlying3 f1
  obtain ⟨n2, h2, -, -⟩ := DataW.trod_string Try.underlying9 f2
  obtain ⟨n3, h3, -, -⟩ := DataW.trod_string Try.underlying9 f3
  obtain ⟨n4, h4, -, w4⟩ := DataW.trod_int Try.underlying3 f4
  obtain ⟨n5, h5, -, w5⟩ := DataW.trod_int Try.underlying3 f5
  obtain ⟨n6, h6, -, w6⟩ := DataW.trod_int Try.underlying3 f6
  simp only [List.cons.injEq, and_true] at h0 h1 h2 h3 h4 h5 h6
  subst h0 h1 h2 h3 h4 h5 h6
  exact ⟨⟨n0, n1, n2, n3, n4, n5, n6⟩, rfl, lt_of_wf w4, lt_of_wf w5, lt_of_wf w6⟩
/-- an operation by value -/
theorem ao_agg {n : Nat} {cs : List Value} {x : DataW H × List MemPlace} (h : DataW.trod enc Try.prog w base spare held n 44 cs = some x) :
    ∃ (k st : Int) (key val : ByteArray) (num a l : Int), cs = [.int .i64 k, .int .i64 st, .string key, .string val, .int .i64 num, .int .i64 a, .int .i64 l] ∧ AoOk ⟨k, st, key, val, num, a, l⟩ := by
  obtain ⟨c, rfl, hok⟩ := ao_form h
  exact ⟨c.kind, c.store, c.key, c.val, c.num, c.pos, c.len, rfl, hok⟩

/-- a slice of operations that came in: its elements -/
def AosIn (w : World) (a : Option Addr) (len : Nat) (I : List Ao) : Prop :=
  len ≤ 9223372036854775807 ∧ I.length = len ∧ (len = 0 ∨ ∃ b off, a = some ⟨b, off, none⟩ ∧ b < w.heap.size ∧ ∀ (i : Nat) (h : i < I.length), w.rangeAt b (off + i * 7) I[i].cs.toList ∧ AoOk I[i])
set_option maxRecDepth 100000 in
theorem aos_form {n : Nat} {c : Value} {x : DataW H × List MemPlace} (h : DataW.trod enc Try.prog w base spare held n 49 [c] = some x) :
    ∃ a len cap I, c = .slice a len cap ∧ AosIn w a len I := by
  rcases open_slice Try.underlying49 h with ⟨hcs, rfl⟩ | ⟨a, len, cap, m, n', D, Pl, hcs, hb, hl, hm, hmm, rfl, hx⟩
  · simp at hcs
    exact ⟨_, _, _, [], hcs, by omega, rfl, .inl rfl⟩
  · simp only [List.cons.injEq, and_true] at hcs
    have k7 : Try.prog.cellsOf 44 = 7 := by kernel_rfl
    rw [k7] at hx
    have hle : len ≤ m := by rw [hmm]; split <;> omega
    obtain ⟨V, hV⟩ := choose_lt (α := Ao) (p := fun i v => w.cells? base (a.add (i * 7)) 7 = some v.cs.toList ∧ AoOk v) (n := m) (fun i hi => by
      obtain ⟨cs', h1, h2⟩ := hx i hi
      obtain ⟨c, rfl, hok⟩ := ao_form h2
      exact ⟨c, h1, hok⟩)
    refine ⟨some a, len, cap, (List.range len).map V, hcs, by simp only [maxLen] at hm; omega, by simp, ?_⟩
    by_cases h0 : len = 0
    · exact .inl h0
    · right
      obtain ⟨-, -, hcell0⟩ := World.cells?_some (hV 0 (by omega)).1
      have hc0 := (hcell0 0 (by omega)).trans (show (V 0).cs.toList[0]? = some (.int .i64 (V 0).kind) from rfl)
      obtain ⟨b, off, spot⟩ := a
      have hspot : spot = none := by simpa [Addr.add] using World.cell?_spot hc0
      subst hspot
      refine ⟨b, off, rfl, World.block_lt_of_cell? w _ (by simpa [Addr.add] using hc0), fun i hi => ?_⟩
      have hi' : i < len := by simpa using hi
      refine ⟨?_, by simpa using (hV i (by omega)).2⟩
      intro j v hv
      obtain ⟨-, -, hcell⟩ := World.cells?_some (hV i (by omega)).1
      have hv' : (V i).cs.toList[j]? = some v := by simpa using hv
      have hj : j < 7 := (List.getElem?_eq_some_iff.1 hv').1
      have := (hcell j hj).trans hv'
      simpa [Addr.add_lit] using this
theorem AosIn.below {w' : World} {a : Option Addr} {len : Nat} {I : List Ao} (h : AosIn w a len I) (hb : Below w.heap.size w w') : AosIn w' a len I := by
  refine ⟨h.1, h.2.1, ?_⟩
  rcases h.2.2 with h0 | ⟨b, off, rfl, h1, h2⟩
  · exact .inl h0
  · exact .inr ⟨b, off, rfl, Nat.lt_of_lt_of_le h1 hb.size, fun i hi => ⟨fun j v hv => (hb.cell (p := ⟨b, off + i * 7 + j, none⟩) h1).trans ((h2 i hi).1 j v hv), (h2 i hi).2⟩⟩
end

/-- loads, stores and variables of an operation, under names that the walk does not open -/
def loadAo (a : Value) : Sem Value := Instr.loadAt 44 a
def storeAo (a v : Value) : Sem Unit := Instr.storeAt 44 a v
def allocAo : Sem Value := Instr.alloc 44 true (.tuple #[])
def boxAo (v : Value) : Sem Value := Instr.box 44 v
@[go_sem ↓] theorem loadAo_eq (a : Value) : Instr.loadAt 44 a = loadAo a := rfl
@[go_sem ↓] theorem storeAo_eq (a v : Value) : Instr.storeAt 44 a v = storeAo a v := rfl
@[go_sem ↓] theorem allocAo_eq : Instr.alloc 44 true (.tuple #[]) = allocAo := rfl
@[go_sem ↓] theorem boxAo_eq (v : Value) : Instr.box 44 v = boxAo v := rfl
@[go_sem] theorem run_allocAo (w : World) : allocAo.run Try.prog w = .ok (.pointer (some ⟨w.heap.size, 0, none⟩)) (w.alloc (.cells (Ao.cs {}) 44)) := by kernel_rfl
@[go_sem] theorem run_boxAo (w : World) (c : Ao) : (boxAo c.v).run Try.prog w = .ok (.pointer (some ⟨w.heap.size, 0, none⟩)) (w.alloc (.cells c.cs 44)) := by kernel_rfl
theorem sizeAo : (Try.prog.info? 44).map (·.size) = some 7 := by kernel_rfl
def row7o (o : Option (Array Value)) : Bool := match o with | some c => c.size == 7 | none => false
@[go_sem] theorem row7o_ao (c : Ao) : row7o (some c.cs) = true := rfl
@[go_sem] theorem run_storeAo (w : World) (n : Nat) (c : Ao) (h : row7o (rowAt w n) = true) : (storeAo (.pointer (some ⟨n, 0, none⟩)) c.v).run Try.prog w = .ok () (w.setRow n c.cs) := by
  have hv : (storeVar 44 ⟨n, 0, none⟩ c.v).run Try.prog w = .ok () (w.setRow n c.cs) := by
    cases hr : rowAt w n with
    | none => rw [hr] at h; cases h
    | some cc =>
      rw [hr] at h
      obtain ⟨t, ht⟩ := rowAt_heap hr
      have hs : cc.size = 7 := by simpa [row7o] using h
      have hst := run_storeCells_at Try.prog n 0 t c.cs.toList 0 cc w ht (by simp [hs, Ao.size_cs]) (by intro u hu; simp [Ao.cs] at hu; rcases hu with rfl | rfl | rfl | rfl | rfl | rfl | rfl <;> rfl)
      have e : cc.toList.drop (0 + 0 + c.cs.toList.length) = [] := by simp [hs, Ao.size_cs]
      rw [e] at hst
      cases hq : Try.prog.info? 44 with
      | none => have := sizeAo; simp [hq] at this
      | some i =>
        have hi : i.size = 7 := by have := sizeAo; simpa [hq] using this
        simp only [List.take_zero, List.nil_append, List.append_nil, Nat.add_zero, Array.toArray_toList] at hst
        simp [storeVar, Sem.run_bind, sizeOf, typeInfo, hq, hi, Ao.cells_v, Ao.size_cs, hst]
  simp only [storeAo, Instr.storeAt, Instr.sureAddr, Sem.run_bind, Sem.run_pure, Result.andThen_ok, hv]
theorem load_aoIn {w : World} {b off : Nat} {c : Ao} (h : w.rangeAt b off c.cs.toList) : (loadAo (.pointer (some ⟨b, off, none⟩))).run Try.prog w = .ok c.v w :=
  run_loadAt_mid w b off 44 c.cs.toList _ h Try.underlying44 rfl sizeAo
/-- an operation out of its variable -/
theorem load_aoVar {w : World} {n : Nat} {c : Ao} (h : rowAt w n = some c.cs) : (loadAo (.pointer (some ⟨n, 0, none⟩))).run Try.prog w = .ok c.v w :=
  load_aoIn (fun j v hv => by
    rw [Nat.zero_add, cell_row h]
    simpa using hv)
end Go.Proofs.Ytljommhbhpappaa
