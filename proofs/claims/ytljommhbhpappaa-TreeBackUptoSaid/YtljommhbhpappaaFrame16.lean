/-
  How slices of chapter 16's calls read that came in as arguments; calls as values.
-/
import Derived.Test.YtljommhbhpappaaFrameS
import Derived.Test.YtljommhbhpappaaPkLand
import Derived.SliceStrings
import Derived.ChangeSlices
namespace Go.Proofs.Ytljommhbhpappaa
open Go.ChangeShapes Go.WideShapes Go.ChangeAt Go.RowKit Go.Deep Go.Joins
set_option linter.unusedVariables false
set_option linter.unusedSimpArgs false

/-- a slice of strings that came in: its elements -/
def StrsIn (w : World) (a : Option Addr) (len : Nat) (I : List ByteArray) : Prop :=
  len ≤ 9223372036854775807 ∧ I.length = len ∧ (len = 0 ∨ ∃ b off, a = some ⟨b, off, none⟩ ∧ b < w.heap.size ∧ ∀ (i : Nat) (h : i < I.length), w.cell? ⟨b, off + i, none⟩ = some (.string I[i]))
theorem StrsIn.below {w w' : World} {a : Option Addr} {len : Nat} {I : List ByteArray} (h : StrsIn w a len I) (hb : Below w.heap.size w w') : StrsIn w' a len I := by
  refine ⟨h.1, h.2.1, ?_⟩
  rcases h.2.2 with h0 | ⟨b, off, rfl, h1, h2⟩
  · exact .inl h0
  · exact .inr ⟨b, off, rfl, Nat.lt_of_lt_of_le h1 hb.size, fun i hi => (hb.cell (p := ⟨b, off + i, none⟩) h1).trans (h2 i hi)⟩

section
variable {H : Type} {enc : TypeId × Value → H} {w : World} {base : Nat} {spare : Nat → Bool} {held : Bool}
set_option maxRecDepth 100000 in
theorem strs_form16 {n : Nat} {c : Value} {x : DataW H × List MemPlace} (h : DataW.trod enc Try.prog w base spare held n 27 [c] = some x) :
    ∃ a len cap I, c = .slice a len cap ∧ StrsIn w a len I := by
  rcases open_strings Try.underlying27 Try.underlying9 (by kernel_rfl) h with ⟨hcs, rfl⟩ | ⟨a, len, cap, ss, hcs, hl0, hl, hm, hz, rfl, hcell, hws⟩
  · simp at hcs
    exact ⟨_, _, _, [], hcs, by omega, rfl, .inl rfl⟩
  · simp only [List.cons.injEq, and_true] at hcs
    have hlen : len ≤ ss.length := by rw [hz]; split <;> omega
    have hlt : (ss.take len).length = len := by simp; omega
    refine ⟨some a, len, cap, ss.take len, hcs, by simp only [maxLen] at hm; omega, hlt, ?_⟩
    by_cases h0 : len = 0
    · exact .inl h0
    · right
      have hc0 := hcell 0 (by omega)
      obtain ⟨b, off, spot⟩ := a
      have hspot : spot = none := by simpa [Addr.add] using World.cell?_spot hc0
      subst hspot
      refine ⟨b, off, rfl, World.block_lt_of_cell? w _ (by simpa [Addr.add] using hc0), fun i hi => ?_⟩
      have hi' : i < ss.length := by simp at hi; omega
      have := hcell i hi'
      rw [Addr.add_lit] at this
      rw [this, List.getElem_take, List.getD_eq_getElem?_getD, List.getElem?_eq_getElem hi']
      rfl
end

/-- a call, as it lies in memory -/
structure Cl where
  kind : Int := 0
  key : ByteArray := ByteArray.empty
  val : ByteArray := ByteArray.empty
  most : Int := 0
  ka : Option Addr := none
  kl : Nat := 0
  kc : Nat := 0
instance : Inhabited Cl := ⟨{}⟩
def Cl.cs (c : Cl) : Array Value := #[.int .i64 c.kind, .string c.key, .string c.val, .int .i64 c.most, .slice c.ka c.kl c.kc]
def Cl.v (c : Cl) : Value := .agg c.cs
@[go_sem] theorem Cl.size_cs (c : Cl) : c.cs.size = 5 := rfl
@[go_sem] theorem Cl.cells_v (c : Cl) : c.v.cells = c.cs := rfl
@[go_sem] theorem Cl.cs_0 (c : Cl) : c.cs[0]? = some (.int .i64 c.kind) := rfl
@[go_sem] theorem Cl.cs_1 (c : Cl) : c.cs[1]? = some (.string c.key) := rfl
@[go_sem] theorem Cl.cs_2 (c : Cl) : c.cs[2]? = some (.string c.val) := rfl
@[go_sem] theorem Cl.cs_3 (c : Cl) : c.cs[3]? = some (.int .i64 c.most) := rfl
@[go_sem] theorem Cl.cs_4 (c : Cl) : c.cs[4]? = some (.slice c.ka c.kl c.kc) := rfl
/-- what is known of a call: what it keeps is there -/
def ClOk (w : World) (c : Cl) : Prop := ∃ I, StrsIn w c.ka c.kl I
theorem ClOk.below {w w' : World} {c : Cl} (h : ClOk w c) (hb : Below w.heap.size w w') : ClOk w' c := h.imp fun _ h => h.below hb

section
variable {H : Type} {enc : TypeId × Value → H} {w : World} {base : Nat} {spare : Nat → Bool} {held : Bool}
set_option maxRecDepth 100000 in
theorem cl_form {n : Nat} {cs : List Value} {x : DataW H × List MemPlace} (h : DataW.trod enc Try.prog w base spare held n 92 cs = some x) : ∃ c : Cl, cs = c.cs.toList ∧ ClOk w c := by
  obtain ⟨xs, m, rfl, rfl, hlen, hsz, hall⟩ := DataW.trod_struct Try.underlying92 h
  have hl : cs.length = 5 := hlen.trans (by kernel_rfl)
  have k3 : Try.prog.cellsOf 3 = 1 := by kernel_rfl
  have k9 : Try.prog.cellsOf 9 = 1 := by kernel_rfl
  have k77 : Try.prog.cellsOf 27 = 1 := by kernel_rfl
  obtain ⟨c0, c1, c2, c3, c4, rfl⟩ : ∃ c0 c1 c2 c3 c4, cs = [c0, c1, c2, c3, c4] := by
    match cs, hl with
    | [c0, c1, c2, c3, c4], _ => exact ⟨c0, c1, c2, c3, c4, rfl⟩
  obtain ⟨y0, f0, -⟩ := cell_field hall hsz 0 0 3 rfl rfl rfl k3 (c := c0) rfl
  obtain ⟨y1, f1, -⟩ := cell_field hall hsz 1 1 9 rfl rfl rfl k9 (c := c1) rfl
  obtain ⟨y2, f2, -⟩ := cell_field hall hsz 2 2 9 rfl rfl rfl k9 (c := c2) rfl
  obtain ⟨y3, f3, -⟩ := cell_field hall hsz 3 3 3 rfl rfl rfl k3 (c := c3) rfl
  obtain ⟨y4, f4, -⟩ := cell_field hall hsz 4 4 27 rfl rfl rfl k77 (c := c4) rfl
  obtain ⟨n0, h0, -, -⟩ := DataW.trod_int Try.underlying3 f0
  obtain ⟨n1, h1, -, -⟩ := DataW.trod_string Try.underlying9 f1
  obtain ⟨n2, h2, -, -⟩ := DataW.trod_string Try.underlying9 f2
  obtain ⟨n3, h3, -, -⟩ := DataW.trod_int Try.underlying3 f3
  obtain ⟨ka, kl, kc, I, rfl, hI⟩ := strs_form16 f4
  simp only [List.cons.injEq, and_true] at h0 h1 h2 h3
  subst h0 h1 h2 h3
  exact ⟨⟨n0, n1, n2, n3, ka, kl, kc⟩, rfl, I, hI⟩

/-- a slice of calls that came in: its elements -/
def ClsIn (w : World) (a : Option Addr) (len : Nat) (I : List Cl) : Prop :=
  len ≤ 9223372036854775807 ∧ I.length = len ∧ (len = 0 ∨ ∃ b off, a = some ⟨b, off, none⟩ ∧ b < w.heap.size ∧ ∀ (i : Nat) (h : i < I.length), w.rangeAt b (off + i * 5) I[i].cs.toList ∧ ClOk w I[i])
set_option maxRecDepth 100000 in
theorem cls_form {n : Nat} {c : Value} {x : DataW H × List MemPlace} (h : DataW.trod enc Try.prog w base spare held n 79 [c] = some x) :
    ∃ a len cap I, c = .slice a len cap ∧ ClsIn w a len I := by
  rcases open_slice Try.underlying79 h with ⟨hcs, rfl⟩ | ⟨a, len, cap, m, n', D, Pl, hcs, hb, hl, hm, hmm, rfl, hx⟩
  · simp at hcs
    exact ⟨_, _, _, [], hcs, by omega, rfl, .inl rfl⟩
  · simp only [List.cons.injEq, and_true] at hcs
    have k5 : Try.prog.cellsOf 92 = 5 := by kernel_rfl
    rw [k5] at hx
    have hle : len ≤ m := by rw [hmm]; split <;> omega
    obtain ⟨V, hV⟩ := choose_lt (α := Cl) (p := fun i v => w.cells? base (a.add (i * 5)) 5 = some v.cs.toList ∧ ClOk w v) (n := m) (fun i hi => by
      obtain ⟨cs', h1, h2⟩ := hx i hi
      obtain ⟨c, rfl, hok⟩ := cl_form h2
      exact ⟨c, h1, hok⟩)
    refine ⟨some a, len, cap, (List.range len).map V, hcs, by simp only [maxLen] at hm; omega, by simp, ?_⟩
    by_cases h0 : len = 0
    · exact .inl h0
    · right
      obtain ⟨-, -, hcell0⟩ := World.cells?_some (hV 0 (by omega)).1
      have hc0 := (hcell0 0 (by omega)).trans (show (V 0).cs.toList[0]? = some (.int .i64 (V 0).kind) from rfl)
      obtain ⟨b, off, spot⟩ := a
      have hspot : spot = none := by simpa [Addr.add] using World.cell?_spot hc0
      subst hspot
      refine ⟨b, off, rfl, World.block_lt_of_cell? w _ (by simpa [Addr.add] using hc0), fun i hi => ?_⟩
      have hi' : i < len := by simpa using hi
      refine ⟨?_, by simpa using (hV i (by omega)).2⟩
      intro j v hv
      obtain ⟨-, -, hcell⟩ := World.cells?_some (hV i (by omega)).1
      have hv' : (V i).cs.toList[j]? = some v := by simpa using hv
      have hj : j < 5 := (List.getElem?_eq_some_iff.1 hv').1
      have := (hcell j hj).trans hv'
      simpa [Addr.add_lit] using this
theorem ClsIn.below {w' : World} {a : Option Addr} {len : Nat} {I : List Cl} (h : ClsIn w a len I) (hb : Below w.heap.size w w') : ClsIn w' a len I := by
  refine ⟨h.1, h.2.1, ?_⟩
  rcases h.2.2 with h0 | ⟨b, off, rfl, h1, h2⟩
  · exact .inl h0
  · exact .inr ⟨b, off, rfl, Nat.lt_of_lt_of_le h1 hb.size, fun i hi => ⟨fun j v hv => (hb.cell (p := ⟨b, off + i * 5 + j, none⟩) h1).trans ((h2 i hi).1 j v hv), (h2 i hi).2.below hb⟩⟩
end

/-- loads, stores and variables of a call, under names that the walk does not open -/
def loadCl (a : Value) : Sem Value := Instr.loadAt 92 a
def storeCl (a v : Value) : Sem Unit := Instr.storeAt 92 a v
def allocCl : Sem Value := Instr.alloc 92 true (.tuple #[])
def boxCl (v : Value) : Sem Value := Instr.box 92 v
@[go_sem ↓] theorem loadCl_eq (a : Value) : Instr.loadAt 92 a = loadCl a := rfl
@[go_sem ↓] theorem storeCl_eq (a v : Value) : Instr.storeAt 92 a v = storeCl a v := rfl
@[go_sem ↓] theorem allocCl_eq : Instr.alloc 92 true (.tuple #[]) = allocCl := rfl
@[go_sem ↓] theorem boxCl_eq (v : Value) : Instr.box 92 v = boxCl v := rfl
@[go_sem] theorem run_allocCl (w : World) : allocCl.run Try.prog w = .ok (.pointer (some ⟨w.heap.size, 0, none⟩)) (w.alloc (.cells (Cl.cs {}) 92)) := by kernel_rfl
@[go_sem] theorem run_boxCl (w : World) (c : Cl) : (boxCl c.v).run Try.prog w = .ok (.pointer (some ⟨w.heap.size, 0, none⟩)) (w.alloc (.cells c.cs 92)) := by kernel_rfl
theorem sizeCl : (Try.prog.info? 92).map (·.size) = some 5 := by kernel_rfl
def row5 (o : Option (Array Value)) : Bool := match o with | some c => c.size == 5 | none => false
@[go_sem] theorem row5_cl (c : Cl) : row5 (some c.cs) = true := rfl
@[go_sem] theorem run_storeCl (w : World) (n : Nat) (c : Cl) (h : row5 (rowAt w n) = true) : (storeCl (.pointer (some ⟨n, 0, none⟩)) c.v).run Try.prog w = .ok () (w.setRow n c.cs) := by
  have hv : (storeVar 92 ⟨n, 0, none⟩ c.v).run Try.prog w = .ok () (w.setRow n c.cs) := by
    cases hr : rowAt w n with
    | none => rw [hr] at h; cases h
    | some cc =>
      rw [hr] at h
      obtain ⟨t, ht⟩ := rowAt_heap hr
      have hs : cc.size = 5 := by simpa [row5] using h
      have hst := run_storeCells_at Try.prog n 0 t c.cs.toList 0 cc w ht (by simp [hs, Cl.size_cs]) (by intro u hu; simp [Cl.cs] at hu; rcases hu with rfl | rfl | rfl | rfl | rfl <;> rfl)
      have e : cc.toList.drop (0 + 0 + c.cs.toList.length) = [] := by simp [hs, Cl.size_cs]
      rw [e] at hst
      cases hq : Try.prog.info? 92 with
      | none => have := sizeCl; simp [hq] at this
      | some i =>
        have hi : i.size = 5 := by have := sizeCl; simpa [hq] using this
        simp only [List.take_zero, List.nil_append, List.append_nil, Nat.add_zero, Array.toArray_toList] at hst
        simp [storeVar, Sem.run_bind, sizeOf, typeInfo, hq, hi, Cl.cells_v, Cl.size_cs, hst]
  simp only [storeCl, Instr.storeAt, Instr.sureAddr, Sem.run_bind, Sem.run_pure, Result.andThen_ok, hv]
theorem load_clIn {w : World} {b off : Nat} {c : Cl} (h : w.rangeAt b off c.cs.toList) : (loadCl (.pointer (some ⟨b, off, none⟩))).run Try.prog w = .ok c.v w :=
  run_loadAt_mid w b off 92 c.cs.toList _ h Try.underlying92 rfl sizeCl
/-- a call out of its variable -/
theorem load_clVar {w : World} {n : Nat} {c : Cl} (h : rowAt w n = some c.cs) : (loadCl (.pointer (some ⟨n, 0, none⟩))).run Try.prog w = .ok c.v w :=
  load_clIn (fun j v hv => by
    rw [Nat.zero_add, cell_row h]
    simpa using hv)
end Go.Proofs.Ytljommhbhpappaa
