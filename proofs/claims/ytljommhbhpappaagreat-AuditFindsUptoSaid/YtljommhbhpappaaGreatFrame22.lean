/-
  How slices of chapter 22's calls read that came in as arguments, with the bound of the second form; calls as values.
-/
import Derived.Test.YtljommhbhpappaaGreatFrame13
import Derived.SliceStrings
import Derived.ChangeSlices
namespace Go.Proofs.YtljommhbhpappaaGreat
open Go.ChangeShapes Go.WideShapes Go.ChangeAt Go.RowKit Go.Deep Go.Joins
set_option linter.unusedVariables false
set_option linter.unusedSimpArgs false

/-- a slice of strings that came in: its elements -/
def StrsIn (w : World) (a : Option Addr) (len : Nat) (I : List ByteArray) : Prop :=
  len ≤ 9223372036854775807 ∧ I.length = len ∧ (len = 0 ∨ ∃ b off, a = some ⟨b, off, none⟩ ∧ b < w.heap.size ∧ ∀ (i : Nat) (h : i < I.length), w.cell? ⟨b, off + i, none⟩ = some (.string I[i]))
theorem StrsIn.below {w w' : World} {a : Option Addr} {len : Nat} {I : List ByteArray} (h : StrsIn w a len I) (hb : Below w.heap.size w w') : StrsIn w' a len I := by
  refine ⟨h.1, h.2.1, ?_⟩
  rcases h.2.2 with h0 | ⟨b, off, rfl, h1, h2⟩
  · exact .inl h0
  · exact .inr ⟨b, off, rfl, Nat.lt_of_lt_of_le h1 hb.size, fun i hi => (hb.cell (p := ⟨b, off + i, none⟩) h1).trans (h2 i hi)⟩

/-- a call, as it lies in memory -/
structure Cl where
  kind : Int := 0
  num : Int := 0
  key : ByteArray := ByteArray.empty
  ka : Option Addr := none
  kl : Nat := 0
  kc : Nat := 0
  pg : Pg := Pg.zero
instance : Inhabited Cl := ⟨{}⟩
def Cl.cs (c : Cl) : Array Value := #[.int .i64 c.kind, .int .i64 c.num, .string c.key, .slice c.ka c.kl c.kc, .int .i64 c.pg.k, .int .i64 c.pg.l, .int .i64 c.pg.s, .int .i64 c.pg.n, .int .i64 c.pg.a0, .string c.pg.d0, .int .i64 c.pg.a1, .string c.pg.d1, .int .i64 c.pg.a2, .string c.pg.d2, .int .i64 c.pg.a3, .string c.pg.d3, .int .i64 c.pg.a4, .string c.pg.d4, .int .i64 c.pg.a5, .string c.pg.d5]
def Cl.v (c : Cl) : Value := .agg c.cs
@[go_sem] theorem Cl.size_cs (c : Cl) : c.cs.size = 20 := rfl
@[go_sem] theorem Cl.cells_v (c : Cl) : c.v.cells = c.cs := rfl
@[go_sem] theorem Cl.cs_0 (c : Cl) : c.cs[0]? = some (.int .i64 c.kind) := rfl
@[go_sem] theorem Cl.cs_1 (c : Cl) : c.cs[1]? = some (.int .i64 c.num) := rfl
@[go_sem] theorem Cl.cs_2 (c : Cl) : c.cs[2]? = some (.string c.key) := rfl
@[go_sem] theorem Cl.cs_3 (c : Cl) : c.cs[3]? = some (.slice c.ka c.kl c.kc) := rfl
/-- what is known of a call: what it keeps is there -/
def ClOk (w : World) (c : Cl) : Prop := c.num < 9223372036854775808 ∧ ∃ I, StrsIn w c.ka c.kl I
theorem ClOk.below {w w' : World} {c : Cl} (h : ClOk w c) (hb : Below w.heap.size w w') : ClOk w' c := ⟨h.1, h.2.imp fun _ h => h.below hb⟩

section
variable {H : Type} {enc : TypeId × Value → H} {w : World} {base : Nat} {spare : Nat → Bool} {held : Bool}
theorem part_le {d : DataW H} {l : List (DataW H)} (h : d ∈ l) : Rows.uptoBulk d ≤ Rows.uptoBulkAll l := by
  induction l with
  | nil => cases h
  | cons x r ih =>
    simp only [Rows.uptoBulkAll]
    cases List.mem_cons.1 h with
    | inl e => subst e; omega
    | inr e => have := ih e; omega
set_option maxRecDepth 100000 in
theorem strs_formU {n : Nat} {c : Value} {x : DataW H × List MemPlace} (h : DataW.trod enc Tryz.prog w base spare held n 33 [c] = some x) :
    ∃ a len cap I, c = .slice a len cap ∧ StrsIn w a len I ∧ len ≤ Rows.uptoBulk x.1 := by
  rcases open_strings Tryz.underlying33 Tryz.underlying9 (by kernel_rfl) h with ⟨hcs, rfl⟩ | ⟨a, len, cap, ss, hcs, hl0, hl, hm, hz, rfl, hcell, hws⟩
  · simp at hcs
    exact ⟨_, _, _, [], hcs, ⟨by omega, rfl, .inl rfl⟩, Nat.zero_le _⟩
  · simp only [List.cons.injEq, and_true] at hcs
    have hlen : len ≤ ss.length := by rw [hz]; split <;> omega
    have hb : (ss.take len).length ≤ Rows.uptoBulk (DataW.slice (H := H) (strs (ss.take len)) (strs (ss.drop len))) := by
      have h1 : ∀ l : List ByteArray, l.length ≤ Rows.uptoBulkAll (strs (H := H) l) := by
        intro l
        induction l with
        | nil => simp [strs, Rows.uptoBulkAll]
        | cons s l ih => simp only [strs, List.map_cons, Rows.uptoBulkAll, Rows.uptoBulk, List.length_cons] at ih ⊢; omega
      have := h1 (ss.take len)
      simp only [Rows.uptoBulk]
      omega
    have hlt : (ss.take len).length = len := by simp; omega
    refine ⟨some a, len, cap, ss.take len, hcs, ⟨by simp only [maxLen] at hm; omega, hlt, ?_⟩, by rw [hlt] at hb; exact hb⟩
    by_cases h0 : len = 0
    · exact .inl h0
    · right
      have hc0 := hcell 0 (by omega)
      obtain ⟨b, off, spot⟩ := a
      have hspot : spot = none := by simpa [Addr.add] using World.cell?_spot hc0
      subst hspot
      refine ⟨b, off, rfl, World.block_lt_of_cell? w _ (by simpa [Addr.add] using hc0), fun i hi => ?_⟩
      have hi' : i < ss.length := by simp at hi; omega
      have := hcell i hi'
      rw [Addr.add_lit] at this
      rw [this, List.getElem_take, List.getD_eq_getElem?_getD, List.getElem?_eq_getElem hi']
      rfl

set_option maxRecDepth 100000 in
theorem cl_formU {n : Nat} {cs : List Value} {x : DataW H × List MemPlace} (h : DataW.trod enc Tryz.prog w base spare held n 40 cs = some x) : ∃ c : Cl, cs = c.cs.toList ∧ ClOk w c ∧ c.kl ≤ Rows.uptoBulk x.1 := by
  obtain ⟨xs, m, rfl, hxe, hlen, hsz, hall⟩ := DataW.trod_struct Tryz.underlying40 h
  have hl : cs.length = 20 := hlen.trans (by kernel_rfl)
  have k3 : Tryz.prog.cellsOf 3 = 1 := by kernel_rfl
  have k9 : Tryz.prog.cellsOf 9 = 1 := by kernel_rfl
  have k77 : Tryz.prog.cellsOf 33 = 1 := by kernel_rfl
  have k16 : Tryz.prog.cellsOf 38 = 16 := by kernel_rfl
  obtain ⟨c0, c1, c2, c3, r, rfl⟩ : ∃ c0 c1 c2 c3 r, cs = c0 :: c1 :: c2 :: c3 :: r := by
    match cs, hl with
    | c0 :: c1 :: c2 :: c3 :: r, _ => exact ⟨c0, c1, c2, c3, r, rfl⟩
  obtain ⟨y0, f0, -⟩ := cell_field hall hsz 0 0 3 rfl rfl rfl k3 (c := c0) rfl
  obtain ⟨y1, f1, -⟩ := cell_field hall hsz 1 1 3 rfl rfl rfl k3 (c := c1) rfl
  obtain ⟨y2, f2, -⟩ := cell_field hall hsz 2 2 9 rfl rfl rfl k9 (c := c2) rfl
  obtain ⟨y3, f3, g3⟩ := cell_field hall hsz 3 3 33 rfl rfl rfl k77 (c := c3) rfl
  obtain ⟨y4, f4, -⟩ := wide_field hall hsz 4 4 16 38 rfl rfl rfl k16
  obtain ⟨n0, h0, -, -⟩ := DataW.trod_int Tryz.underlying3 f0
  obtain ⟨n1, h1, -, w1⟩ := DataW.trod_int Tryz.underlying3 f1
  obtain ⟨n2, h2, -, -⟩ := DataW.trod_string Tryz.underlying9 f2
  obtain ⟨ka, kl, kc, I, rfl, hI, hbk⟩ := strs_formU f3
  simp only [List.cons.injEq, and_true] at h0 h1 h2
  subst h0 h1 h2
  have er : ((Value.int .i64 n0 :: Value.int .i64 n1 :: Value.string n2 :: Value.slice ka kl kc :: r).drop 4).take 16 = r := by
    have h16 : r.length = 16 := by simpa using hl
    simp only [List.drop_succ_cons, List.drop_zero]
    exact List.take_of_length_le (by omega)
  rw [er] at f4
  obtain ⟨p, rfl⟩ := page_form f4
  refine ⟨⟨n0, n1, n2, ka, kl, kc, p⟩, rfl, ⟨?_, I, hI⟩, ?_⟩
  · have := lt_of_wf w1
    show n1 < _
    omega
  have hm4 : y3.1 ∈ xs.map (·.1) := List.mem_map.2 ⟨y3, List.mem_of_getElem? g3, rfl⟩
  have h5 := part_le hm4
  rw [hxe]
  show kl ≤ Rows.uptoBulkAll (xs.map (·.1)) + 1
  omega
/-- a slice of calls that came in: its elements -/
def ClsIn (w : World) (a : Option Addr) (len : Nat) (I : List Cl) : Prop :=
  len ≤ 9223372036854775807 ∧ I.length = len ∧ (len = 0 ∨ ∃ b off, a = some ⟨b, off, none⟩ ∧ b < w.heap.size ∧ ∀ (i : Nat) (h : i < I.length), w.rangeAt b (off + i * 20) I[i].cs.toList ∧ ClOk w I[i])
set_option maxRecDepth 100000 in
theorem cls_formU {n : Nat} {c : Value} {x : DataW H × List MemPlace} (h : DataW.trod enc Tryz.prog w base spare held n 22 [c] = some x) :
    ∃ a len cap I, c = .slice a len cap ∧ ClsIn w a len I ∧ ∀ c ∈ I, c.kl ≤ Rows.uptoBulk x.1 := by
  rcases open_slice Tryz.underlying22 h with ⟨hcs, rfl⟩ | ⟨a, len, cap, m, n', D, Pl, hcs, hb, hl, hm, hmm, rfl, hx⟩
  · simp at hcs
    exact ⟨_, _, _, [], hcs, ⟨by omega, rfl, .inl rfl⟩, fun c hc => by cases hc⟩
  · simp only [List.cons.injEq, and_true] at hcs
    have k20 : Tryz.prog.cellsOf 40 = 20 := by kernel_rfl
    rw [k20] at hx
    have hle : len ≤ m := by rw [hmm]; split <;> omega
    obtain ⟨V, hV⟩ := choose_lt (α := Cl) (p := fun i v => w.cells? base (a.add (i * 20)) 20 = some v.cs.toList ∧ ClOk w v ∧ v.kl ≤ Rows.uptoBulk (D i)) (n := m) (fun i hi => by
      obtain ⟨cs', h1, h2⟩ := hx i hi
      obtain ⟨c, rfl, hok⟩ := cl_formU h2
      exact ⟨c, h1, hok⟩)
    refine ⟨some a, len, cap, (List.range len).map V, hcs, ⟨by simp only [maxLen] at hm; omega, by simp, ?_⟩, fun c hc => ?_⟩
    rotate_left
    · obtain ⟨i, hi, rfl⟩ := List.mem_map.1 hc
      have hi' : i < len := List.mem_range.1 hi
      have h3 := (hV i (by omega)).2.2
      have hm3 : D i ∈ (List.range len).map D := List.mem_map.2 ⟨i, hi, rfl⟩
      have h4 := part_le hm3
      show (V i).kl ≤ Rows.uptoBulkAll ((List.range len).map D) + Rows.uptoBulkAll _ + 1
      omega
    by_cases h0 : len = 0
    · exact .inl h0
    · right
      obtain ⟨-, -, hcell0⟩ := World.cells?_some (hV 0 (by omega)).1
      have hc0 := (hcell0 0 (by omega)).trans (show (V 0).cs.toList[0]? = some (.int .i64 (V 0).kind) from rfl)
      obtain ⟨b, off, spot⟩ := a
      have hspot : spot = none := by simpa [Addr.add] using World.cell?_spot hc0
      subst hspot
      refine ⟨b, off, rfl, World.block_lt_of_cell? w _ (by simpa [Addr.add] using hc0), fun i hi => ?_⟩
      have hi' : i < len := by simpa using hi
      refine ⟨?_, by simpa using (hV i (by omega)).2.1⟩
      intro j v hv
      obtain ⟨-, -, hcell⟩ := World.cells?_some (hV i (by omega)).1
      have hv' : (V i).cs.toList[j]? = some v := by simpa using hv
      have hj : j < 20 := (List.getElem?_eq_some_iff.1 hv').1
      have := (hcell j hj).trans hv'
      simpa [Addr.add_lit] using this
theorem ClsIn.below {w' : World} {a : Option Addr} {len : Nat} {I : List Cl} (h : ClsIn w a len I) (hb : Below w.heap.size w w') : ClsIn w' a len I := by
  refine ⟨h.1, h.2.1, ?_⟩
  rcases h.2.2 with h0 | ⟨b, off, rfl, h1, h2⟩
  · exact .inl h0
  · exact .inr ⟨b, off, rfl, Nat.lt_of_lt_of_le h1 hb.size, fun i hi => ⟨fun j v hv => (hb.cell (p := ⟨b, off + i * 20 + j, none⟩) h1).trans ((h2 i hi).1 j v hv), (h2 i hi).2.below hb⟩⟩
end

/-- loads, stores and variables of a call, under names that the walk does not open -/
def loadCl (a : Value) : Sem Value := Instr.loadAt 40 a
def storeCl (a v : Value) : Sem Unit := Instr.storeAt 40 a v
def allocCl : Sem Value := Instr.alloc 40 true (.tuple #[])
def boxCl (v : Value) : Sem Value := Instr.box 40 v
@[go_sem ↓] theorem loadCl_eq (a : Value) : Instr.loadAt 40 a = loadCl a := rfl
@[go_sem ↓] theorem storeCl_eq (a v : Value) : Instr.storeAt 40 a v = storeCl a v := rfl
@[go_sem ↓] theorem allocCl_eq : Instr.alloc 40 true (.tuple #[]) = allocCl := rfl
@[go_sem ↓] theorem boxCl_eq (v : Value) : Instr.box 40 v = boxCl v := rfl
@[go_sem] theorem run_allocCl (w : World) : allocCl.run Tryz.prog w = .ok (.pointer (some ⟨w.heap.size, 0, none⟩)) (w.alloc (.cells (Cl.cs {}) 40)) := by kernel_rfl
@[go_sem] theorem run_boxCl (w : World) (c : Cl) : (boxCl c.v).run Tryz.prog w = .ok (.pointer (some ⟨w.heap.size, 0, none⟩)) (w.alloc (.cells c.cs 40)) := by kernel_rfl
theorem sizeCl : (Tryz.prog.info? 40).map (·.size) = some 20 := by kernel_rfl
def row20 (o : Option (Array Value)) : Bool := match o with | some c => c.size == 20 | none => false
@[go_sem] theorem row20_cl (c : Cl) : row20 (some c.cs) = true := rfl
@[go_sem] theorem run_storeCl (w : World) (n : Nat) (c : Cl) (h : row20 (rowAt w n) = true) : (storeCl (.pointer (some ⟨n, 0, none⟩)) c.v).run Tryz.prog w = .ok () (w.setRow n c.cs) := by
  have hv : (storeVar 40 ⟨n, 0, none⟩ c.v).run Tryz.prog w = .ok () (w.setRow n c.cs) := by
    cases hr : rowAt w n with
    | none => rw [hr] at h; cases h
    | some cc =>
      rw [hr] at h
      obtain ⟨t, ht⟩ := rowAt_heap hr
      have hs : cc.size = 20 := by simpa [row20] using h
      have hst := run_storeCells_at Tryz.prog n 0 t c.cs.toList 0 cc w ht (by simp [hs, Cl.size_cs]) (by intro u hu; simp [Cl.cs] at hu; rcases hu with rfl | rfl | rfl | rfl | rfl | rfl | rfl | rfl | rfl | rfl | rfl | rfl | rfl | rfl | rfl | rfl | rfl | rfl | rfl | rfl <;> rfl)
      have e : cc.toList.drop (0 + 0 + c.cs.toList.length) = [] := by simp [hs, Cl.size_cs]
      rw [e] at hst
      cases hq : Tryz.prog.info? 40 with
      | none => have := sizeCl; simp [hq] at this
      | some i =>
        have hi : i.size = 20 := by have := sizeCl; simpa [hq] using this
        simp only [List.take_zero, List.nil_append, List.append_nil, Nat.add_zero, Array.toArray_toList] at hst
        simp [storeVar, Sem.run_bind, sizeOf, typeInfo, hq, hi, Cl.cells_v, Cl.size_cs, hst]
  simp only [storeCl, Instr.storeAt, Instr.sureAddr, Sem.run_bind, Sem.run_pure, Result.andThen_ok, hv]
theorem load_clIn {w : World} {b off : Nat} {c : Cl} (h : w.rangeAt b off c.cs.toList) : (loadCl (.pointer (some ⟨b, off, none⟩))).run Tryz.prog w = .ok c.v w :=
  run_loadAt_mid w b off 40 c.cs.toList _ h Tryz.underlying40 rfl sizeCl
/-- a call out of its variable -/
theorem load_clVar {w : World} {n : Nat} {c : Cl} (h : rowAt w n = some c.cs) : (loadCl (.pointer (some ⟨n, 0, none⟩))).run Tryz.prog w = .ok c.v w :=
  load_clIn (fun j v hv => by
    rw [Nat.zero_add, cell_row h]
    simpa using hv)
end Go.Proofs.YtljommhbhpappaaGreat
