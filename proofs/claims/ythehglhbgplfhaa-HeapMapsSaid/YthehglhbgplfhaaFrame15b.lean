/-
  How slices of chapter 15's calls read that came in as arguments; calls as values.
-/
import Derived.Test.YthehglhbgplfhaaFrame15
import Derived.Test.YthehglhbgplfhaaHeap2
import Derived.ChangeSlices
namespace Go.Proofs.Ythehglhbgplfhaa
open Go.ChangeShapes Go.WideShapes Go.ChangeAt Go.RowKit Go.Deep Go.Joins
set_option linter.unusedVariables false
set_option linter.unusedSimpArgs false

/-- a call, as it lies in memory -/
structure Cl where
  kind : Int := 0
  store : Int := 0
  id : Int := 0
  val : ByteArray := ByteArray.empty
  ka : Option Addr := none
  kl : Nat := 0
  kc : Nat := 0
  page : Pg := Pg.zero
instance : Inhabited Cl := ⟨{}⟩
def Cl.cs (c : Cl) : Array Value := #[.int .i64 c.kind, .int .i64 c.store, .int .i64 c.id, .string c.val, .slice c.ka c.kl c.kc, .int .i64 c.page.k, .int .i64 c.page.l, .int .i64 c.page.s, .int .i64 c.page.n, .int .i64 c.page.a0, .string c.page.d0, .int .i64 c.page.a1, .string c.page.d1, .int .i64 c.page.a2, .string c.page.d2, .int .i64 c.page.a3, .string c.page.d3, .int .i64 c.page.a4, .string c.page.d4, .int .i64 c.page.a5, .string c.page.d5]
def Cl.v (c : Cl) : Value := .agg c.cs
@[go_sem] theorem Cl.size_cs (c : Cl) : c.cs.size = 21 := rfl
@[go_sem] theorem Cl.cells_v (c : Cl) : c.v.cells = c.cs := rfl
@[go_sem] theorem Cl.cs_0 (c : Cl) : c.cs[0]? = some (.int .i64 c.kind) := rfl
@[go_sem] theorem Cl.cs_2 (c : Cl) : c.cs[2]? = some (.int .i64 c.id) := rfl
@[go_sem] theorem Cl.cs_3 (c : Cl) : c.cs[3]? = some (.string c.val) := rfl
@[go_sem] theorem Cl.cs_4 (c : Cl) : c.cs[4]? = some (.slice c.ka c.kl c.kc) := rfl
/-- what is known of a call: its number is one, what it keeps is there -/
def ClOk (w : World) (c : Cl) : Prop := c.id < 9223372036854775808 ∧ ∃ zs, RowOk w c.ka c.kl zs
theorem ClOk.below {w w' : World} {c : Cl} (h : ClOk w c) (hb : Below w.heap.size w w') : ClOk w' c := ⟨h.1, h.2.imp fun _ h => h.below hb⟩

section
variable {H : Type} {enc : TypeId × Value → H} {w : World} {base : Nat} {spare : Nat → Bool} {held : Bool}
set_option maxRecDepth 100000 in
theorem cl_form {n : Nat} {cs : List Value} {x : DataW H × List MemPlace} (h : DataW.trod enc Try.prog w base spare held n 79 cs = some x) : ∃ c : Cl, cs = c.cs.toList ∧ ClOk w c := by
  obtain ⟨xs, m, rfl, rfl, hlen, hsz, hall⟩ := DataW.trod_struct Try.underlying79 h
  have hl : cs.length = 21 := hlen.trans (by kernel_rfl)
  have k3 : Try.prog.cellsOf 3 = 1 := by kernel_rfl
  have k9 : Try.prog.cellsOf 9 = 1 := by kernel_rfl
  have k77 : Try.prog.cellsOf 77 = 1 := by kernel_rfl
  have k16 : Try.prog.cellsOf 41 = 16 := by kernel_rfl
  obtain ⟨c0, c1, c2, c3, c4, r, rfl⟩ : ∃ c0 c1 c2 c3 c4 r, cs = c0 :: c1 :: c2 :: c3 :: c4 :: r := by
    match cs, hl with
    | c0 :: c1 :: c2 :: c3 :: c4 :: r, _ => exact ⟨c0, c1, c2, c3, c4, r, rfl⟩
  obtain ⟨y0, f0, -⟩ := cell_field hall hsz 0 0 3 rfl rfl rfl k3 (c := c0) rfl
  obtain ⟨y1, f1, -⟩ := cell_field hall hsz 1 1 3 rfl rfl rfl k3 (c := c1) rfl
  obtain ⟨y2, f2, -⟩ := cell_field hall hsz 2 2 3 rfl rfl rfl k3 (c := c2) rfl
  obtain ⟨y3, f3, -⟩ := cell_field hall hsz 3 3 9 rfl rfl rfl k9 (c := c3) rfl
  obtain ⟨y4, f4, -⟩ := cell_field hall hsz 4 4 77 rfl rfl rfl k77 (c := c4) rfl
  obtain ⟨y5, f5, -⟩ := wide_field hall hsz 5 5 16 41 rfl rfl rfl k16
  obtain ⟨n0, h0, -, -⟩ := DataW.trod_int Try.underlying3 f0
  obtain ⟨n1, h1, -, -⟩ := DataW.trod_int Try.underlying3 f1
  obtain ⟨n2, h2, -, w2⟩ := DataW.trod_int Try.underlying3 f2
  obtain ⟨n3, h3, -, -⟩ := DataW.trod_string Try.underlying9 f3
  have hk : ∃ ka kl kc zs, c4 = .slice ka kl kc ∧ RowOk w ka kl zs := by
    rcases open_ints Try.underlying77 Try.underlying3 k3 f4 with ⟨hcs, -⟩ | ⟨a, len, cap, zs, hcs, hb, hlc, hm, hzl, -, hcell, hwf⟩
    · simp only [List.cons.injEq, and_true] at hcs
      exact ⟨_, _, _, [], hcs, by omega, .inl rfl⟩
    · simp only [List.cons.injEq, and_true] at hcs
      refine ⟨_, _, _, zs, hcs, by simp only [maxLen] at hm; omega, ?_⟩
      by_cases hl0 : len = 0
      · exact .inl hl0
      · have hlz : len ≤ zs.length := by rw [hzl]; split <;> omega
        have hc0 := hcell 0 (by omega)
        obtain ⟨b, off, spot⟩ := a
        have hspot : spot = none := by simpa [Addr.add] using World.cell?_spot hc0
        subst hspot
        refine .inr ⟨b, off, rfl, World.block_lt_of_cell? w _ (by simpa [Addr.add] using hc0), fun i hi => ?_⟩
        have := hcell i (by omega)
        rwa [Addr.add_lit] at this
  obtain ⟨ka, kl, kc, zs, rfl, hrow⟩ := hk
  simp only [List.cons.injEq, and_true] at h0 h1 h2 h3
  subst h0 h1 h2 h3
  have er : ((Value.int .i64 n0 :: Value.int .i64 n1 :: Value.int .i64 n2 :: Value.string n3 :: Value.slice ka kl kc :: r).drop 5).take 16 = r := by
    simp only [List.drop_succ_cons, List.drop_zero]
    rw [List.take_of_length_le (by simp at hl; omega)]
  rw [er] at f5
  obtain ⟨p, rfl⟩ := page_form f5
  exact ⟨⟨n0, n1, n2, n3, ka, kl, kc, p⟩, rfl, by have := lt_of_wf w2; show n2 < _; omega, zs, hrow⟩

/-- a slice of calls that came in: its elements -/
def ClsIn (w : World) (a : Option Addr) (len : Nat) (I : List Cl) : Prop :=
  len ≤ 9223372036854775807 ∧ I.length = len ∧ (len = 0 ∨ ∃ b off, a = some ⟨b, off, none⟩ ∧ b < w.heap.size ∧ ∀ (i : Nat) (h : i < I.length), w.rangeAt b (off + i * 21) I[i].cs.toList ∧ ClOk w I[i])
set_option maxRecDepth 100000 in
theorem cls_form {n : Nat} {c : Value} {x : DataW H × List MemPlace} (h : DataW.trod enc Try.prog w base spare held n 74 [c] = some x) :
    ∃ a len cap I, c = .slice a len cap ∧ ClsIn w a len I := by
  rcases open_slice Try.underlying74 h with ⟨hcs, rfl⟩ | ⟨a, len, cap, m, n', D, Pl, hcs, hb, hl, hm, hmm, rfl, hx⟩
  · simp at hcs
    exact ⟨_, _, _, [], hcs, by omega, rfl, .inl rfl⟩
  · simp only [List.cons.injEq, and_true] at hcs
    have k21 : Try.prog.cellsOf 79 = 21 := by kernel_rfl
    rw [k21] at hx
    have hle : len ≤ m := by rw [hmm]; split <;> omega
    obtain ⟨V, hV⟩ := choose_lt (α := Cl) (p := fun i v => w.cells? base (a.add (i * 21)) 21 = some v.cs.toList ∧ ClOk w v) (n := m) (fun i hi => by
      obtain ⟨cs', h1, h2⟩ := hx i hi
      obtain ⟨c, rfl, hok⟩ := cl_form h2
      exact ⟨c, h1, hok⟩)
    refine ⟨some a, len, cap, (List.range len).map V, hcs, by simp only [maxLen] at hm; omega, by simp, ?_⟩
    by_cases h0 : len = 0
    · exact .inl h0
    · right
      obtain ⟨-, -, hcell0⟩ := World.cells?_some (hV 0 (by omega)).1
      have hc0 := (hcell0 0 (by omega)).trans (show (V 0).cs.toList[0]? = some (.int .i64 (V 0).kind) from rfl)
      obtain ⟨b, off, spot⟩ := a
      have hspot : spot = none := by simpa [Addr.add] using World.cell?_spot hc0
      subst hspot
      refine ⟨b, off, rfl, World.block_lt_of_cell? w _ (by simpa [Addr.add] using hc0), fun i hi => ?_⟩
      have hi' : i < len := by simpa using hi
      refine ⟨?_, by simpa using (hV i (by omega)).2⟩
      intro j v hv
      obtain ⟨-, -, hcell⟩ := World.cells?_some (hV i (by omega)).1
      have hv' : (V i).cs.toList[j]? = some v := by simpa using hv
      have hj : j < 21 := (List.getElem?_eq_some_iff.1 hv').1
      have := (hcell j hj).trans hv'
      simpa [Addr.add_lit] using this
theorem ClsIn.below {w' : World} {a : Option Addr} {len : Nat} {I : List Cl} (h : ClsIn w a len I) (hb : Below w.heap.size w w') : ClsIn w' a len I := by
  refine ⟨h.1, h.2.1, ?_⟩
  rcases h.2.2 with h0 | ⟨b, off, rfl, h1, h2⟩
  · exact .inl h0
  · exact .inr ⟨b, off, rfl, Nat.lt_of_lt_of_le h1 hb.size, fun i hi => ⟨fun j v hv => (hb.cell (p := ⟨b, off + i * 21 + j, none⟩) h1).trans ((h2 i hi).1 j v hv), (h2 i hi).2.below hb⟩⟩
end

/-- loads, stores and variables of a call, under names that the walk does not open -/
def loadCl (a : Value) : Sem Value := Instr.loadAt 79 a
def storeCl (a v : Value) : Sem Unit := Instr.storeAt 79 a v
def allocCl : Sem Value := Instr.alloc 79 true (.tuple #[])
def boxCl (v : Value) : Sem Value := Instr.box 79 v
@[go_sem ↓] theorem loadCl_eq (a : Value) : Instr.loadAt 79 a = loadCl a := rfl
@[go_sem ↓] theorem storeCl_eq (a v : Value) : Instr.storeAt 79 a v = storeCl a v := rfl
@[go_sem ↓] theorem allocCl_eq : Instr.alloc 79 true (.tuple #[]) = allocCl := rfl
@[go_sem ↓] theorem boxCl_eq (v : Value) : Instr.box 79 v = boxCl v := rfl
@[go_sem] theorem run_allocCl (w : World) : allocCl.run Try.prog w = .ok (.pointer (some ⟨w.heap.size, 0, none⟩)) (w.alloc (.cells (Cl.cs {}) 79)) := by kernel_rfl
@[go_sem] theorem run_boxCl (w : World) (c : Cl) : (boxCl c.v).run Try.prog w = .ok (.pointer (some ⟨w.heap.size, 0, none⟩)) (w.alloc (.cells c.cs 79)) := by kernel_rfl
theorem sizeCl : (Try.prog.info? 79).map (·.size) = some 21 := by kernel_rfl
def row21 (o : Option (Array Value)) : Bool := match o with | some c => c.size == 21 | none => false
@[go_sem] theorem row21_cl (c : Cl) : row21 (some c.cs) = true := rfl
@[go_sem] theorem run_storeCl (w : World) (n : Nat) (c : Cl) (h : row21 (rowAt w n) = true) : (storeCl (.pointer (some ⟨n, 0, none⟩)) c.v).run Try.prog w = .ok () (w.setRow n c.cs) := by
  have hv : (storeVar 79 ⟨n, 0, none⟩ c.v).run Try.prog w = .ok () (w.setRow n c.cs) := by
    cases hr : rowAt w n with
    | none => rw [hr] at h; cases h
    | some cc =>
      rw [hr] at h
      obtain ⟨t, ht⟩ := rowAt_heap hr
      have hs : cc.size = 21 := by simpa [row21] using h
      have hst := run_storeCells_at Try.prog n 0 t c.cs.toList 0 cc w ht (by simp [hs, Cl.size_cs]) (by intro u hu; simp [Cl.cs] at hu; rcases hu with rfl | rfl | rfl | rfl | rfl | rfl | rfl | rfl | rfl | rfl | rfl | rfl | rfl | rfl | rfl | rfl | rfl | rfl | rfl | rfl | rfl <;> rfl)
      have e : cc.toList.drop (0 + 0 + c.cs.toList.length) = [] := by simp [hs, Cl.size_cs]
      rw [e] at hst
      cases hq : Try.prog.info? 79 with
      | none => have := sizeCl; simp [hq] at this
      | some i =>
        have hi : i.size = 21 := by have := sizeCl; simpa [hq] using this
        simp only [List.take_zero, List.nil_append, List.append_nil, Nat.add_zero, Array.toArray_toList] at hst
        simp [storeVar, Sem.run_bind, sizeOf, typeInfo, hq, hi, Cl.cells_v, Cl.size_cs, hst]
  simp only [storeCl, Instr.storeAt, Instr.sureAddr, Sem.run_bind, Sem.run_pure, Result.andThen_ok, hv]
theorem load_clIn {w : World} {b off : Nat} {c : Cl} (h : w.rangeAt b off c.cs.toList) : (loadCl (.pointer (some ⟨b, off, none⟩))).run Try.prog w = .ok c.v w :=
  run_loadAt_mid w b off 79 c.cs.toList _ h Try.underlying79 rfl sizeCl
/-- a call out of its variable -/
theorem load_clVar {w : World} {n : Nat} {c : Cl} (h : rowAt w n = some c.cs) : (loadCl (.pointer (some ⟨n, 0, none⟩))).run Try.prog w = .ok c.v w :=
  load_clIn (fun j v hv => by
    rw [Nat.zero_add, cell_row h]
    simpa using hv)
end Go.Proofs.Ythehglhbgplfhaa
