/-
  Layer 9: how a list of calls reads.
-/
import Derived.Test.YtileamjmhhifaaaGreatFrame09
import Derived.Test.YtileamjmhhifaaaGreatLk5
import Derived.ChangeSlices
namespace Go.Proofs.YtileamjmhhifaaaGreat
open Go.ChangeShapes Go.WideShapes Go.ChangeAt Go.RowKit Go.Deep Go.Joins
set_option linter.unusedVariables false
set_option linter.unusedSimpArgs false

/-- a call: who, of what, which mode -/
structure Ca where
  x : Int
  n : Nm
  m : Int
instance : Inhabited Ca := ⟨⟨0, default, 0⟩⟩
def Ca.l (c : Ca) : List Value := [.int .i64 c.x, .int .i64 c.n.s, .string c.n.i, .int .i64 c.m]
section
variable {H : Type} {enc : TypeId × Value → H} {w : World} {base : Nat} {spare : Nat → Bool} {held : Bool}
set_option maxRecDepth 100000 in
theorem ca_form {n : Nat} {cs : List Value} {x : DataW H × List MemPlace} (h : DataW.trod enc Tryz.prog w base spare held n 33 cs = some x) : ∃ c : Ca, cs = c.l := by
  obtain ⟨xs, m, rfl, rfl, hlen, hsz, hall⟩ := DataW.trod_struct Tryz.underlying33 h
  have hl : cs.length = 4 := hlen.trans (by kernel_rfl)
  have k3 : Tryz.prog.cellsOf 3 = 1 := by kernel_rfl
  have k2 : Tryz.prog.cellsOf 31 = 2 := by kernel_rfl
  match cs, hl with
  | [c0, c1, c2, c3], _ =>
    obtain ⟨y0, f0, -⟩ := cell_field hall hsz 0 0 3 rfl rfl rfl k3 (c := c0) rfl
    obtain ⟨y1, f1, -⟩ := wide_field hall hsz 1 1 2 31 rfl rfl rfl k2
    obtain ⟨y2, f2, -⟩ := cell_field hall hsz 2 3 3 rfl rfl rfl k3 (c := c3) rfl
    obtain ⟨n0, h0, -, -⟩ := DataW.trod_int Tryz.underlying3 f0
    obtain ⟨s, i, h1, -⟩ := nm_form f1
    obtain ⟨n2, h2, -, -⟩ := DataW.trod_int Tryz.underlying3 f2
    simp only [List.drop_succ_cons, List.drop_zero, List.take_succ_cons, List.take_zero, List.cons.injEq, and_true] at h0 h1 h2
    obtain ⟨h1, h1'⟩ := h1
    subst h0 h1 h1' h2
    exact ⟨⟨_, ⟨_, _⟩, _⟩, rfl⟩
/-- a slice of calls that came in: its elements -/
def CasIn (w : World) (a : Option Addr) (len : Nat) (I : List Ca) : Prop :=
  len ≤ 9223372036854775807 ∧ I.length = len ∧ (len = 0 ∨ ∃ b off, a = some ⟨b, off, none⟩ ∧ b < w.heap.size ∧ ∀ (i : Nat) (h : i < I.length), w.rangeAt b (off + i * 4) I[i].l)
set_option maxRecDepth 100000 in
theorem cas_form {n : Nat} {c : Value} {x : DataW H × List MemPlace} (h : DataW.trod enc Tryz.prog w base spare held n 22 [c] = some x) :
    ∃ a len cap I, c = .slice a len cap ∧ CasIn w a len I := by
  rcases open_slice Tryz.underlying22 h with ⟨hcs, rfl⟩ | ⟨a, len, cap, m, n', D, Pl, hcs, hb, hl, hm, hmm, rfl, hx⟩
  · simp at hcs
    exact ⟨_, _, _, [], hcs, by omega, rfl, .inl rfl⟩
  · simp only [List.cons.injEq, and_true] at hcs
    have k21 : Tryz.prog.cellsOf 33 = 4 := by kernel_rfl
    rw [k21] at hx
    have hle : len ≤ m := by rw [hmm]; split <;> omega
    obtain ⟨V, hV⟩ := choose_lt (α := Ca) (p := fun i v => w.cells? base (a.add (i * 4)) 4 = some v.l) (n := m) (fun i hi => by
      obtain ⟨cs', h1, h2⟩ := hx i hi
      obtain ⟨c, rfl⟩ := ca_form h2
      exact ⟨c, h1⟩)
    refine ⟨some a, len, cap, (List.range len).map V, hcs, by simp only [maxLen] at hm; omega, by simp, ?_⟩
    by_cases h0 : len = 0
    · exact .inl h0
    · right
      obtain ⟨-, -, hcell0⟩ := World.cells?_some (hV 0 (by omega))
      have hc0 := (hcell0 0 (by omega)).trans (show (V 0).l[0]? = some (.int .i64 (V 0).x) from rfl)
      obtain ⟨b, off, spot⟩ := a
      have hspot : spot = none := by simpa [Addr.add] using World.cell?_spot hc0
      subst hspot
      refine ⟨b, off, rfl, World.block_lt_of_cell? w _ (by simpa [Addr.add] using hc0), fun i hi => ?_⟩
      have hi' : i < len := by simpa using hi
      intro j v hv
      obtain ⟨-, -, hcell⟩ := World.cells?_some (hV i (by omega))
      have hv' : (V i).l[j]? = some v := by simpa using hv
      have hj : j < 4 := (List.getElem?_eq_some_iff.1 hv').1
      have := (hcell j hj).trans hv'
      simpa [Addr.add_lit] using this
theorem CasIn.below {w' : World} {a : Option Addr} {len : Nat} {I : List Ca} (h : CasIn w a len I) (hb : Below w.heap.size w w') : CasIn w' a len I := by
  refine ⟨h.1, h.2.1, ?_⟩
  rcases h.2.2 with h | ⟨b, off, h1, h2, h3⟩
  · exact .inl h
  · refine .inr ⟨b, off, h1, by have := hb.size; omega, fun i hi j v hv => ?_⟩
    exact (hb.cell (p := ⟨b, off + i * 4 + j, none⟩) h2).trans (h3 i hi j v hv)
/-- the cells of a call -/
theorem CasIn.cells {a : Option Addr} {len : Nat} {I : List Ca} (h : CasIn w a len I) (i : Nat) (hi : i < I.length) : ∃ b off, a = some ⟨b, off, none⟩ ∧ b < w.heap.size ∧ w.cell? ⟨b, off + i * 4, none⟩ = some (.int .i64 I[i].x) ∧ w.cell? ⟨b, off + i * 4 + 1, none⟩ = some (.int .i64 I[i].n.s) ∧ w.cell? ⟨b, off + i * 4 + 2, none⟩ = some (.string I[i].n.i) ∧ w.cell? ⟨b, off + i * 4 + 3, none⟩ = some (.int .i64 I[i].m) := by
  rcases h.2.2 with h0 | ⟨b, off, h1, h2, h3⟩
  · have := h.2.1; omega
  · have hr := h3 i hi
    exact ⟨b, off, h1, h2, hr 0 _ rfl, hr 1 _ rfl, hr 2 _ rfl, hr 3 _ rfl⟩
end
end Go.Proofs.YtileamjmhhifaaaGreat
