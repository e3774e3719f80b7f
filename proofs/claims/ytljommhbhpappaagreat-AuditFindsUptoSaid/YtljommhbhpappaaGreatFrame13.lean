/-
  How pages, images and slices of images read that came in as arguments.
-/
import Derived.Test.YtljommhbhpappaaGreatFrameS
import Derived.Test.YtljommhbhpappaaGreatPkLand
namespace Go.Proofs.YtljommhbhpappaaGreat
open Go.ChangeShapes Go.WideShapes Go.ChangeAt Go.RowKit Go.Deep
set_option linter.unusedVariables false
set_option linter.unusedSimpArgs false

instance : Inhabited Pg := ⟨Pg.zero⟩

section
variable {H : Type} {enc : TypeId × Value → H} {w : World} {base : Nat} {spare : Nat → Bool} {held : Bool}

set_option maxRecDepth 100000 in
theorem cell_form {n : Nat} {cs : List Value} {x : DataW H × List MemPlace} (h : DataW.trod enc Tryz.prog w base spare held n 35 cs = some x) : ∃ (a : Int) (d : ByteArray), cs = [.int .i64 a, .string d] := by
  obtain ⟨xs, m, rfl, rfl, hlen, hsz, hall⟩ := DataW.trod_struct Tryz.underlying35 h
  have hl : cs.length = 2 := hlen.trans (by kernel_rfl)
  have k3 : Tryz.prog.cellsOf 3 = 1 := by kernel_rfl
  have k9 : Tryz.prog.cellsOf 9 = 1 := by kernel_rfl
  match cs, hl with
  | [c0, c1], _ =>
    obtain ⟨y0, f0, -⟩ := cell_field hall hsz 0 0 3 rfl rfl rfl k3 (c := c0) rfl
    obtain ⟨y1, f1, -⟩ := cell_field hall hsz 1 1 9 rfl rfl rfl k9 (c := c1) rfl
    obtain ⟨n0, h0, -, -⟩ := DataW.trod_int Tryz.underlying3 f0
    obtain ⟨n1, h1, -, -⟩ := DataW.trod_string Tryz.underlying9 f1
    simp only [List.cons.injEq, and_true] at h0 h1
    subst h0 h1
    exact ⟨_, _, rfl⟩

set_option maxRecDepth 100000 in
theorem page_form {n : Nat} {cs : List Value} {x : DataW H × List MemPlace} (h : DataW.trod enc Tryz.prog w base spare held n 38 cs = some x) : ∃ p : Pg, cs = p.cs.toList := by
  obtain ⟨xs, m, rfl, rfl, hlen, hsz, hall⟩ := DataW.trod_struct Tryz.underlying38 h
  have hl : cs.length = 16 := hlen.trans (by kernel_rfl)
  have k3 : Tryz.prog.cellsOf 3 = 1 := by kernel_rfl
  have k12 : Tryz.prog.cellsOf 36 = 12 := by kernel_rfl
  have k2 : Tryz.prog.cellsOf 35 = 2 := by kernel_rfl
  match cs, hl with
  | [c0, c1, c2, c3, c4, c5, c6, c7, c8, c9, c10, c11, c12, c13, c14, c15], _ =>
    obtain ⟨y0, f0, -⟩ := cell_field hall hsz 0 0 3 rfl rfl rfl k3 (c := c0) rfl
    obtain ⟨y1, f1, -⟩ := cell_field hall hsz 1 1 3 rfl rfl rfl k3 (c := c1) rfl
    obtain ⟨y2, f2, -⟩ := cell_field hall hsz 2 2 3 rfl rfl rfl k3 (c := c2) rfl
    obtain ⟨y3, f3, -⟩ := cell_field hall hsz 3 3 3 rfl rfl rfl k3 (c := c3) rfl
    obtain ⟨y4, f4, -⟩ := wide_field hall hsz 4 4 12 36 rfl rfl rfl k12
    obtain ⟨n0, h0, -, -⟩ := DataW.trod_int Tryz.underlying3 f0
    obtain ⟨n1, h1, -, -⟩ := DataW.trod_int Tryz.underlying3 f1
    obtain ⟨n2, h2, -, -⟩ := DataW.trod_int Tryz.underlying3 f2
    obtain ⟨n3, h3, -, -⟩ := DataW.trod_int Tryz.underlying3 f3
    simp only [List.cons.injEq, and_true] at h0 h1 h2 h3
    subst h0 h1 h2 h3
    obtain ⟨ys, q, rfl, rfl, -, hy6, hyall⟩ := DataW.trod_array Tryz.underlying36 f4
    rw [k2] at hyall
    have hc : ∀ i, i < 6 → ∃ (a : Int) (d : ByteArray), (([c4, c5, c6, c7, c8, c9, c10, c11, c12, c13, c14, c15] : List Value).drop (i * 2)).take 2 = [.int .i64 a, .string d] := fun i hi => by
      have hi' := hyall i hi
      rw [List.getElem?_eq_getElem (by omega)] at hi'
      exact cell_form hi'
    obtain ⟨a0, d0, e0⟩ := hc 0 (by omega)
    obtain ⟨a1, d1, e1⟩ := hc 1 (by omega)
    obtain ⟨a2, d2, e2⟩ := hc 2 (by omega)
    obtain ⟨a3, d3, e3⟩ := hc 3 (by omega)
    obtain ⟨a4, d4, e4⟩ := hc 4 (by omega)
    obtain ⟨a5, d5, e5⟩ := hc 5 (by omega)
    simp at e0 e1 e2 e3 e4 e5
    obtain ⟨rfl, rfl⟩ := e0
    obtain ⟨rfl, rfl⟩ := e1
    obtain ⟨rfl, rfl⟩ := e2
    obtain ⟨rfl, rfl⟩ := e3
    obtain ⟨rfl, rfl⟩ := e4
    obtain ⟨rfl, rfl⟩ := e5
    exact ⟨{ k := n0, l := n1, s := n2, n := n3, a0 := a0, d0 := d0, a1 := a1, d1 := d1, a2 := a2, d2 := d2, a3 := a3, d3 := d3, a4 := a4, d4 := d4, a5 := a5, d5 := d5 }, rfl⟩

set_option maxRecDepth 100000 in
theorem img_form {n : Nat} {cs : List Value} {x : DataW H × List MemPlace} (h : DataW.trod enc Tryz.prog w base spare held n 68 cs = some x) : ∃ (id : Int) (p : Pg), cs = (imgCs id p).toList := by
  obtain ⟨xs, m, rfl, rfl, hlen, hsz, hall⟩ := DataW.trod_struct Tryz.underlying68 h
  have hl : cs.length = 17 := hlen.trans (by kernel_rfl)
  have k3 : Tryz.prog.cellsOf 3 = 1 := by kernel_rfl
  have k16 : Tryz.prog.cellsOf 38 = 16 := by kernel_rfl
  obtain ⟨c0, r, rfl⟩ : ∃ c r, cs = c :: r := by
    cases cs with
    | nil => simp at hl
    | cons c r => exact ⟨c, r, rfl⟩
  obtain ⟨y0, f0, -⟩ := cell_field hall hsz 0 0 3 rfl rfl rfl k3 (c := c0) rfl
  obtain ⟨y1, f1, -⟩ := wide_field hall hsz 1 1 16 38 rfl rfl rfl k16
  obtain ⟨n0, h0, -, -⟩ := DataW.trod_int Tryz.underlying3 f0
  simp only [List.cons.injEq, and_true] at h0
  subst h0
  have er : ((Value.int .i64 n0 :: r).drop 1).take 16 = r := by
    rw [List.drop_one, List.tail_cons, List.take_of_length_le (by simp at hl; omega)]
  rw [er] at f1
  obtain ⟨p, rfl⟩ := page_form f1
  exact ⟨n0, p, rfl⟩

/-- a slice of images that came in: its elements -/
def ImgsIn (w : World) (a : Option Addr) (len : Nat) (I : List (Int × Pg)) : Prop :=
  len ≤ 9223372036854775807 ∧ I.length = len ∧ (len = 0 ∨ ∃ b off, a = some ⟨b, off, none⟩ ∧ b < w.heap.size ∧ ∀ (i : Nat) (h : i < I.length), w.rangeAt b (off + i * 17) (imgCs I[i].1 I[i].2).toList)

set_option maxRecDepth 100000 in
theorem imgs_form {n : Nat} {c : Value} {x : DataW H × List MemPlace} (h : DataW.trod enc Tryz.prog w base spare held n 28 [c] = some x) :
    ∃ a len cap I, c = .slice a len cap ∧ ImgsIn w a len I := by
  rcases open_slice Tryz.underlying28 h with ⟨hcs, rfl⟩ | ⟨a, len, cap, m, n', D, Pl, hcs, hb, hl, hm, hmm, rfl, hx⟩
  · simp at hcs
    exact ⟨_, _, _, [], hcs, by omega, rfl, .inl rfl⟩
  · simp only [List.cons.injEq, and_true] at hcs
    have k17 : Tryz.prog.cellsOf 68 = 17 := by kernel_rfl
    rw [k17] at hx
    have hle : len ≤ m := by rw [hmm]; split <;> omega
    obtain ⟨V, hV⟩ := choose_lt (α := Int × Pg) (p := fun i v => w.cells? base (a.add (i * 17)) 17 = some (imgCs v.1 v.2).toList) (n := m) (fun i hi => by
      obtain ⟨cs', h1, h2⟩ := hx i hi
      obtain ⟨id, p, rfl⟩ := img_form h2
      exact ⟨(id, p), h1⟩)
    refine ⟨some a, len, cap, (List.range len).map V, hcs, by simp only [maxLen] at hm; omega, by simp, ?_⟩
    by_cases h0 : len = 0
    · exact .inl h0
    · right
      obtain ⟨-, -, hcell0⟩ := World.cells?_some (hV 0 (by omega))
      have hc0 := (hcell0 0 (by omega)).trans (show (imgCs (V 0).1 (V 0).2).toList[0]? = some (.int .i64 (V 0).1) from rfl)
      obtain ⟨b, off, spot⟩ := a
      have hspot : spot = none := by simpa [Addr.add] using World.cell?_spot hc0
      subst hspot
      refine ⟨b, off, rfl, World.block_lt_of_cell? w _ (by simpa [Addr.add] using hc0), fun i hi => ?_⟩
      have hi' : i < len := by simpa using hi
      intro j v hv
      obtain ⟨-, -, hcell⟩ := World.cells?_some (hV i (by omega))
      have hv' : (imgCs (V i).1 (V i).2).toList[j]? = some v := by simpa using hv
      have hj : j < 17 := (List.getElem?_eq_some_iff.1 hv').1
      have := (hcell j hj).trans hv'
      simpa [Addr.add_lit] using this
theorem ImgsIn.below {w' : World} {a : Option Addr} {len : Nat} {I : List (Int × Pg)} (h : ImgsIn w a len I) (hb : Below w.heap.size w w') : ImgsIn w' a len I := by
  refine ⟨h.1, h.2.1, ?_⟩
  rcases h.2.2 with h0 | ⟨b, off, rfl, h1, h2⟩
  · exact .inl h0
  · exact .inr ⟨b, off, rfl, Nat.lt_of_lt_of_le h1 hb.size, fun i hi j v hv => (hb.cell (p := ⟨b, off + i * 17 + j, none⟩) h1).trans (h2 i hi j v hv)⟩
end
/-- an image read out of a slice that came in -/
theorem load_in {w : World} {b off : Nat} {id : Int} {p : Pg} (h : w.rangeAt b off (imgCs id p).toList) : (loadImg (.pointer (some ⟨b, off, none⟩))).run Tryz.prog w = .ok (imgV id p) w :=
  run_loadAt_mid w b off 68 (imgCs id p).toList _ h Tryz.underlying68 rfl sizeImg
end Go.Proofs.YtljommhbhpappaaGreat
