/-
  How slices of calls read that came in as arguments, with the bound of the second form.
-/
import Derived.Test.YtljommhbhpappaaFrame16
import Derived.Test.YtljommhbhpappaaFrameS
import Derived.Test.YtljommhbhpappaaPkLand
import Derived.SliceStrings
import Derived.ChangeSlices
namespace Go.Proofs.Ytljommhbhpappaa
open Go.ChangeShapes Go.WideShapes Go.ChangeAt Go.RowKit Go.Deep Go.Joins
set_option linter.unusedVariables false
set_option linter.unusedSimpArgs false

section
variable {H : Type} {enc : TypeId × Value → H} {w : World} {base : Nat} {spare : Nat → Bool} {held : Bool}
theorem part_le {d : DataW H} {l : List (DataW H)} (h : d ∈ l) : Rows.uptoBulk d ≤ Rows.uptoBulkAll l := by
  induction l with
  | nil => cases h
  | cons x r ih =>
    simp only [Rows.uptoBulkAll]
    cases List.mem_cons.1 h with
    | inl e => subst e; omega
    | inr e => have := ih e; omega
set_option maxRecDepth 100000 in
theorem strs_formU {n : Nat} {c : Value} {x : DataW H × List MemPlace} (h : DataW.trod enc Try.prog w base spare held n 27 [c] = some x) :
    ∃ a len cap I, c = .slice a len cap ∧ StrsIn w a len I ∧ len ≤ Rows.uptoBulk x.1 := by
  rcases open_strings Try.underlying27 Try.underlying9 (by kernel_rfl) h with ⟨hcs, rfl⟩ | ⟨a, len, cap, ss, hcs, hl0, hl, hm, hz, rfl, hcell, hws⟩
  · simp at hcs
    exact ⟨_, _, _, [], hcs, ⟨by omega, rfl, .inl rfl⟩, Nat.zero_le _⟩
  · simp only [List.cons.injEq, and_true] at hcs
    have hlen : len ≤ ss.length := by rw [hz]; split <;> omega
    have hb : (ss.take len).length ≤ Rows.uptoBulk (DataW.slice (H := H) (strs (ss.take len)) (strs (ss.drop len))) := by
      have h1 : ∀ l : List ByteArray, l.length ≤ Rows.uptoBulkAll (strs (H := H) l) := by
        intro l
        induction l with
        | nil => simp [strs, Rows.uptoBulkAll]
        | cons s l ih => simp only [strs, List.map_cons, Rows.uptoBulkAll, Rows.uptoBulk, List.length_cons] at ih ⊢; omega
      have := h1 (ss.take len)
      simp only [Rows.uptoBulk]
      omega
    have hlt : (ss.take len).length = len := by simp; omega
    refine ⟨some a, len, cap, ss.take len, hcs, ⟨by simp only [maxLen] at hm; omega, hlt, ?_⟩, by rw [hlt] at hb; exact hb⟩
    by_cases h0 : len = 0
    · exact .inl h0
    · right
      have hc0 := hcell 0 (by omega)
      obtain ⟨b, off, spot⟩ := a
      have hspot : spot = none := by simpa [Addr.add] using World.cell?_spot hc0
      subst hspot
      refine ⟨b, off, rfl, World.block_lt_of_cell? w _ (by simpa [Addr.add] using hc0), fun i hi => ?_⟩
      have hi' : i < ss.length := by simp at hi; omega
      have := hcell i hi'
      rw [Addr.add_lit] at this
      rw [this, List.getElem_take, List.getD_eq_getElem?_getD, List.getElem?_eq_getElem hi']
      rfl

set_option maxRecDepth 100000 in
theorem cl_formU {n : Nat} {cs : List Value} {x : DataW H × List MemPlace} (h : DataW.trod enc Try.prog w base spare held n 92 cs = some x) : ∃ c : Cl, cs = c.cs.toList ∧ ClOk w c ∧ c.kl ≤ Rows.uptoBulk x.1 := by
  obtain ⟨xs, m, rfl, hxe, hlen, hsz, hall⟩ := DataW.trod_struct Try.underlying92 h
  have hl : cs.length = 5 := hlen.trans (by kernel_rfl)
  have k3 : Try.prog.cellsOf 3 = 1 := by kernel_rfl
  have k9 : Try.prog.cellsOf 9 = 1 := by kernel_rfl
  have k77 : Try.prog.cellsOf 27 = 1 := by kernel_rfl
  obtain ⟨c0, c1, c2, c3, c4, rfl⟩ : ∃ c0 c1 c2 c3 c4, cs = [c0, c1, c2, c3, c4] := by
    match cs, hl with
    | [c0, c1, c2, c3, c4], _ => exact ⟨c0, c1, c2, c3, c4, rfl⟩
  obtain ⟨y0, f0, -⟩ := cell_field hall hsz 0 0 3 rfl rfl rfl k3 (c := c0) rfl
  obtain ⟨y1, f1, -⟩ := cell_field hall hsz 1 1 9 rfl rfl rfl k9 (c := c1) rfl
  obtain ⟨y2, f2, -⟩ := cell_field hall hsz 2 2 9 rfl rfl rfl k9 (c := c2) rfl
  obtain ⟨y3, f3, -⟩ := cell_field hall hsz 3 3 3 rfl rfl rfl k3 (c := c3) rfl
  obtain ⟨y4, f4, g4⟩ := cell_field hall hsz 4 4 27 rfl rfl rfl k77 (c := c4) rfl
  obtain ⟨n0, h0, -, -⟩ := DataW.trod_int Try.underlying3 f0
  obtain ⟨n1, h1, -, -⟩ := DataW.trod_string Try.underlying9 f1
  obtain ⟨n2, h2, -, -⟩ := DataW.trod_string Try.underlying9 f2
  obtain ⟨n3, h3, -, -⟩ := DataW.trod_int Try.underlying3 f3
  obtain ⟨ka, kl, kc, I, rfl, hI, hbk⟩ := strs_formU f4
  simp only [List.cons.injEq, and_true] at h0 h1 h2 h3
  subst h0 h1 h2 h3
  refine ⟨⟨n0, n1, n2, n3, ka, kl, kc⟩, rfl, ⟨I, hI⟩, ?_⟩
  have hm4 : y4.1 ∈ xs.map (·.1) := List.mem_map.2 ⟨y4, List.mem_of_getElem? g4, rfl⟩
  have h5 := part_le hm4
  rw [hxe]
  show kl ≤ Rows.uptoBulkAll (xs.map (·.1)) + 1
  omega
set_option maxRecDepth 100000 in
theorem cls_formU {n : Nat} {c : Value} {x : DataW H × List MemPlace} (h : DataW.trod enc Try.prog w base spare held n 79 [c] = some x) :
    ∃ a len cap I, c = .slice a len cap ∧ ClsIn w a len I ∧ ∀ c ∈ I, c.kl ≤ Rows.uptoBulk x.1 := by
  rcases open_slice Try.underlying79 h with ⟨hcs, rfl⟩ | ⟨a, len, cap, m, n', D, Pl, hcs, hb, hl, hm, hmm, rfl, hx⟩
  · simp at hcs
    exact ⟨_, _, _, [], hcs, ⟨by omega, rfl, .inl rfl⟩, fun c hc => by cases hc⟩
  · simp only [List.cons.injEq, and_true] at hcs
    have k5 : Try.prog.cellsOf 92 = 5 := by kernel_rfl
    rw [k5] at hx
    have hle : len ≤ m := by rw [hmm]; split <;> omega
    obtain ⟨V, hV⟩ := choose_lt (α := Cl) (p := fun i v => w.cells? base (a.add (i * 5)) 5 = some v.cs.toList ∧ ClOk w v ∧ v.kl ≤ Rows.uptoBulk (D i)) (n := m) (fun i hi => by
      obtain ⟨cs', h1, h2⟩ := hx i hi
      obtain ⟨c, rfl, hok⟩ := cl_formU h2
      exact ⟨c, h1, hok⟩)
    refine ⟨some a, len, cap, (List.range len).map V, hcs, ⟨by simp only [maxLen] at hm; omega, by simp, ?_⟩, fun c hc => ?_⟩
    rotate_left
    · obtain ⟨i, hi, rfl⟩ := List.mem_map.1 hc
      have hi' : i < len := List.mem_range.1 hi
      have h3 := (hV i (by omega)).2.2
      have hm3 : D i ∈ (List.range len).map D := List.mem_map.2 ⟨i, hi, rfl⟩
      have h4 := part_le hm3
      show (V i).kl ≤ Rows.uptoBulkAll ((List.range len).map D) + Rows.uptoBulkAll _ + 1
      omega
    by_cases h0 : len = 0
    · exact .inl h0
    · right
      obtain ⟨-, -, hcell0⟩ := World.cells?_some (hV 0 (by omega)).1
      have hc0 := (hcell0 0 (by omega)).trans (show (V 0).cs.toList[0]? = some (.int .i64 (V 0).kind) from rfl)
      obtain ⟨b, off, spot⟩ := a
      have hspot : spot = none := by simpa [Addr.add] using World.cell?_spot hc0
      subst hspot
      refine ⟨b, off, rfl, World.block_lt_of_cell? w _ (by simpa [Addr.add] using hc0), fun i hi => ?_⟩
      have hi' : i < len := by simpa using hi
      refine ⟨?_, by simpa using (hV i (by omega)).2.1⟩
      intro j v hv
      obtain ⟨-, -, hcell⟩ := World.cells?_some (hV i (by omega)).1
      have hv' : (V i).cs.toList[j]? = some v := by simpa using hv
      have hj : j < 5 := (List.getElem?_eq_some_iff.1 hv').1
      have := (hcell j hj).trans hv'
      simpa [Addr.add_lit] using this
end
end Go.Proofs.Ytljommhbhpappaa
