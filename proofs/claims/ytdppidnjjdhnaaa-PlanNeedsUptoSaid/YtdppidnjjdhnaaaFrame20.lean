/-
  Layer 20: how the arguments of the plan's laws read: an operation by value, a slice of strings, the struct Planned; the bound on what comes in.
-/
import Derived.Test.YtdppidnjjdhnaaaFrame
import Derived.Test.YtdppidnjjdhnaaaPlan3
namespace Go.Proofs.Ytdppidnjjdhnaaa
open Go.ChangeShapes Go.WideShapes Go.ChangeAt Go.RowKit
set_option linter.unusedVariables false

section
variable {H : Type} {enc : TypeId × Value → H} {w : World} {base : Nat} {spare : Nat → Bool} {held : Bool}

theorem lt_of_wf {n : Int} (h : (Lit.int .i64 n).wf = true) : -9223372036854775808 ≤ n ∧ n ≤ 9223372036854775807 := by
  have := bounds_i64 h; omega

/-- a field of one cell -/
theorem cell_field {n : Nat} {fs : Array Field} {cs : List Value} {xs : List (DataW H × List MemPlace)}
    (hall : ∀ (i : Nat) (f : Field), fs[i]? = some f → DataW.trod enc Try.prog w base spare held n f.type ((cs.drop f.offset).take (Try.prog.cellsOf f.type)) = xs[i]?) (hsz : xs.length = fs.size)
    (i o : Nat) (t : TypeId) {f : Field} (hf : fs[i]? = some f) (ho : f.offset = o) (ht : f.type = t) (hc : Try.prog.cellsOf t = 1) {c : Value} (hcs : cs[o]? = some c) :
    ∃ y, DataW.trod enc Try.prog w base spare held n t [c] = some y ∧ xs[i]? = some y := by
  have hi : i < xs.length := by rw [hsz]; exact (Array.getElem?_eq_some_iff.1 hf).1
  obtain ⟨y, hy⟩ : ∃ y, xs[i]? = some y := ⟨_, List.getElem?_eq_getElem hi⟩
  refine ⟨y, ?_, hy⟩
  have := (hall i f hf).trans hy
  rw [ho, ht, hc] at this
  obtain ⟨ho', hcv⟩ := List.getElem?_eq_some_iff.1 hcs
  rw [List.drop_eq_getElem_cons ho', hcv] at this
  exact this

/-- a field of c cells -/
theorem wide_field {n : Nat} {fs : Array Field} {cs : List Value} {xs : List (DataW H × List MemPlace)}
    (hall : ∀ (i : Nat) (f : Field), fs[i]? = some f → DataW.trod enc Try.prog w base spare held n f.type ((cs.drop f.offset).take (Try.prog.cellsOf f.type)) = xs[i]?) (hsz : xs.length = fs.size)
    (i o c : Nat) (t : TypeId) {f : Field} (hf : fs[i]? = some f) (ho : f.offset = o) (ht : f.type = t) (hc : Try.prog.cellsOf t = c) :
    ∃ y, DataW.trod enc Try.prog w base spare held n t ((cs.drop o).take c) = some y ∧ xs[i]? = some y := by
  have hi : i < xs.length := by rw [hsz]; exact (Array.getElem?_eq_some_iff.1 hf).1
  obtain ⟨y, hy⟩ : ∃ y, xs[i]? = some y := ⟨_, List.getElem?_eq_getElem hi⟩
  refine ⟨y, ?_, hy⟩
  have := (hall i f hf).trans hy
  rw [ho, ht, hc] at this
  exact this

theorem op_form {n : Nat} {cs : List Value} {x : DataW H × List MemPlace} (h : DataW.trod enc Try.prog w base spare held n 23 cs = some x) :
    ∃ (k st num a l : Int) (key val : ByteArray), cs = [.int .i64 k, .int .i64 st, .string key, .string val, .int .i64 num, .int .i64 a, .int .i64 l] ∧ (-9223372036854775808 ≤ num ∧ num ≤ 9223372036854775807) := by
  obtain ⟨xs, m, rfl, rfl, hlen, hsz, hall⟩ := DataW.trod_struct Try.underlying23 h
  have hl : cs.length = 7 := hlen.trans (by kernel_rfl)
  have k3 : Try.prog.cellsOf 3 = 1 := by kernel_rfl
  have k9 : Try.prog.cellsOf 9 = 1 := by kernel_rfl
  match cs, hl with
  | [c0, c1, c2, c3, c4, c5, c6], _ =>
    obtain ⟨y0, f0, -⟩ := cell_field hall hsz 0 0 3 rfl rfl rfl k3 (c := c0) rfl
    obtain ⟨y1, f1, -⟩ := cell_field hall hsz 1 1 3 rfl rfl rfl k3 (c := c1) rfl
    obtain ⟨y2, f2, -⟩ := cell_field hall hsz 2 2 9 rfl rfl rfl k9 (c := c2) rfl
    obtain ⟨y3, f3, -⟩ := cell_field hall hsz 3 3 9 rfl rfl rfl k9 (c := c3) rfl
    obtain ⟨y4, f4, -⟩ := cell_field hall hsz 4 4 3 rfl rfl rfl k3 (c := c4) rfl
    obtain ⟨y5, f5, -⟩ := cell_field hall hsz 5 5 3 rfl rfl rfl k3 (c := c5) rfl
    obtain ⟨y6, f6, -⟩ := cell_field hall hsz 6 6 3 rfl rfl rfl k3 (c := c6) rfl
    obtain ⟨n0, h0, -, -⟩ := DataW.trod_int Try.underlying3 f0
    obtain ⟨n1, h1, -, -⟩ := DataW.trod_int Try.underlying3 f1
    obtain ⟨n2, h2, -, -⟩ := DataW.trod_string Try.underlying9 f2
    obtain ⟨n3, h3, -, -⟩ := DataW.trod_string Try.underlying9 f3
    obtain ⟨n4, h4, -, w4⟩ := DataW.trod_int Try.underlying3 f4
    obtain ⟨n5, h5, -, -⟩ := DataW.trod_int Try.underlying3 f5
    obtain ⟨n6, h6, -, -⟩ := DataW.trod_int Try.underlying3 f6
    simp only [List.cons.injEq, and_true] at h0 h1 h2 h3 h4 h5 h6
    subst h0 h1 h2 h3 h4 h5 h6
    exact ⟨_, _, _, _, _, _, _, rfl, lt_of_wf w4⟩

/-- a slice of strings that came in: what it reads as; its datum's bulk bounds its length -/
theorem strs_form {n : Nat} {c : Value} {x : DataW H × List MemPlace} (h : DataW.trod enc Try.prog w 0 spare held n 24 [c] = some x) :
    ∃ ao kn kc ss, c = .slice ao kn kc ∧ StrsAt w (.slice ao kn kc) ss ∧ ss.length ≤ Rows.uptoBulk x.1 := by
  rcases open_strings Try.underlying24 Try.underlying9 (by kernel_rfl) h with ⟨hcs, rfl⟩ | ⟨a, len, cap, ss, hcs, _, hl, hm, hz, rfl, hcell, hws⟩
  · simp at hcs
    exact ⟨_, _, _, [], hcs, .inl ⟨_, _, rfl, rfl, fun _ => rfl⟩, by simp⟩
  · simp only [List.cons.injEq, and_true] at hcs
    have hlen : len ≤ ss.length := by rw [hz]; split <;> omega
    have hb : (ss.take len).length ≤ Rows.uptoBulk (DataW.slice (H := H) (strs (ss.take len)) (strs (ss.drop len))) := by
      have h1 : ∀ l : List ByteArray, l.length ≤ Rows.uptoBulkAll (strs (H := H) l) := by
        intro l
        induction l with
        | nil => simp [strs, Rows.uptoBulkAll]
        | cons s l ih => simp only [strs, List.map_cons, Rows.uptoBulkAll, Rows.uptoBulk, List.length_cons] at ih ⊢; omega
      have := h1 (ss.take len)
      simp only [Rows.uptoBulk]
      omega
    have hlt : (ss.take len).length = len := by simp; omega
    by_cases h0 : len = 0
    · subst h0
      exact ⟨some a, 0, cap, [], hcs, .inl ⟨_, _, rfl, rfl, fun h => by cases h⟩, by simp⟩
    · have hc0 := hcell 0 (by omega)
      obtain ⟨b, off, spot⟩ := a
      have hspot : spot = none := by simpa [Addr.add] using World.cell?_spot hc0
      subst hspot
      refine ⟨some ⟨b, off, none⟩, len, cap, ss.take len, hcs, .inr ⟨b, off, cap, by rw [hlt], World.block_lt_of_cell? w _ (by simpa [Addr.add] using hc0), fun i hi => ?_⟩, hb⟩
      have hi' : i < ss.length := by simp at hi; omega
      have := hcell i hi'
      rw [Addr.add_lit] at this
      rw [this, List.getElem_take]
      simp [List.getD, List.getElem?_eq_getElem hi']

theorem part_le {d : DataW H} {l : List (DataW H)} (h : d ∈ l) : Rows.uptoBulk d ≤ Rows.uptoBulkAll l := by
  induction l with
  | nil => cases h
  | cons x r ih =>
    simp only [Rows.uptoBulkAll]
    cases List.mem_cons.1 h with
    | inl e => subst e; omega
    | inr e => have := ih e; omega

theorem planned_form {n : Nat} {cs : List Value} {x : DataW H × List MemPlace} (h : DataW.trod enc Try.prog w 0 spare held n 26 cs = some x) :
    ∃ (k st num a l err : Int) (key val next : ByteArray) (ao : Option Addr) (kn kc : Nat) (ss : List ByteArray), cs = [.int .i64 k, .int .i64 st, .string key, .string val, .int .i64 num, .int .i64 a, .int .i64 l, .string next, .slice ao kn kc, .int .i64 err] ∧
      (-9223372036854775808 ≤ num ∧ num ≤ 9223372036854775807) ∧ (-9223372036854775808 ≤ err ∧ err ≤ 9223372036854775807) ∧ StrsAt w (.slice ao kn kc) ss ∧ ss.length ≤ Rows.uptoBulk x.1 := by
  obtain ⟨xs, m, rfl, rfl, hlen, hsz, hall⟩ := DataW.trod_struct Try.underlying26 h
  have hl : cs.length = 10 := hlen.trans (by kernel_rfl)
  have k3 : Try.prog.cellsOf 3 = 1 := by kernel_rfl
  have k9 : Try.prog.cellsOf 9 = 1 := by kernel_rfl
  have k24 : Try.prog.cellsOf 24 = 1 := by kernel_rfl
  have k23 : Try.prog.cellsOf 23 = 7 := by kernel_rfl
  match cs, hl with
  | [c0, c1, c2, c3, c4, c5, c6, c7, c8, c9], _ =>
    obtain ⟨y7, f7, -⟩ := cell_field hall hsz 1 7 9 rfl rfl rfl k9 (c := c7) rfl
    obtain ⟨y8, f8, e8⟩ := cell_field hall hsz 2 8 24 rfl rfl rfl k24 (c := c8) rfl
    obtain ⟨y9, f9, -⟩ := cell_field hall hsz 3 9 3 rfl rfl rfl k3 (c := c9) rfl
    obtain ⟨y0, f0, -⟩ := wide_field hall hsz 0 0 7 23 rfl rfl rfl k23
    obtain ⟨k, st, num, a, l, key, val, h0, hn⟩ := op_form (cs := [c0, c1, c2, c3, c4, c5, c6]) f0
    obtain ⟨n7, h7, -, -⟩ := DataW.trod_string Try.underlying9 f7
    obtain ⟨ao, kn, kc, ss, h8, hs, hb⟩ := strs_form f8
    obtain ⟨n9, h9, -, w9⟩ := DataW.trod_int Try.underlying3 f9
    simp only [List.cons.injEq, and_true] at h0 h7 h9
    obtain ⟨rfl, rfl, rfl, rfl, rfl, rfl, rfl⟩ := h0
    subst h7 h8 h9
    refine ⟨_, _, _, _, _, _, _, _, _, _, _, _, ss, rfl, hn, lt_of_wf w9, hs, ?_⟩
    have h1 : y8.1 ∈ xs.map (·.1) := List.mem_map.2 ⟨y8, List.mem_of_getElem? e8, rfl⟩
    have h2 := part_le h1
    simp only [Rows.uptoBulk]
    omega
end
end Go.Proofs.Ytdppidnjjdhnaaa
