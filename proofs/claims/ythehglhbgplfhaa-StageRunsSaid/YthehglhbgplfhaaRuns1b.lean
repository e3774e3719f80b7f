/-
  Layer 13 (stage): both sides of StageRuns are written: a page is set, images are laid.
-/
import Derived.Test.YthehglhbgplfhaaRuns1
namespace Go.Proofs.Ythehglhbgplfhaa
open Go.RowKit Go.Joins
set_option linter.unusedVariables false
set_option linter.unusedSimpArgs false

theorem call_cells {w : World} {n : Nat} {c : CallV} (h : w.heap[n]? = some (.cells (CallV.cs c) 66)) :
    w.cell? ⟨n, 1, none⟩ = some (.int .i64 c.id) ∧ (loadPg (.pointer (some ⟨n, 2, none⟩))).run Try.prog w = .ok c.page.v w := by
  have hR : rowAt w n = some (CallV.cs c) := by simp [rowAt, h]
  exact ⟨(cell_row hR 1).trans rfl, load_callPage hR⟩

/-- a page is set on the real side -/
theorem set_real {w0 w : World} {b mb hb pb : Nat} {S : Vol} {tb kb kp : Nat} {l : List Pg} {v : Value} {B : Nat} {P : List (Int × Pg)} (id : Int) (p : Pg) (h : Twin w0 w b mb hb pb S tb kb kp l v B P) :
    Calls Try.prog 21 #[.pointer (some ⟨b, 0, none⟩), .int .i64 id, p.v] w fun e w' => e = .returned (.int .i64 (chkE (okSet id p))) ∧ Twin w0 w' b mb hb pb (if okSet id p then S.put id p else S) tb kb kp l v B P ∧ ∀ (c : Nat) (x : CallV), w.heap[c]? = some (.cells (CallV.cs x) 66) → w'.heap[c]? = some (.cells (CallV.cs x) 66) := by
  refine (set_any S b mb hb pb id p w h.real).mono ?_
  rintro e w' ⟨h1, h2, h3⟩
  obtain ⟨es, cl, hm, -⟩ := h.real.2.1
  exact ⟨h1, h.wmb h2 h3, fun c x hx => keepT hx h2 hm (by simp [kindOf])⟩

/-- a page is set on the document's side -/
theorem set_ref {w0 w : World} {b mb hb pb : Nat} {S : Vol} {tb kb kp : Nat} {l : List Pg} {v : Value} {B : Nat} {P : List (Int × Pg)} (id : Int) (p : Pg) (hn : P.length ≤ 1024) (hB : w0.heap.size ≤ B) (h : Twin w0 w b mb hb pb S tb kb kp l v B P) :
    Calls Try.prog 27 #[.pointer (some ⟨tb, 0, none⟩), .int .i64 id, p.v] w fun e w' => e = .returned (.int .i64 (chkE (okSet id p))) ∧ (∃ v' B', Twin w0 w' b mb hb pb S tb kb kp l v' B' (if okSet id p then rput id p P else P) ∧ w0.heap.size ≤ B') ∧ ∀ (c : Nat) (x : CallV), w.heap[c]? = some (.cells (CallV.cs x) 66) → w'.heap[c]? = some (.cells (CallV.cs x) 66) := by
  cases hok : okSet id p with
  | true =>
    refine (rstage_set_ok tb kb kp B l v P id p w h.ref hn hok).mono ?_
    rintro e w' ⟨h1, h2, v', h3⟩
    have hz := h.low.size
    exact ⟨h1, ⟨v', _, h.wtb h2 h3, by omega⟩, fun c x hx => keepT hx h2 h.ref.st (by simp [kindOf])⟩
  | false =>
    refine (rstage_set_bad _ id p w hok).mono ?_
    rintro e w' ⟨h1, h2⟩
    exact ⟨h1, ⟨v, B, h.below h2, hB⟩, fun c x hx => (h2.block c (Array.getElem?_eq_some_iff.1 hx).1).trans hx⟩

/-- do all images fit? -/
def allFit (l : List Pg) (I : List (Int × Pg)) : Bool := I.all (fitB l)
theorem allFit_cases (l : List Pg) (I : List (Int × Pg)) : (allFit l I = true ∧ Fits l I) ∨ (allFit l I = false ∧ ∃ j0, ∃ h : j0 < I.length, (∀ (i : Nat), i < j0 → ∀ (h : i < I.length), 0 ≤ I[i].1 ∧ I[i].1 < l.length ∧ okPg I[i].2 = true) ∧ ¬ (0 ≤ I[j0].1 ∧ I[j0].1 < l.length ∧ okPg I[j0].2 = true)) := by
  induction I with
  | nil => exact .inl ⟨rfl, fun x hx => by cases hx⟩
  | cons x r ih =>
    cases hx : fitB l x with
    | false =>
      refine .inr ⟨by simp [allFit, hx], 0, by simp, fun i hi => by omega, ?_⟩
      intro h
      have h' := (fitB_iff l x).2 h
      rw [hx] at h'; cases h'
    | true =>
      rcases ih with ⟨h1, h2⟩ | ⟨h1, j, hj, h2, h3⟩
      · refine .inl ⟨by simpa [allFit, hx] using h1, fun y hy => ?_⟩
        rcases List.mem_cons.1 hy with rfl | hy
        · exact (fitB_iff l y).1 hx
        · exact h2 y hy
      · refine .inr ⟨by simpa [allFit, hx] using h1, j + 1, by simpa using hj, fun i hi hil => ?_, by simpa using h3⟩
        cases i with
        | zero => exact (fitB_iff l x).1 hx
        | succ i => simpa using h2 i (by omega) (by simpa using hil)

/-- images are laid on the real side -/
theorem apply_real {w0 w : World} {b mb hb pb : Nat} {S : Vol} {tb kb kp : Nat} {l : List Pg} {v : Value} {B : Nat} {P : List (Int × Pg)} (I : List (Int × Pg)) (vi : Value) (Bi : Nat) (hi : I.length ≤ 2000) (h : Twin w0 w b mb hb pb S tb kb kp l v B P) (hv : w.ownsRow Bi 48 17 vi I.length (imgRow I)) :
    Calls Try.prog 24 #[.pointer (some ⟨hb, 0, none⟩), vi] w fun e w' => e = .returned (.int .i64 (chkE (allFit S.base I))) ∧ Twin w0 w' b mb hb pb ⟨if allFit S.base I then appl S.base I else S.base, S.M⟩ tb kb kp l v B P ∧ w'.ownsRow Bi 48 17 vi I.length (imgRow I) := by
  rcases allFit_cases S.base I with ⟨h1, h2⟩ | ⟨h1, j0, hj, h2, h3⟩
  · rw [h1]
    refine (apply_ok hb pb S.base I vi Bi w h.real.2.2.1 h2 hv hi).mono ?_
    rintro e w' ⟨e1, e2, e3⟩
    exact ⟨e1, h.wpb e2 (h.shelf_stage e2 e3), hv.kept e2 (own_ne_block hv h.real.2.2.1.2.1 (by decide))⟩
  · rw [h1]
    refine (apply_bad hb pb S.base I vi Bi w h.real.2.2.1 j0 hj h2 (fun _ => h3) hv hi).mono ?_
    rintro e w' ⟨e1, e2⟩
    exact ⟨e1, h.below e2, own_low hv e2⟩

/-- images are laid on the document's side -/
theorem apply_ref {w0 w : World} {b mb hb pb : Nat} {S : Vol} {tb kb kp : Nat} {l : List Pg} {v : Value} {B : Nat} {P : List (Int × Pg)} (I : List (Int × Pg)) (vi : Value) (Bi : Nat) (hi : I.length ≤ 2000) (h : Twin w0 w b mb hb pb S tb kb kp l v B P) (hv : w.ownsRow Bi 48 17 vi I.length (imgRow I)) :
    Calls Try.prog 30 #[.pointer (some ⟨kb, 0, none⟩), vi] w fun e w' => e = .returned (.int .i64 (chkE (allFit l I))) ∧ Twin w0 w' b mb hb pb S tb kb kp (if allFit l I then appl l I else l) v B P := by
  rcases allFit_cases l I with ⟨h1, h2⟩ | ⟨h1, j0, hj, h2, h3⟩
  · rw [h1]
    refine (rapply_ok kb kp l I vi Bi w h.ref.shelf h2 hv hi).mono ?_
    rintro e w' ⟨e1, e2, e3⟩
    exact ⟨e1, h.wkp e2 e3⟩
  · rw [h1]
    refine (rapply_bad kb kp l I vi Bi w h.ref.shelf j0 hj h2 (fun _ => h3) hv hi).mono ?_
    rintro e w' ⟨e1, e2⟩
    exact ⟨e1, h.below e2⟩

/-- a slice of two images -/
def rowImg2 (parts : Array (Nat × Value)) : Sem Value := Instr.buildSlice 46 2 parts
@[go_sem ↓] theorem rowImg2_eq (parts : Array (Nat × Value)) : Instr.buildSlice 46 2 parts = rowImg2 parts := rfl
def pairCs (x y : Int × Pg) : Array Value := #[.int .i64 x.1, .int .i64 x.2.k, .int .i64 x.2.l, .int .i64 x.2.s, .int .i64 x.2.n, .int .i64 x.2.a0, .string x.2.d0, .int .i64 x.2.a1, .string x.2.d1, .int .i64 x.2.a2, .string x.2.d2, .int .i64 x.2.a3, .string x.2.d3, .int .i64 x.2.a4, .string x.2.d4, .int .i64 x.2.a5, .string x.2.d5, .int .i64 y.1, .int .i64 y.2.k, .int .i64 y.2.l, .int .i64 y.2.s, .int .i64 y.2.n, .int .i64 y.2.a0, .string y.2.d0, .int .i64 y.2.a1, .string y.2.d1, .int .i64 y.2.a2, .string y.2.d2, .int .i64 y.2.a3, .string y.2.d3, .int .i64 y.2.a4, .string y.2.d4, .int .i64 y.2.a5, .string y.2.d5]
theorem pairCs_row (x y : Int × Pg) : (pairCs x y).toList = imgRow [x, y] := rfl
@[go_sem] theorem run_rowImg2 (w : World) (i j : Int) (p q : Pg) : (rowImg2 #[(0, imgV i p), (1, imgV j q)]).run Try.prog w = .ok (.slice (some ⟨w.heap.size, 0, none⟩) 2 2) (w.alloc (.cells (pairCs (i, p) (j, q)) 48)) := by kernel_rfl
theorem row_pair (w : World) (x y : Int × Pg) (B : Nat) (hB : B ≤ w.heap.size) : (w.alloc (.cells (pairCs x y) 48)).ownsRow B 48 17 (.slice (some ⟨w.heap.size, 0, none⟩) 2 2) [x, y].length (imgRow [x, y]) := by
  rw [← pairCs_row]
  have h1 : (pairCs x y).toList.length = 34 := rfl
  have h2 : (pairCs x y).size = 34 := rfl
  generalize pairCs x y = c at *
  refine ⟨by simp [h1], .inr ⟨w.heap.size, 2, c, rfl, hB, heap_alloc_new w _, by simp, by simp [maxLen], ?_, ?_⟩⟩
  · simp [h2]
  · show List.take 34 c.toList = c.toList
    rw [← h1]; exact List.take_length

def RunAt (w wr : World) (n b mb hb pb tb kb kp : Nat) : Prop :=
  ∃ S v B P, Twin w wr b mb hb pb S tb kb kp S.base v B P ∧ Sync S P ∧ S.base.length = n ∧ w.heap.size ≤ B
theorem run_put {w w' : World} {n b mb hb pb tb kb kp : Nat} {S : Vol} {v' : Value} {B' : Nat} {P : List (Int × Pg)} {id : Int} {p : Pg}
    (h : Twin w w' b mb hb pb (if okSet id p then S.put id p else S) tb kb kp S.base v' B' (if okSet id p then rput id p P else P)) (hs : Sync S P) (hl : S.base.length = n) (hB : w.heap.size ≤ B') : RunAt w w' n b mb hb pb tb kb kp := by
  cases hok : okSet id p with
  | true => rw [hok] at h; exact ⟨S.put id p, v', B', rput id p P, h, hs.put id p hok, hl, hB⟩
  | false => rw [hok] at h; exact ⟨S, v', B', P, h, hs, hl, hB⟩
end Go.Proofs.Ythehglhbgplfhaa
