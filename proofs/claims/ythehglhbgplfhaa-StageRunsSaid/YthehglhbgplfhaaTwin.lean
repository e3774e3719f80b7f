/-
  Layer 13: the stage and the document's stage side by side in memory.
-/
import Derived.Test.YthehglhbgplfhaaSync
namespace Go.Proofs.Ythehglhbgplfhaa
open Go.RowKit Go.Joins
set_option linter.unusedVariables false
set_option linter.unusedSimpArgs false

/-- the type of a block of cells -/
def kindOf (o : Obj) : Option TypeId := match o with | .cells _ t _ => some t | _ => none
theorem heap_ne' {w : World} {a b : Nat} {oa ob : Obj} (ha : w.heap[a]? = some oa) (hb : w.heap[b]? = some ob) (ht : kindOf oa ≠ kindOf ob) : a ≠ b := by
  intro e
  rw [e, hb] at ha
  simp only [Option.some.injEq] at ha
  exact ht (by rw [ha])
theorem StageAt.other {w w' : World} {b mb hb pb q : Nat} {S : Vol} (h : StageAt w b mb hb pb S) (hg : w.grownBy w' (some q)) (h1 : q ≠ b) (h2 : q ≠ mb) (h3 : q ≠ hb) (h4 : q ≠ pb) : StageAt w' b mb hb pb S := by
  obtain ⟨q1, q2, q3, q4⟩ := h.lt
  obtain ⟨t1, ⟨es', c', t2, t3⟩, ⟨t4, t5, t6⟩, t7⟩ := h
  refine ⟨?_, ⟨es', c', ?_, t3⟩, ⟨?_, ?_, t6⟩, t7⟩
  · exact (hg.block b q1 (by simpa using Ne.symm h1)).trans t1
  · exact (hg.block mb q2 (by simpa using Ne.symm h2)).trans t2
  · exact (hg.block hb q3 (by simpa using Ne.symm h3)).trans t4
  · exact (hg.block pb q4 (by simpa using Ne.symm h4)).trans t5
theorem RStage.other {w w' : World} {tb kb kp B q : Nat} {l : List Pg} {v : Value} {P : List (Int × Pg)} (h : RStage w tb kb kp l v B P) (hg : w.grownBy w' (some q)) (h1 : q ≠ tb) (h2 : q ≠ kb) (h3 : q ≠ kp) (h4 : v.ownBlock = none ∨ v.ownBlock ≠ some q) : RStage w' tb kb kp l v B P :=
  ⟨h.shelf.grown hg h2 h3, (hg.block tb (Array.getElem?_eq_some_iff.1 h.st).1 (by simpa using Ne.symm h1)).trans h.st, h.put.kept hg h4⟩

/-- both sides, and a variable of the law's own (the call that is made) at block c -/
structure Twin (w0 w : World) (b mb hb pb : Nat) (S : Vol) (tb kb kp : Nat) (l : List Pg) (v : Value) (B : Nat) (P : List (Int × Pg)) : Prop where
  real : StageAt w b mb hb pb S
  ref : RStage w tb kb kp l v B P
  low : Below w0.heap.size w0 w
  hi1 : w0.heap.size ≤ mb ∧ w0.heap.size ≤ pb
  hi2 : w0.heap.size ≤ tb ∧ w0.heap.size ≤ kp
  ne : pb ≠ kp
section
variable {w0 w w' : World} {b mb hb pb tb kb kp B : Nat} {S : Vol} {l : List Pg} {v : Value} {P : List (Int × Pg)}
theorem Twin.below (h : Twin w0 w b mb hb pb S tb kb kp l v B P) (hbl : Below w.heap.size w w') : Twin w0 w' b mb hb pb S tb kb kp l v B P :=
  ⟨h.real.below hbl h.real.lt, h.ref.below hbl, h.low.trans (hbl.mono h.low.size), h.hi1, h.hi2, h.ne⟩
theorem Twin.alloc (h : Twin w0 w b mb hb pb S tb kb kp l v B P) (o : Obj) : Twin w0 (w.alloc o) b mb hb pb S tb kb kp l v B P := h.below ((Below.refl _ _).alloc (Nat.le_refl _) o)
theorem Twin.drew (h : Twin w0 w b mb hb pb S tb kb kp l v B P) : Twin w0 w.drew b mb hb pb S tb kb kp l v B P := h.below (Below.refl _ _).drew
/-- the real stage's map is written -/
theorem Twin.wmb (h : Twin w0 w b mb hb pb S tb kb kp l v B P) {S' : Vol} (hg : w.grownBy w' (some mb)) (hs : StageAt w' b mb hb pb S') : Twin w0 w' b mb hb pb S' tb kb kp l v B P := by
  obtain ⟨es, c, hm, -⟩ := h.real.2.1
  refine ⟨hs, h.ref.other hg ?_ ?_ ?_ ?_, h.low.grown hg h.low.size (fun q hq => by cases hq; exact h.hi1.1), h.hi1, h.hi2, h.ne⟩
  · exact heap_ne' hm h.ref.st (by simp [kindOf])
  · exact heap_ne' hm h.ref.shelf.1 (by simp [kindOf])
  · exact heap_ne' hm h.ref.shelf.2.1 (by simp [kindOf])
  · rcases h.ref.put.2 with ⟨rfl, _⟩ | ⟨g', cap, cur, rfl, _, hg', _⟩
    · exact .inl rfl
    · refine .inr fun e => ?_
      simp only [Value.ownBlock, Option.some.injEq] at e
      exact heap_ne' hg' hm (by simp [kindOf]) e
/-- the real shelf's pages are written -/
theorem Twin.wpb (h : Twin w0 w b mb hb pb S tb kb kp l v B P) {S' : Vol} (hg : w.grownBy w' (some pb)) (hs : StageAt w' b mb hb pb S') : Twin w0 w' b mb hb pb S' tb kb kp l v B P := by
  have hp := h.real.2.2.1.2.1
  refine ⟨hs, h.ref.other hg ?_ ?_ h.ne ?_, h.low.grown hg h.low.size (fun q hq => by cases hq; exact h.hi1.2), h.hi1, h.hi2, h.ne⟩
  · exact heap_ne hp h.ref.st (by decide)
  · exact heap_ne hp h.ref.shelf.1 (by decide)
  · exact own_ne_block h.ref.put hp (by decide)
theorem Twin.shelf_stage (h : Twin w0 w b mb hb pb S tb kb kp l v B P) {l' : List Pg} (hg : w.grownBy w' (some pb)) (hs : ShelfAt w' hb pb l') : StageAt w' b mb hb pb ⟨l', S.M⟩ := by
  obtain ⟨q1, q2, q3, q4⟩ := h.real.lt
  have hp := h.real.2.2.1.2.1
  obtain ⟨t1, ⟨es', c', t2, t3⟩, -, t7⟩ := h.real
  exact ⟨(hg.block b q1 (by simpa using t7.2.2.2.2)).trans t1, ⟨es', c', (hg.block mb q2 (by simpa using t7.2.2.1)).trans t2, t3⟩, hs, t7⟩
/-- the document's stage is written -/
theorem Twin.wtb (h : Twin w0 w b mb hb pb S tb kb kp l v B P) {v' : Value} {B' : Nat} {P' : List (Int × Pg)} (hg : w.grownBy w' (some tb)) (hs : RStage w' tb kb kp l v' B' P') : Twin w0 w' b mb hb pb S tb kb kp l v' B' P' := by
  obtain ⟨es, c, hm, -⟩ := h.real.2.1
  refine ⟨h.real.other hg ?_ ?_ ?_ ?_, hs, h.low.grown hg h.low.size (fun q hq => by cases hq; exact h.hi2.1), h.hi1, h.hi2, h.ne⟩
  · exact heap_ne h.ref.st h.real.1 (by decide)
  · exact heap_ne' h.ref.st hm (by simp [kindOf])
  · exact heap_ne h.ref.st h.real.2.2.1.1 (by decide)
  · exact heap_ne h.ref.st h.real.2.2.1.2.1 (by decide)
/-- the document's pages are written -/
theorem Twin.wkp (h : Twin w0 w b mb hb pb S tb kb kp l v B P) {l' : List Pg} (hg : w.grownBy w' (some kp)) (hs : RShelf w' kb kp l') : Twin w0 w' b mb hb pb S tb kb kp l' v B P := by
  obtain ⟨es, c, hm, -⟩ := h.real.2.1
  have hp := h.ref.shelf.2.1
  refine ⟨h.real.other hg ?_ ?_ ?_ (Ne.symm h.ne), ⟨hs, ?_, ?_⟩, h.low.grown hg h.low.size (fun q hq => by cases hq; exact h.hi2.2), h.hi1, h.hi2, h.ne⟩
  · exact heap_ne hp h.real.1 (by decide)
  · exact heap_ne' hp hm (by simp [kindOf])
  · exact heap_ne hp h.real.2.2.1.1 (by decide)
  · exact (hg.block tb (Array.getElem?_eq_some_iff.1 h.ref.st).1 (by simpa using heap_ne h.ref.st hp (by decide))).trans h.ref.st
  · exact h.ref.put.kept hg (own_ne_block h.ref.put hp (by decide))
/-- a block of another type stays -/
theorem keepT {w w' : World} {q c : Nat} {cc : Array Value} {t : TypeId} {o : Obj} (hc : w.heap[c]? = some (.cells cc t)) (hg : w.grownBy w' (some q)) (hq : w.heap[q]? = some o) (ht : kindOf o ≠ some t) : w'.heap[c]? = some (.cells cc t) :=
  (hg.block c (Array.getElem?_eq_some_iff.1 hc).1 (by simpa using heap_ne' hc hq (by simpa [kindOf] using Ne.symm ht))).trans hc
end
end Go.Proofs.Ythehglhbgplfhaa
