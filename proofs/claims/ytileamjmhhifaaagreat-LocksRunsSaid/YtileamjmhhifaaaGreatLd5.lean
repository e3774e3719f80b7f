/-
  Layer 9 (locks): the document's table: what can be given at a name is given.
-/
import Derived.Test.YtileamjmhhifaaaGreatLd4
import Derived.Test.YtileamjmhhifaaaGreatLq0
namespace Go.Proofs.YtileamjmhhifaaaGreat
open Go.RowKit Go.Joins Go.Sort Go.Shelf
set_option linter.unusedVariables false
set_option linter.unusedSimpArgs false

theorem setCell_block9 {w : World} {g : Nat} {cur : Array Value} {e : TypeId} (h : w.heap[g]? = some (.cells cur e)) (i : Nat) (u : Value) : (w.setCell ⟨g, i, none⟩ u).heap[g]? = some (.cells (cur.setIfInBounds i u) e) := by
  simp [World.setCell, Array.getElem?_modify, h]
theorem setCell_far9 (W : World) (a : Addr) (v : Value) (k : Nat) (h : a.block ≠ k) : (W.setCell a v).heap[k]? = W.heap[k]? := by
  simp only [World.setCell, Array.getElem?_modify, h, if_false]
theorem drRow_set (R : List Dr) (i k : Nat) (hi : i < R.length) (hk : k < 6) (r' : Dr) (u : Value) (hl : r'.l = R[i].l.set k u) : drRow (R.set i r') = (drRow R).set (i * 6 + k) u := by
  have hlen : ∀ L : List Dr, (drRow L).length = L.length * 6 := flat_len (f := Dr.l) (n := 6) (fun _ => rfl)
  apply List.ext_getElem?
  intro p
  by_cases hp : p < R.length * 6
  · obtain ⟨j, q, hq, rfl⟩ : ∃ j q, q < 6 ∧ p = j * 6 + q := ⟨p / 6, p % 6, by omega, by omega⟩
    have hj : j < R.length := by omega
    rw [drRow_get (R.set i r') j q (by simpa using hj) hq, List.getElem?_set, drRow_get R j q hj hq, List.getElem_set]
    by_cases e : i = j
    · subst e
      rw [if_pos rfl, hl, List.getElem?_set]
      by_cases e2 : k = q
      · subst e2; rw [if_pos rfl, if_pos rfl, if_pos (by show k < 6; exact hk), if_pos (by rw [hlen]; omega)]
      · rw [if_neg e2, if_neg (by omega)]
    · rw [if_neg e, if_neg (by omega)]
  · rw [List.getElem?_eq_none (by rw [hlen, List.length_set]; omega), List.getElem?_eq_none (by rw [List.length_set, hlen]; omega)]
theorem DAt.setc {w : World} {B tb g c : Nat} {R : List Dr} {T : Int} (h : DAt w B tb (.slice (some ⟨g, 0, none⟩) R.length c) R T) (i k : Nat) (hi : i < R.length) (hk : k < 6) (r' : Dr) (u : Value) (hl : r'.l = R[i].l.set k u) :
    DAt (w.setCell ⟨g, i * 6 + k, none⟩ u) B tb (.slice (some ⟨g, 0, none⟩) R.length c) (R.set i r') T ∧ g ≠ tb ∧ w.frozen? ⟨g, i * 6 + k, none⟩ = false := by
  have ho := h.own
  rcases ho.2 with ⟨e1, -⟩ | ⟨g', cap, cur, e1, e2, e3, e4, e5, e6, e7⟩
  · cases e1
  · cases e1
    have hne : g ≠ tb := fun e => by
      rw [e, h.at_] at e3
      simp only [Option.some.injEq, Obj.cells.injEq] at e3
      exact absurd e3.2.1 (by decide)
    refine ⟨⟨h.lo, (setCell_far9 w _ _ tb hne).trans h.at_, ⟨?_, .inr ⟨g, c, cur.setIfInBounds (i * 6 + k) u, by rw [List.length_set], e2, setCell_block9 e3 _ u, by rw [List.length_set]; exact e4, e5, by simpa using e6, ?_⟩⟩, by rw [List.length_set]; exact h.len⟩, hne, by simp [World.frozen?, e3]⟩
    · rw [drRow_set R i k hi hk r' u hl, List.length_set, List.length_set]; exact ho.1
    · rw [Array.toList_setIfInBounds, List.length_set, List.take_set, e7, drRow_set R i k hi hk r' u hl]
def wantsR : List Dr → Nat
  | [] => 0
  | r :: R => (if r.w = 0 then 0 else 1) + wantsR R
theorem wantsR_set : ∀ (R : List Dr) (i : Nat) (hi : i < R.length) (r' : Dr), R[i].w ≠ 0 → r'.w = 0 → wantsR (R.set i r') + 1 = wantsR R
  | r :: R, 0, _, r', h1, h2 => by
    simp only [List.getElem_cons_zero] at h1
    simp [wantsR, h1, h2]; omega
  | r :: R, i + 1, hi, r', h1, h2 => by
    have := wantsR_set R i (by simpa using hi) r' (by simpa using h1) h2
    simp only [List.set_cons_succ, wantsR]
    omega
theorem grown_setc (w : World) (g i : Nat) (v : Value) : w.grownBy (w.setCell ⟨g, i, none⟩ v) (some g) :=
  ⟨rfl, rfl, rfl, by simp, fun q hq hqG => setCell_far9 w ⟨g, i, none⟩ v q (fun e => hqG (by have e2 : g = q := e; rw [e2]))⟩
open Classical in
theorem dfree_gr {w : World} {B tb : Nat} {rv : Value} {R : List Dr} {T : Int} (h : DAt w B tb rv R T) (x : Int) (n : Nm) (m : Int) (q : Bool) (hq : q = true ↔ freeD R x n m) (k : Nat) (os : Array Obj) :
    Calls Tryz.prog 32 #[.pointer (some ⟨tb, 0, none⟩), .int .i64 x, .agg #[.int .i64 n.s, .string n.i], .int .i64 m] (grow (w.drewN k) os) fun e w'' => e = .returned (.bool q) ∧ ∃ p : GrownBy, w'' = grow (w.drewN p.n) p.os :=
  Calls.grown_of ((dfree_any (h.below (Gr.below ⟨k, os, rfl⟩)) x n m).mono fun e w' hh => by
    obtain ⟨b, rfl, hb, hg⟩ := hh
    refine ⟨?_, hg⟩
    have : b = q := by
      cases b <;> cases q <;> simp_all
    rw [this])
theorem dwant_gr {w : World} {B tb : Nat} {rv : Value} {R : List Dr} {T : Int} (h : DAt w B tb rv R T) (n : Nm) (q : Bool) (hq : q = true ↔ wantD R n) (k : Nat) (os : Array Obj) :
    Calls Tryz.prog 34 #[.pointer (some ⟨tb, 0, none⟩), .agg #[.int .i64 n.s, .string n.i]] (grow (w.drewN k) os) fun e w'' => e = .returned (.bool q) ∧ ∃ p : GrownBy, w'' = grow (w.drewN p.n) p.os :=
  Calls.grown_of ((dwant_any (h.below (Gr.below ⟨k, os, rfl⟩)) n).mono fun e w' hh => by
    obtain ⟨b, rfl, hb, hg⟩ := hh
    refine ⟨?_, hg⟩
    have : b = q := by
      cases b <;> cases q <;> simp_all
    rw [this])
end Go.Proofs.YtileamjmhhifaaaGreat
