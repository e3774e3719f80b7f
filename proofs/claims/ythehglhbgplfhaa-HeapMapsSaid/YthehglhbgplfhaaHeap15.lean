/-
  Layer 15 (heap): the laws' own land; the cells of a chain as one function.
-/
import Derived.Test.YthehglhbgplfhaaHeap11
import Derived.Test.YthehglhbgplfhaaFrame15b
namespace Go.Proofs.Ythehglhbgplfhaa
open Go.RowKit Go.Joins
set_option linter.unusedVariables false
set_option linter.unusedSimpArgs false

/-- the stage behind land -/
def Vol.after (S : Vol) (e : Int) : Vol := if e = 0 then S.landed else ⟨S.base, []⟩
theorem StageAt.shelf {w w' : World} {b mb hb pb : Nat} {S : Vol} {l : List Pg} (h : StageAt w b mb hb pb S) (hg : w.grownBy w' (some pb)) (hs : ShelfAt w' hb pb l) : StageAt w' b mb hb pb ⟨l, S.M⟩ := by
  obtain ⟨q1, q2, q3, q4⟩ := h.lt
  obtain ⟨t1, ⟨es', c', t2, t3⟩, -, t7⟩ := h
  exact ⟨(hg.block b q1 (by simpa using t7.2.2.2.2)).trans t1, ⟨es', c', (hg.block mb q2 (by simpa using t7.2.2.1)).trans t2, t3⟩, hs, t7⟩
theorem Poked.of_grown {w w' : World} {q : Nat} {cs : List Nat} (h : w.grownBy w' (some q)) (hq : q ∈ cs) : Poked cs w w' :=
  ⟨h.os, h.tape, h.output, h.size, fun k hk hc => h.block k hk (by simpa using fun e => hc (by rw [e]; exact hq))⟩
theorem One.poke {w0 w w' : World} {b mb hb pb : Nat} {S S' : Vol} (h : One w0 w b mb hb pb S) (hp : Poked [mb, pb] w w') (hs : StageAt w' b mb hb pb S') : One w0 w' b mb hb pb S' :=
  ⟨h.low.trans ⟨hp.os, hp.tape, hp.output, hp.size, fun k hk => hp.block k (Nat.lt_of_lt_of_le hk h.low.size) (by have := h.hi; simp; omega)⟩, hs, h.hi⟩

set_option maxHeartbeats 2000000 in
set_option maxRecDepth 100000 in
theorem land_any {S : Vol} {N : Nat} (hf : S.Fit N) (e : Int) (b mb hb pb : Nat) (w : World) (hs : StageAt w b mb hb pb S) :
    Calls Try.prog 32 #[.pointer (some ⟨hb, 0, none⟩), .pointer (some ⟨b, 0, none⟩), .int .i64 e] w fun r w' => r = .returned (.bool true) ∧ Poked [mb, pb] w w' ∧ StageAt w' b mb hb pb (S.after e) := by
  have hbase : ∀ x ∈ S.M, shelfE S.base x.1 = 0 := fun x hx => by
    have hx' := hf.fit x hx
    exact if_pos ⟨hx'.1, by rw [hf.len]; exact hx'.2.1⟩
  have HI := Lib.hid (images_ok S b mb hb pb w hs hf.ok hbase)
  have hll : (imgs S S.keys).length ≤ 2000 := by
    have h1 := imgs_len S S.keys
    have h2 := Vol.keys_len S
    have h3 := hf.ok.len
    omega
  have HA := Lib.hid (fun w' v B (h : StageAt w' b mb hb pb S) hv => apply_ok hb pb S.base (imgs S S.keys) v B w' h.2.2.1 (imgs_fit hf) hv hll)
  have HD := Lib.hid (fun w' S' (h : StageAt w' b mb hb pb S') => drop_ok S' b mb hb pb w' h)
  have HS := Lib.hid hs
  clear hf hbase hll hs
  unfold Vol.after
  by_cases h0 : e = 0
  · subst h0
    rw [if_pos rfl]
    go_enter Try.func32, Try.ntmps32
    go_wp2_with fail
    refine HI.out.mono ?_; rintro e w1 ⟨v, rfl, hb1, ho⟩
    have K1 := Lib.hid (HS.out.below hb1 HS.out.lt)
    have K2 := Lib.hid ho
    have P1 : Hid (Poked [mb, pb] w w1) := Lib.hid (Poked.of_below hb1)
    clear hb1 ho
    go_wp2_with fail
    refine (HA.out _ _ _ K1.out K2.out).mono ?_; rintro e w2 ⟨rfl, hg2, hs2⟩
    have K3 := Lib.hid (K1.out.shelf hg2 hs2)
    have P2 : Hid (Poked [mb, pb] w w2) := Lib.hid (P1.out.trans (Poked.of_grown hg2 (by simp)))
    clear hg2 hs2
    go_wp2_with fail
    refine (HD.out _ _ K3.out).mono ?_; rintro e w3 ⟨rfl, hg3, hs3⟩
    have K4 := Lib.hid hs3
    have P3 : Hid (Poked [mb, pb] w w3) := Lib.hid (P2.out.trans (Poked.of_grown hg3 (by simp)))
    clear hg3 hs3
    go_wp2_with fail
    go_ret
    exact ⟨rfl, P3.out, K4.out⟩
  · rw [if_neg h0]
    have h1 : (e == 0) = false := by simp [h0]
    have h2 : (e != 0) = true := by simp [h0]
    have h3 : decide (e = 0) = false := by simp [h0]
    go_enter Try.func32, Try.ntmps32
    go_wp2_with fail
    refine HI.out.mono ?_; rintro e w1 ⟨v, rfl, hb1, ho⟩
    have K1 := Lib.hid (HS.out.below hb1 HS.out.lt)
    have P1 : Hid (Poked [mb, pb] w w1) := Lib.hid (Poked.of_below hb1)
    clear hb1 ho
    go_wp2_with fail
    refine (HD.out _ _ K1.out).mono ?_; rintro e w3 ⟨rfl, hg3, hs3⟩
    have K4 := Lib.hid hs3
    have P3 : Hid (Poked [mb, pb] w w3) := Lib.hid (P1.out.trans (Poked.of_grown hg3 (by simp)))
    clear hg3 hs3
    go_wp2_with fail
    go_ret
    exact ⟨rfl, P3.out, K4.out⟩

theorem HeapOk.landed {S : Vol} {n N : Nat} {C : List Pg} (h : HeapOk S n C) (hf : S.Fit N) (hn : n ≤ N) : HeapOk S.landed n C := by
  obtain ⟨m, h1, h2⟩ := h.vol
  refine ⟨⟨m, h1.landed hf hn, h2⟩, h.pos, h.top, fun i hi => ?_, h.ok, h.head⟩
  have := h.top
  rw [landed_pg hf (2 + i) (by omega)]
  exact h.pg i hi

/-- a stage of a law's own that holds a heap: nothing is set on it -/
structure Clean (S : Vol) (n N : Nat) (C : List Pg) : Prop where
  heap : HeapOk S n C
  fit : S.Fit N
  none' : S.M = []
  le : n ≤ N
theorem Clean.landed {S : Vol} {n N : Nat} {C : List Pg} (h : HeapOk S n C) (hf : S.Fit N) (hn : n ≤ N) : Clean S.landed n N C := ⟨h.landed hf hn, landed_fit hf, rfl, hn⟩
theorem Clean.eq {S : Vol} {n N : Nat} {C : List Pg} (h : Clean S n N C) : (⟨S.base, []⟩ : Vol) = S := by
  obtain ⟨b, M⟩ := S
  have : M = [] := h.none'
  rw [this]

/-! the cells of a chain, pages that are not there yet as fresh ones -/
def cellA (C : List Pg) (k i : Nat) : Int := (C.getD k freshH).a i
def cellD (C : List Pg) (k i : Nat) : ByteArray := (C.getD k freshH).d i
theorem cellA_lt {C : List Pg} {k : Nat} (h : k < C.length) (i : Nat) : cellA C k i = C[k].a i := by
  rw [cellA, List.getD_eq_getElem?_getD, List.getElem?_eq_getElem h]; rfl
theorem cellD_lt {C : List Pg} {k : Nat} (h : k < C.length) (i : Nat) : cellD C k i = C[k].d i := by
  rw [cellD, List.getD_eq_getElem?_getD, List.getElem?_eq_getElem h]; rfl
/-- two chains with the same cells -/
def SameC (C D : List Pg) : Prop := ∀ k i, i < 6 → cellA C k i = cellA D k i ∧ cellD C k i = cellD D k i
theorem SameC.refl (C : List Pg) : SameC C C := fun _ _ _ => ⟨rfl, rfl⟩
theorem SameC.symm {C D : List Pg} (h : SameC C D) : SameC D C := fun k i hi => ⟨(h k i hi).1.symm, (h k i hi).2.symm⟩
theorem SameC.trans {C D E : List Pg} (h : SameC C D) (h' : SameC D E) : SameC C E := fun k i hi => ⟨(h k i hi).1.trans (h' k i hi).1, (h k i hi).2.trans (h' k i hi).2⟩
theorem SameC.grown (C : List Pg) (hp : 0 < C.length) : SameC (grownC C) C := by
  intro k i hi
  have hl := grownC_len C
  by_cases hk : k < (grownC C).length
  · rw [cellA_lt hk, cellD_lt hk, grownC_get C hp k hk]
    by_cases e : k = C.length
    · subst e
      rw [if_pos rfl, cellA, cellD, List.getD_eq_getElem?_getD, List.getElem?_eq_none (Nat.le_refl _)]
      exact ⟨rfl, rfl⟩
    · rw [if_neg e]
      have hk2 : k < C.length := by omega
      rw [cellA_lt hk2, cellD_lt hk2]
      by_cases e2 : C.length - 1 = k
      · rw [if_pos e2, link_a, link_d, last_get hp]
        subst e2
        exact ⟨rfl, rfl⟩
      · rw [if_neg e2, getD_get hk2]
        exact ⟨rfl, rfl⟩
  · have hk2 : ¬ k < C.length := by omega
    rw [cellA, cellD, cellA, cellD, List.getD_eq_getElem?_getD, List.getD_eq_getElem?_getD, List.getElem?_eq_none (by omega), List.getElem?_eq_none (by omega)]
    exact ⟨rfl, rfl⟩
theorem SameC.growN (C : List Pg) (hp : 0 < C.length) (g : Nat) : SameC (growN g C) C := by
  induction g with
  | zero => exact SameC.refl C
  | succ g ih => exact (SameC.grown (Go.Proofs.Ythehglhbgplfhaa.growN g C) (by rw [growN_len]; omega)).trans ih
theorem cell_set {C : List Pg} {k : Nat} (hk : k < C.length) (i : Nat) (hi : i < 6) (x : Int) (y : ByteArray) (k' i' : Nat) (hi' : i' < 6) :
    cellA (C.set k (C[k].setC i x y)) k' i' = (if k' = k ∧ i' = i then x else cellA C k' i') ∧ cellD (C.set k (C[k].setC i x y)) k' i' = (if k' = k ∧ i' = i then y else cellD C k' i') := by
  by_cases e : k' = k
  · subst e
    have hk' : k' < (C.set k' (C[k'].setC i x y)).length := by simpa using hk
    rw [cellA_lt hk', cellD_lt hk', List.getElem_set_self, a_setC _ _ _ hi hi', d_setC _ _ _ hi hi', cellA_lt hk, cellD_lt hk]
    by_cases e2 : i' = i
    · rw [if_pos e2, if_pos e2, if_pos ⟨rfl, e2⟩, if_pos ⟨rfl, e2⟩]; exact ⟨rfl, rfl⟩
    · rw [if_neg e2, if_neg e2, if_neg (fun h => e2 h.2), if_neg (fun h => e2 h.2)]; exact ⟨rfl, rfl⟩
  · rw [if_neg (fun h => e h.1), if_neg (fun h => e h.1)]
    have : (C.set k (C[k].setC i x y)).getD k' freshH = C.getD k' freshH := by
      rw [List.getD_eq_getElem?_getD, List.getD_eq_getElem?_getD, List.getElem?_set_ne (by omega)]
    rw [cellA, cellD, this]
    exact ⟨rfl, rfl⟩

/-- what a change of a heap does: nothing that is to be taken back, or one cell, of which the undo tells -/
def DoStep (C C' : List Pg) (u : Un) (e : Int) : Prop :=
  C.length ≤ C'.length ∧ ((SameC C' C ∧ (e ≠ 0 ∨ u.kind = 0)) ∨
    (e = 0 ∧ u.kind = 1 ∧ ∃ (k i : Nat), k < C'.length ∧ i < 6 ∧ u.page = ((2 + k : Nat) : Int) ∧ u.slot = (i : Int) ∧ u.st = cellA C k i ∧ u.d = cellD C k i ∧ okC u.st u.d = true ∧
      ∀ (k' i' : Nat), i' < 6 → ¬ (k' = k ∧ i' = i) → cellA C' k' i' = cellA C k' i' ∧ cellD C' k' i' = cellD C k' i'))
end Go.Proofs.Ythehglhbgplfhaa
