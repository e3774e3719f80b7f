/-
  Layer 15 (heap): plain laws on a heap's chain of pages as values (no program in sight).
-/
import Derived.Test.YthehglhbgplfhaaStg13
namespace Go.Proofs.Ythehglhbgplfhaa
open Go.RowKit Go.Joins
set_option linter.unusedVariables false
set_option linter.unusedSimpArgs false

/-- the directory of a volume with one store, a heap from page 2 on -/
def dirH : Pg := ({ k := 1 } : Pg).setC 0 1 (entryD 1 2)
theorem dirH_a : dirH.a 0 = 1 := by rw [dirH, a_setC _ _ _ (by omega) (by omega)]; rfl
theorem dirH_d : dirH.d 0 = entryD 1 2 := by rw [dirH, d_setC _ _ _ (by omega) (by omega)]; rfl

/-- a fresh page of a heap -/
def freshH : Pg := { k := 3, s := 1 }
/-- a page that leads on -/
def Pg.link (p : Pg) (x : Int) : Pg := { p with n := x }
theorem link_a (p : Pg) (x : Int) (i : Nat) : (p.link x).a i = p.a i := rfl
theorem link_d (p : Pg) (x : Int) (i : Nat) : (p.link x).d i = p.d i := rfl
theorem link_ok {p : Pg} {x : Int} (h : okPg p = true) (h0 : 0 ≤ x) (h1 : x < 1024) : okPg (p.link x) = true := by
  obtain ⟨h2, h3⟩ := okPg_to h
  refine okPg_of ?_ h3
  simp only [okH, Bool.and_eq_true, decide_eq_true_eq] at h2 ⊢
  exact ⟨⟨h2.1.1, h0⟩, h1⟩
theorem fresh_ok : okPg freshH = true := ok_root 3 0 (by omega) (by omega) (by omega) (by omega)

/-- a stage that holds a volume of n pages, with one heap: its pages are C -/
structure HeapOk (S : Vol) (n : Nat) (C : List Pg) : Prop where
  vol : ∃ m, VolOk S dirH m n ∧ ∀ j, j < n → bitAt m j = decide (j < 2 + C.length)
  pos : 0 < C.length
  top : 2 + C.length ≤ n
  pg : ∀ i (h : i < C.length), stPg S ((2 + i : Nat) : Int) = C[i]
  ok : ∀ i (h : i < C.length), okPg C[i] = true
  head : ∀ i (h : i < C.length), C[i].k = 3 ∧ C[i].s = 1 ∧ C[i].n = if i + 1 < C.length then ((3 + i : Nat) : Int) else 0

theorem HeapOk.n1024 {S : Vol} {n : Nat} {C : List Pg} (h : HeapOk S n C) : n ≤ 1024 := by
  obtain ⟨m, h1, -⟩ := h.vol
  exact h1.map.hi
theorem HeapOk.there {S : Vol} {n : Nat} {C : List Pg} (h : HeapOk S n C) (i : Nat) (hi : i < C.length) : stE S ((2 + i : Nat) : Int) = 0 := by
  obtain ⟨m, h1, -⟩ := h.vol
  exact h1.there _ (by have := h.top; omega)

theorem VolOk.put {S : Vol} {d m : Pg} {n : Nat} (h : VolOk S d m n) (id : Int) (p : Pg) (h2 : 2 ≤ id) : VolOk (S.put id p) d m n := by
  refine ⟨⟨by rw [stE_put, if_neg (by omega)]; exact h.dir.e, by rw [stPg_put, if_neg (by omega)]; exact h.dir.p, h.dir.k⟩, h.dok, ⟨by rw [stE_put, if_neg (by omega)]; exact h.map.e, by rw [stPg_put, if_neg (by omega)]; exact h.map.p, h.map.k, h.map.cnt, h.map.lo, h.map.hi, h.map.sz, h.map.ok⟩, fun i hi => ?_, h.two, h.z0, h.z1⟩
  rw [stE_put]
  split
  · rfl
  · exact h.there i hi

/-- a new heap -/
theorem HeapOk.new (l : List Pg) (M : List (Int × Pg)) (n : Nat) (h4 : 4 ≤ n) (hn : n ≤ 1024) (hl : n ≤ l.length) : HeapOk ((Vol.formed ⟨l, M⟩ n).made { k := 1 } (newMap n) 0 2 1) n [freshH] := by
  have h0 := VolOk.new l n M h4 hn hl
  have h1 := h0.make 0 2 1 (by omega) (by omega) (by omega)
  refine ⟨⟨_, h1, fun j hj => ?_⟩, by simp, by simp; omega, fun i hi => ?_, fun i hi => ?_, fun i hi => ?_⟩
  · rw [bitAt_lt h0 _ _ _ hj (by omega), newMap_bit _ _ (by omega)]
    by_cases e : j = 2
    · subst e; rfl
    · rw [if_neg e]
      simp only [List.length_singleton]
      exact decide_eq_decide.2 (by omega)
  · obtain rfl : i = 0 := by simpa using hi
    simp only [Vol.made, stPg_put]
    rfl
  · obtain rfl : i = 0 := by simpa using hi
    exact fresh_ok
  · obtain rfl : i = 0 := by simpa using hi
    exact ⟨rfl, rfl, rfl⟩

/-- a page of the heap otherwise -/
theorem HeapOk.set {S : Vol} {n : Nat} {C : List Pg} (h : HeapOk S n C) (k : Nat) (hk : k < C.length) (p : Pg) (hp : okPg p = true) (hh : p.k = C[k].k ∧ p.s = C[k].s ∧ p.n = C[k].n) :
    HeapOk (S.put ((2 + k : Nat) : Int) p) n (C.set k p) := by
  obtain ⟨m, h1, h2⟩ := h.vol
  refine ⟨⟨m, h1.put _ p (by omega), by simpa using h2⟩, by simpa using h.pos, by simpa using h.top, fun i hi => ?_, fun i hi => ?_, fun i hi => ?_⟩
  · rw [stPg_put, List.getElem_set]
    by_cases e : k = i
    · subst e; simp
    · rw [if_neg (by omega), if_neg e]; exact h.pg i (by simpa using hi)
  · rw [List.getElem_set]
    split
    · exact hp
    · exact h.ok i (by simpa using hi)
  · rw [List.getElem_set]
    have h3 := h.head i (by simpa using hi)
    simp only [List.length_set]
    split
    · subst_vars; rw [hh.1, hh.2.1, hh.2.2]; exact h3
    · exact h3

/-- the chain with a page more -/
def grownC (C : List Pg) : List Pg := C.set (C.length - 1) ((C.getD (C.length - 1) Pg.zero).link ((2 + C.length : Nat) : Int)) ++ [freshH]
theorem grownC_len (C : List Pg) : (grownC C).length = C.length + 1 := by simp [grownC]
theorem grownC_get (C : List Pg) (hp : 0 < C.length) (i : Nat) (hi : i < (grownC C).length) : (grownC C)[i] = if i = C.length then freshH else if C.length - 1 = i then (C.getD (C.length - 1) Pg.zero).link ((2 + C.length : Nat) : Int) else C.getD i Pg.zero := by
  have hl := grownC_len C
  have h2 : (grownC C)[i]? = some (if i = C.length then freshH else if C.length - 1 = i then (C.getD (C.length - 1) Pg.zero).link ((2 + C.length : Nat) : Int) else C.getD i Pg.zero) := by
    unfold grownC
    rw [List.getElem?_append, List.length_set]
    by_cases e : i = C.length
    · subst e; simp
    · have h3 : i < C.length := by omega
      rw [if_pos h3, if_neg e, List.getElem?_set]
      by_cases e2 : C.length - 1 = i
      · rw [if_pos e2, if_pos e2, if_pos (by omega)]
      · rw [if_neg e2, if_neg e2, List.getElem?_eq_getElem h3, List.getD_eq_getElem?_getD, List.getElem?_eq_getElem h3]; rfl
  rw [List.getElem?_eq_getElem hi] at h2
  exact Option.some.inj h2
theorem HeapOk.grow {S : Vol} {n : Nat} {C : List Pg} (h : HeapOk S n C) (hr : 2 + C.length < n) : ∃ m, VolOk S dirH m n ∧ (∀ j, j < n → bitAt m j = decide (j < 2 + C.length)) ∧
    HeapOk (((S.put 1 (markPg m (2 + C.length) true)).put ((1 + C.length : Nat) : Int) ((C.getD (C.length - 1) Pg.zero).link ((2 + C.length : Nat) : Int))).put ((2 + C.length : Nat) : Int) freshH) n (grownC C) := by
  obtain ⟨m, h1, h2⟩ := h.vol
  have hp := h.pos
  have hn := h1.map.hi
  have hl : C.getD (C.length - 1) Pg.zero = C[C.length - 1] := by
    rw [List.getD_eq_getElem?_getD, List.getElem?_eq_getElem (by omega)]; rfl
  refine ⟨m, h1, h2, ⟨markPg m (2 + C.length) true, ((h1.mark _ true (by omega) hr).put _ _ (by omega)).put _ _ (by omega), fun j hj => ?_⟩, by rw [grownC_len]; omega, by rw [grownC_len]; omega, fun i hi => ?_, fun i hi => ?_, fun i hi => ?_⟩
  · rw [bitAt_lt h1 _ _ _ hj hr, h2 j hj, grownC_len]
    by_cases e : j = 2 + C.length
    · subst e; simp
    · rw [if_neg e]
      exact decide_eq_decide.2 (by omega)
  · rw [grownC_get C hp, stPg_put, stPg_put, stPg_put]
    rw [grownC_len] at hi
    by_cases e : i = C.length
    · subst e
      rw [if_pos (by omega), if_pos rfl]
    · rw [if_neg (by omega), if_neg e]
      by_cases e2 : C.length - 1 = i
      · rw [if_pos (by omega), if_pos e2]
      · rw [if_neg (by omega), if_neg e2, if_neg (by omega), List.getD_eq_getElem?_getD, List.getElem?_eq_getElem (by omega)]
        exact h.pg i (by omega)
  · rw [grownC_get C hp]
    rw [grownC_len] at hi
    split
    · exact fresh_ok
    · split
      · rw [hl]; exact link_ok (h.ok _ (by omega)) (by omega) (by omega)
      · rw [List.getD_eq_getElem?_getD, List.getElem?_eq_getElem (by omega)]; exact h.ok i (by omega)
  · rw [grownC_get C hp, grownC_len]
    rw [grownC_len] at hi
    by_cases e : i = C.length
    · rw [if_pos e, if_neg (show ¬ i + 1 < C.length + 1 by omega)]
      exact ⟨rfl, rfl, rfl⟩
    · rw [if_neg e, if_pos (show i + 1 < C.length + 1 by omega)]
      by_cases e2 : C.length - 1 = i
      · have h4 := h.head (C.length - 1) (by omega)
        rw [if_pos e2, hl]
        refine ⟨h4.1, h4.2.1, ?_⟩
        show ((2 + C.length : Nat) : Int) = _
        omega
      · have h3 := h.head i (by omega)
        rw [if_pos (by omega)] at h3
        rw [if_neg e2, List.getD_eq_getElem?_getD, List.getElem?_eq_getElem (by omega)]
        exact h3

/-- the records of a page, of a chain -/
def pgRecs (id : Nat) (p : Pg) : List (Int × ByteArray) := (List.range 6).filterMap fun i => if p.a i = 1 then some (((id * 8 + i : Nat) : Int), p.d i) else none
def recs : Nat → List Pg → List (Int × ByteArray)
  | _, [] => []
  | b, p :: r => pgRecs b p ++ recs (b + 1) r
theorem recs_append (b : Nat) (C D : List Pg) : recs b (C ++ D) = recs b C ++ recs (b + C.length) D := by
  induction C generalizing b with
  | nil => rfl
  | cons p r ih =>
    show pgRecs b p ++ recs (b + 1) (r ++ D) = (pgRecs b p ++ recs (b + 1) r) ++ _
    rw [ih, List.append_assoc, List.length_cons]
    have : b + 1 + r.length = b + (r.length + 1) := by omega
    rw [this]
/-- the first place of a page that a record may be put into -/
def placeOf (keep : List Int) (id : Int) (p : Pg) (i : Nat) : Bool := !decide (p.a i = 1) && !decide (id * 8 + (i : Int) ∈ keep)
/-- how many records a page holds -/
def liveOf (p : Pg) : Nat := ((List.range 6).filter fun i => decide (p.a i = 1)).length
def liveC (C : List Pg) : Nat := (C.map liveOf).sum
end Go.Proofs.Ythehglhbgplfhaa
