/-
  Layer 16 (tree), plain law: trees as values, level by level; leaves, pages, order; where a key belongs.
-/
import Derived.Test.YtljommhbhpappaaNode6
namespace Go.Proofs.Ytljommhbhpappaa
open Go.RowKit Go.Joins
set_option linter.unusedVariables false
set_option linter.unusedSimpArgs false

/-- a tree of so many levels above its leaves -/
def Tr : Nat → Type
  | 0 => Int × List NC
  | n + 1 => Int × List (ByteArray × Tr n)
/-- the page on which it stands -/
def Tr.id : (n : Nat) → Tr n → Int
  | 0, t => t.1
  | _ + 1, t => t.1
/-- that page's cells -/
def Tr.cells : (n : Nat) → Tr n → List NC
  | 0, t => t.2
  | n + 1, t => t.2.map fun x => ⟨x.1, 1, le4 (Tr.id n x.2)⟩
def kidsOf {n : Nat} (t : Tr (n + 1)) : List (ByteArray × Tr n) := t.2
def Tr.leaves : (n : Nat) → Tr n → List (Int × List NC)
  | 0, t => [(t.1, t.2)]
  | n + 1, t => (kidsOf t).flatMap fun x => Tr.leaves n x.2
def Tr.ids : (n : Nat) → Tr n → List Int
  | 0, t => [t.1]
  | n + 1, t => t.1 :: (kidsOf t).flatMap fun x => Tr.ids n x.2
theorem cells_succ {n : Nat} (t : Tr (n + 1)) : Tr.cells (n + 1) t = (kidsOf t).map fun x => ⟨x.1, 1, le4 (Tr.id n x.2)⟩ := rfl
theorem id_mem : ∀ (n : Nat) (t : Tr n), Tr.id n t ∈ Tr.ids n t
  | 0, t => List.mem_cons_self ..
  | n + 1, t => List.mem_cons_self ..
/-- a node that may be -/
def NodeOk (n : Nat) (L : List NC) : Prop := L.length ≤ 6 ∧ Rising L ∧ (n = 0 → ∀ c ∈ L, c.leaf) ∧ (n ≠ 0 → (∀ c ∈ L, c.inner) ∧ ∃ h : 0 < L.length, L[0].key = ByteArray.empty)
def Tr.Good : (n : Nat) → Tr n → Prop
  | 0, t => NodeOk 0 (Tr.cells 0 t)
  | n + 1, t => NodeOk (n + 1) (Tr.cells (n + 1) t) ∧ ∀ x ∈ kidsOf t, Tr.Good n x.2
theorem Tr.Good.node : ∀ {n : Nat} {t : Tr n}, Tr.Good n t → NodeOk n (Tr.cells n t)
  | 0, _, h => h
  | _ + 1, _, h => h.1
/-- the pages of the inner nodes -/
def Tr.Inner (S : Vol) (st : Int) : (n : Nat) → Tr n → Prop
  | 0, _ => True
  | n + 1, t => stPg S t.1 = ndPg (n + 1 : Nat) st 0 (Tr.cells (n + 1) t) ∧ ∀ x ∈ kidsOf t, Tr.Inner S st n x.2
def nextOf (l : List (Int × List NC)) (nxt : Int) : Int := match l with | [] => nxt | x :: _ => x.1
/-- the pages of the leaves, each with the next one's number -/
def LeafAll (S : Vol) (st : Int) : List (Int × List NC) → Int → Prop
  | [], _ => True
  | x :: r, nxt => stPg S x.1 = ndPg 0 st (nextOf r nxt) x.2 ∧ LeafAll S st r nxt
theorem LeafAll.split {S : Vol} {st : Int} : ∀ {a b : List (Int × List NC)} {nxt : Int}, LeafAll S st (a ++ b) nxt ↔ LeafAll S st a (nextOf b nxt) ∧ LeafAll S st b nxt
  | [], b, nxt => by simp [LeafAll]
  | x :: r, b, nxt => by
    have ih := LeafAll.split (S := S) (st := st) (a := r) (b := b) (nxt := nxt)
    have e : nextOf (r ++ b) nxt = nextOf r (nextOf b nxt) := by cases r <;> rfl
    simp only [List.cons_append, LeafAll, ih, e, and_assoc]
theorem LeafAll.mem {S : Vol} {st : Int} : ∀ {l : List (Int × List NC)} {nxt : Int}, LeafAll S st l nxt → ∀ x ∈ l, ∃ nx, stPg S x.1 = ndPg 0 st nx x.2
  | x :: r, nxt, h, y, hy => by
    rcases List.mem_cons.1 hy with rfl | hy
    · exact ⟨_, h.1⟩
    · exact LeafAll.mem h.2 y hy

/-- the leaf that a key belongs to -/
def Tr.leaf (key : ByteArray) : (n : Nat) → Tr n → Int × List NC
  | 0, t => (t.1, t.2)
  | n + 1, t => match (kidsOf t)[downL key (Tr.cells (n + 1) t)]? with
    | some x => Tr.leaf key n x.2
    | none => (0, [])

/-! ## Find and Down on cells that rise -/
theorem findL_spec {key : ByteArray} : ∀ {L : List NC} {i : Nat}, Rising L → ∃ j, (findL key L i).1 = i + j ∧ j ≤ L.length ∧ (∀ k (h : k < L.length), k < j → KLt L[k].key key) ∧ (∀ k (h : k < L.length), j ≤ k → ¬ KLt L[k].key key) ∧ ((findL key L i).2 = true ↔ ∃ h : j < L.length, L[j].key = key)
  | [], i, _ => ⟨0, rfl, Nat.le_refl _, fun k h => by simp at h, fun k h => by simp at h, by simp [findL]⟩
  | c :: r, i, hr => by
    have hr' := (List.pairwise_cons.1 hr)
    by_cases hc : KLt c.key key
    · obtain ⟨j, h1, h2, h3, h4, h5⟩ := findL_spec (key := key) (L := r) (i := i + 1) hr'.2
      refine ⟨j + 1, ?_, by simp; omega, fun k hk hkj => ?_, fun k hk hkj => ?_, ?_⟩
      · simp only [findL, hc, if_true, h1]; omega
      · rcases k with _ | k
        · exact hc
        · exact h3 k (by simpa using hk) (by omega)
      · rcases k with _ | k
        · omega
        · exact h4 k (by simpa using hk) (by omega)
      · simp only [findL, hc, if_true, h5, List.length_cons, List.getElem_cons_succ]
        constructor
        · rintro ⟨h, e⟩; exact ⟨by omega, e⟩
        · rintro ⟨h, e⟩; exact ⟨by omega, e⟩
    · refine ⟨0, ?_, by simp, fun k hk hkj => by omega, fun k hk hkj => ?_, ?_⟩
      · simp [findL, hc]
      · rcases k with _ | k
        · exact hc
        · intro h
          have := hr'.1 _ (List.getElem_mem (by simpa using hk : k < r.length))
          exact hc (this.trans h)
      · simp [findL, hc]
theorem downL_spec {key : ByteArray} {L : List NC} (hr : Rising L) (h0 : 0 < L.length) (he : L[0].key = ByteArray.empty) : ∃ h : downL key L < L.length, ¬ KLt key (L[downL key L].key) ∧ ∀ k (hk : k < L.length), downL key L < k → KLt key L[k].key := by
  obtain ⟨j, h1, h2, h3, h4, h5⟩ := findL_spec (key := key) (L := L) (i := 0) hr
  have hj : (findL key L 0).1 = j := by omega
  unfold downL
  rw [hj]
  by_cases hb : (findL key L 0).2 = true
  · obtain ⟨hl, e⟩ := h5.1 hb
    rw [if_pos (Or.inl hb)]
    refine ⟨hl, by rw [e]; exact KLt.irrefl _, fun k hk hjk => ?_⟩
    rw [← e]
    exact List.pairwise_iff_getElem.1 hr j k hl hk hjk
  · by_cases hz : j = 0
    · subst hz
      rw [if_pos (Or.inr rfl)]
      refine ⟨h0, by rw [he]; exact KLt.empty _, fun k hk hjk => ?_⟩
      have a1 := h4 k hk (by omega)
      have a2 : ¬ L[0].key = key := fun e => hb (h5.2 ⟨h0, e⟩)
      have a3 := List.pairwise_iff_getElem.1 hr 0 k h0 hk hjk
      exact KLt.of_not a1 (fun e => by
        rw [he] at a3 a2
        have := h4 0 h0 (by omega)
        rw [he] at this
        exact this (KLt.pos (fun q => a2 q.symm)))
    · rw [if_neg (by simp [hb, hz])]
      have hj1 : j - 1 < L.length := by omega
      refine ⟨hj1, (h3 (j - 1) hj1 (by omega)).asymm, fun k hk hjk => ?_⟩
      have a1 := h4 k hk (by omega)
      by_cases e : L[k].key = key
      · have hkj : k = j := by
          by_cases hkj : k = j
          · exact hkj
          · have b1 := List.pairwise_iff_getElem.1 hr j k (by omega) hk (by omega)
            rw [e] at b1
            exact absurd b1 (h4 j (by omega) (Nat.le_refl _))
        subst hkj
        exact absurd (h5.2 ⟨hk, e⟩) hb
      · exact KLt.of_not a1 e

/-! ## the order -/
def InB (lo : ByteArray) (hi : Option ByteArray) (k : ByteArray) : Prop := ¬ KLt k lo ∧ ∀ h ∈ hi, KLt k h
/-- the bounds of each kid -/
def Tr.Ord : (n : Nat) → Tr n → ByteArray → Option ByteArray → Prop
  | 0, t, lo, hi => ∀ c ∈ t.2, InB lo hi c.key
  | n + 1, t, lo, hi => (∀ i (h : i < (kidsOf t).length), 0 < i → InB lo hi (kidsOf t)[i].1) ∧
      ∀ i (h : i < (kidsOf t).length), Tr.Ord n (kidsOf t)[i].2 (if i = 0 then lo else (kidsOf t)[i].1) (if h' : i + 1 < (kidsOf t).length then some (kidsOf t)[i + 1].1 else hi)
end Go.Proofs.Ytljommhbhpappaa
