/-
  Layer 16 (tree), plain law: the leaves of a tree in order; what stands ahead of a key's leaf, and behind it.
-/
import Derived.Test.YtljommhbhpappaaTree2
namespace Go.Proofs.Ytljommhbhpappaa
open Go.RowKit Go.Joins
set_option linter.unusedVariables false
set_option linter.unusedSimpArgs false

/-- all cells of the leaves -/
def flat (l : List (Int × List NC)) : List NC := l.flatMap (·.2)
theorem flat_append (a b : List (Int × List NC)) : flat (a ++ b) = flat a ++ flat b := by simp [flat]
theorem flat_cons (x : Int × List NC) (b : List (Int × List NC)) : flat (x :: b) = x.2 ++ flat b := by simp [flat]
theorem mem_flat {l : List (Int × List NC)} {c : NC} : c ∈ flat l ↔ ∃ x ∈ l, c ∈ x.2 := by simp [flat, List.mem_flatMap]

theorem flat_flatMap {α : Type} (f : α → List (Int × List NC)) : ∀ K : List α, flat (K.flatMap f) = (K.map fun x => flat (f x)).flatten
  | [] => rfl
  | x :: r => by rw [List.flatMap_cons, flat_append, flat_flatMap f r, List.map_cons, List.flatten_cons]
theorem InB.weaken {lo lo' : ByteArray} {hi hi' : Option ByteArray} {k : ByteArray} (h : InB lo hi k) (h1 : ¬ KLt lo lo') (h2 : ∀ x ∈ hi', ¬ hi = none ∧ ∀ y ∈ hi, ¬ KLt x y) : InB lo' hi' k := by
  refine ⟨fun q => ?_, fun x hx => ?_⟩
  · rcases KLt.tri lo lo' with e | e | e
    · exact h1 e
    · subst e; exact h.1 q
    · exact h.1 (q.trans e)
  · obtain ⟨n1, n2⟩ := h2 x hx
    cases hi with
    | none => exact absurd rfl n1
    | some y => exact KLt.lt_of_lt (h.2 y rfl) (n2 y rfl)
/-- all cells lie in a tree's bounds -/
theorem ord_cells : ∀ (n : Nat) (t : Tr n) (lo : ByteArray) (hi : Option ByteArray), Tr.Ord n t lo hi → ∀ x ∈ Tr.leaves n t, ∀ c ∈ x.2, InB lo hi c.key
  | 0, t, lo, hi, h, x, hx, c, hc => by
    have : x = (t.1, t.2) := by simpa [Tr.leaves] using hx
    subst this
    exact h c hc
  | n + 1, t, lo, hi, h, x, hx, c, hc => by
    obtain ⟨y, hy, hxy⟩ := List.mem_flatMap.1 hx
    obtain ⟨i, hi', rfl⟩ := List.mem_iff_getElem.1 hy
    have h1 := ord_cells n _ _ _ (h.2 i hi') x hxy c hc
    refine InB.weaken h1 ?_ ?_
    · by_cases e : i = 0
      · rw [if_pos e]; exact KLt.irrefl _
      · rw [if_neg e]; exact (h.1 i hi' (by omega)).1
    · intro z hz
      by_cases e : i + 1 < (kidsOf t).length
      · simp only [e, dif_pos]
        refine ⟨by simp, fun y hy => ?_⟩
        cases hy
        exact ((h.1 (i + 1) e (by omega)).2 z hz).asymm
      · simp only [e, dif_neg, not_false_eq_true]
        cases hz
        exact ⟨by simp, fun y hy => by cases hy; exact KLt.irrefl _⟩

theorem take_drop_get {α : Type} (l : List α) (i : Nat) (h : i < l.length) : l = l.take i ++ l[i] :: l.drop (i + 1) := by
  rw [List.getElem_cons_drop, List.take_append_drop]
/-- where a key belongs -/
theorem leaf_split {key : ByteArray} : ∀ (n : Nat) (t : Tr n) (lo : ByteArray) (hi : Option ByteArray), Tr.Good n t → Tr.Ord n t lo hi →
    ∃ pre post, Tr.leaves n t = pre ++ Tr.leaf key n t :: post ∧ (∀ x ∈ pre, ∀ c ∈ x.2, KLt c.key key) ∧ (∀ x ∈ post, ∀ c ∈ x.2, KLt key c.key)
  | 0, t, lo, hi, hg, ho => ⟨[], [], rfl, fun x hx => (by cases hx), fun x hx => (by cases hx)⟩
  | n + 1, t, lo, hi, hg, ho => by
    obtain ⟨h6, hr, -, hin⟩ := hg.1
    obtain ⟨hin, hp0, he0⟩ := hin (by omega)
    obtain ⟨hdl, hd1, hd2⟩ := downL_spec (key := key) hr hp0 he0
    have hlen : (Tr.cells (n + 1) t).length = (kidsOf t).length := by rw [cells_succ, List.length_map]
    have hget : ∀ j (hj : j < (kidsOf t).length), (Tr.cells (n + 1) t)[j]'(by omega) = ⟨(kidsOf t)[j].1, 1, le4 (Tr.id n (kidsOf t)[j].2)⟩ := fun j hj => by simp [cells_succ]
    generalize hi0 : downL key (Tr.cells (n + 1) t) = i at *
    have hik : i < (kidsOf t).length := by omega
    rw [hget i hik] at hd1
    simp only at hd1
    have hlf : Tr.leaf key (n + 1) t = Tr.leaf key n (kidsOf t)[i].2 := by
      show (match (kidsOf t)[downL key (Tr.cells (n + 1) t)]? with | some x => Tr.leaf key n x.2 | none => (0, [])) = _
      rw [hi0, List.getElem?_eq_getElem hik]
    obtain ⟨pre, post, e, a1, a2⟩ := leaf_split (key := key) n (kidsOf t)[i].2 _ _ (hg.2 _ (List.getElem_mem hik)) (ho.2 i hik)
    refine ⟨((kidsOf t).take i).flatMap (fun x => Tr.leaves n x.2) ++ pre, post ++ ((kidsOf t).drop (i + 1)).flatMap (fun x => Tr.leaves n x.2), ?_, ?_, ?_⟩
    · show (kidsOf t).flatMap (fun x => Tr.leaves n x.2) = _
      have e2 := take_drop_get (kidsOf t) i hik
      calc (kidsOf t).flatMap (fun x => Tr.leaves n x.2) = ((kidsOf t).take i ++ (kidsOf t)[i] :: (kidsOf t).drop (i + 1)).flatMap (fun x => Tr.leaves n x.2) := by rw [← e2]
        _ = _ := by
          rw [List.flatMap_append, List.flatMap_cons, e, hlf]
          simp
    · intro x hx c hc
      rcases List.mem_append.1 hx with hx | hx
      · obtain ⟨y, hy, hxy⟩ := List.mem_flatMap.1 hx
        obtain ⟨j, hj, rfl⟩ := List.mem_iff_getElem.1 hy
        rw [List.length_take] at hj
        have hjk : j < (kidsOf t).length := by omega
        rw [List.getElem_take] at hxy
        have h1 := ord_cells n _ _ _ (ho.2 j hjk) x hxy c hc
        have h2 : j + 1 < (kidsOf t).length := by omega
        have h3 := h1.2 (kidsOf t)[j + 1].1 (by simp [h2])
        refine KLt.lt_of_lt h3 (fun q => ?_)
        by_cases e : j + 1 = i
        · subst e; exact hd1 q
        · have h4 := List.pairwise_iff_getElem.1 hr (j + 1) i (by omega) (by omega) (by omega)
          rw [hget (j + 1) h2, hget i hik] at h4
          exact hd1 (q.trans h4)
      · exact a1 x hx c hc
    · intro x hx c hc
      rcases List.mem_append.1 hx with hx | hx
      · exact a2 x hx c hc
      · obtain ⟨y, hy, hxy⟩ := List.mem_flatMap.1 hx
        obtain ⟨j, hj, rfl⟩ := List.mem_iff_getElem.1 hy
        rw [List.length_drop] at hj
        rw [List.getElem_drop] at hxy
        have hjk : i + 1 + j < (kidsOf t).length := by omega
        have h1 := ord_cells n _ _ _ (ho.2 (i + 1 + j) hjk) x hxy c hc
        have h2 := h1.1
        rw [if_neg (by omega)] at h2
        have h3 := hd2 (i + 1 + j) (by omega) (by omega)
        rw [hget _ hjk] at h3
        exact KLt.lt_of_lt h3 h2
/-- the cells of all leaves rise -/
theorem flat_rising : ∀ (n : Nat) (t : Tr n) (lo : ByteArray) (hi : Option ByteArray), Tr.Good n t → Tr.Ord n t lo hi → Rising (flat (Tr.leaves n t))
  | 0, t, lo, hi, hg, ho => by
    have : flat (Tr.leaves 0 t) = t.2 := by simp [flat, Tr.leaves]
    rw [this]
    exact hg.2.1
  | n + 1, t, lo, hi, hg, ho => by
    have hcells : ∀ j (hj : j < (kidsOf t).length), ∀ c ∈ flat (Tr.leaves n (kidsOf t)[j].2), InB (if j = 0 then lo else (kidsOf t)[j].1) (if h' : j + 1 < (kidsOf t).length then some (kidsOf t)[j + 1].1 else hi) c.key := fun j hj c hc => by
      obtain ⟨x, hx, hc⟩ := mem_flat.1 hc
      exact ord_cells n _ _ _ (ho.2 j hj) x hx c hc
    have hr := hg.1.2.1
    have hget : ∀ j (hj : j < (kidsOf t).length), (Tr.cells (n + 1) t)[j]'(by rw [cells_succ, List.length_map]; exact hj) = ⟨(kidsOf t)[j].1, 1, le4 (Tr.id n (kidsOf t)[j].2)⟩ := fun j hj => by simp [cells_succ]
    have e : flat (Tr.leaves (n + 1) t) = ((kidsOf t).map fun x => flat (Tr.leaves n x.2)).flatten := by
      show flat ((kidsOf t).flatMap fun x => Tr.leaves n x.2) = _
      exact flat_flatMap _ _
    rw [e]
    refine List.pairwise_flatten.2 ⟨?_, ?_⟩
    · intro l hl
      obtain ⟨y, hy, rfl⟩ := List.mem_map.1 hl
      obtain ⟨j, hj, rfl⟩ := List.mem_iff_getElem.1 hy
      exact flat_rising n _ _ _ (hg.2 _ (List.getElem_mem hj)) (ho.2 j hj)
    · rw [List.pairwise_map, List.pairwise_iff_getElem]
      intro i j hi' hj hij a ha b hb
      have h1 := (hcells i hi' a ha).2 (kidsOf t)[i + 1].1 (by have : i + 1 < (kidsOf t).length := by omega
                                                               simp [this])
      have h2 := (hcells j hj b hb).1
      rw [if_neg (by omega)] at h2
      have h3 : KLt a.key (kidsOf t)[j].1 := by
        by_cases e : i + 1 = j
        · subst e; exact h1
        · have h4 := List.pairwise_iff_getElem.1 hr (i + 1) j (by rw [cells_succ, List.length_map]; omega) (by rw [cells_succ, List.length_map]; omega) (by omega)
          rw [hget (i + 1) (by omega), hget j hj] at h4
          exact h1.trans h4
      exact KLt.lt_of_lt h3 h2
/-- a number of pages -/
theorem len_bound : ∀ (b : Nat) (l : List Int), l.Nodup → (∀ x ∈ l, 1 ≤ x ∧ x < 1 + (b : Int)) → l.length ≤ b
  | 0, l, _, h => by
    cases l with
    | nil => simp
    | cons x r => have := h x (List.mem_cons_self ..); omega
  | b + 1, l, hn, h => by
    by_cases hm : (1 + (b : Int)) ∈ l
    · have h1 := len_bound b (l.erase (1 + (b : Int))) (hn.erase _) (fun x hx => by
        have h2 := h x (List.mem_of_mem_erase hx)
        have h3 : x ≠ 1 + (b : Int) := fun e => by
          subst e
          exact (List.Nodup.mem_erase_iff hn).1 hx |>.1 rfl
        omega)
      rw [List.length_erase_of_mem hm] at h1
      omega
    · have h1 := len_bound b l hn (fun x hx => by
        have h2 := h x hx
        have h3 : x ≠ 1 + (b : Int) := fun e => hm (e ▸ hx)
        omega)
      omega
theorem leaves_sub : ∀ (n : Nat) (t : Tr n), ((Tr.leaves n t).map (·.1)).Sublist (Tr.ids n t)
  | 0, t => by simp [Tr.leaves, Tr.ids]
  | n + 1, t => by
    refine List.Sublist.cons _ ?_
    show (((kidsOf t).flatMap fun x => Tr.leaves n x.2).map (·.1)).Sublist ((kidsOf t).flatMap fun x => Tr.ids n x.2)
    rw [List.map_flatMap]
    generalize kidsOf t = K
    induction K with
    | nil => simp
    | cons x r ih =>
      simp only [List.flatMap_cons]
      exact (leaves_sub n x.2).append ih
/-- a whole tree of a store -/
structure TrAt (S : Vol) (st : Int) (n : Nat) (T : Tr n) : Prop where
  tin : TrIn S st n T
  chain : LeafAll S st (Tr.leaves n T) 0
  nodup : (Tr.ids n T).Nodup
  ord : Tr.Ord n T ByteArray.empty none
theorem TrAt.few {S : Vol} {st : Int} {n : Nat} {T : Tr n} (h : TrAt S st n T) : (Tr.ids n T).length ≤ 1023 :=
  len_bound 1023 _ h.nodup fun x hx => by have := h.tin.ids x hx; omega
theorem TrAt.leaves_few {S : Vol} {st : Int} {n : Nat} {T : Tr n} (h : TrAt S st n T) : (Tr.leaves n T).length ≤ 1023 := by
  have := (leaves_sub n T).length_le
  rw [List.length_map] at this
  have := h.few
  omega
end Go.Proofs.Ytljommhbhpappaa
