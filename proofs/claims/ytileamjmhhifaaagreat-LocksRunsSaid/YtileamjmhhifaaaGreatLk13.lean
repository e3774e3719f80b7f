/-
  Layer 9 (locks): slices.SortFunc of any rows of structs that are owned: a permutation, sorted, in place.
-/
import Derived.Test.YtileamjmhhifaaaGreatLk12
import Derived.Test.YtileamjmhhifaaaGreatSortLayA
namespace Go.Proofs.YtileamjmhhifaaaGreat
open Go.RowKit Go.Joins Go.Sort Go.Shelf
set_option linter.unusedVariables false
set_option linter.unusedSimpArgs false

theorem sort_row {α : Type} [Inhabited α] {ρ : Go.Shelf.Ren} (L : Go.Proofs.SlLaysF0.n6 Tryz.prog ρ) (k : Nat) (hk0 : 0 < k) (aE : ∀ w, (isAgg (ρ.t 24)).run Tryz.prog w = .ok true w) (zE : ∀ w, (Go.sizeOf (ρ.t 24)).run Tryz.prog w = .ok k w) (enc : α → List Value) (hk : ∀ x, (enc x).length = k) (h1 : ∀ x, ∀ v ∈ enc x, v.oneCell' = true) (cf : α → α → Int) (hO : SWO (ltOf cf)) (g : Nat) (eg : ∀ args w, (callFunc g args).run Tryz.prog w = .ok (.enter g args) w)
    (hc : ∀ (x y : α) (W : World), Calls Tryz.prog g #[.agg (enc x).toArray, .agg (enc y).toArray] W fun e w' => e = .returned (.int .i64 (cf x y)) ∧ Gr W w')
    (R : List α) (hl : R.length ≤ 4000000000000) (B : Nat) (ty : TypeId) (v : Value) (w : World) (h : w.ownsRow B ty k v R.length (R.flatMap enc)) :
    Calls Tryz.prog (ρ.f 6) #[v, .func (.func g) #[] #[]] w fun e w' => e = .returned (.tuple #[]) ∧ ∃ R' : List α, R'.Perm R ∧ R'.Pairwise (fun x y => ltOf cf y x = false) ∧ w'.ownsRow B ty k v R'.length (R'.flatMap enc) ∧ Moved (fun i => v.ownBlock = some i) w w' := by
  obtain ⟨hxl, hor⟩ := h
  rcases hor with ⟨rfl, h0⟩ | ⟨b, cap, cur, rfl, hB, hb, hn, hm, hcs, htk⟩
  · refine (AnyF.slices_SortFunc_none L none 0 _ w).mono ?_
    rintro e w' ⟨rfl, rfl⟩
    have hR : R = [] := List.length_eq_zero_iff.1 h0
    subst hR
    exact ⟨rfl, [], List.Perm.refl _, List.Pairwise.nil, ⟨by simp, .inl ⟨rfl, rfl⟩⟩, Moved.refl _ _⟩
  · have hcell : ∀ j, j < R.length * k → cur[j]? = (R.flatMap enc)[j]? := fun j hj => by
      rw [← htk, List.getElem?_take, if_pos hj, Array.getElem?_toList]
    have hbl : b < w.heap.size := (Array.getElem?_eq_some_iff.1 hb).1
    have hH : HoldsK enc k w b 0 R.toArray := by
      intro j hj
      rw [size_flatK, List.size_toArray] at hj
      have hjk : j / k < R.length := (Nat.div_lt_iff_lt_mul hk0).2 hj
      have hmod : j % k < k := Nat.mod_lt _ hk0
      rw [get_flatK _ _ _ _ (by rw [List.size_toArray]; exact hj), getElem!_pos R.toArray (j / k) (by simpa using hjk), List.getElem_toArray]
      have hf := flat_get hk R (j / k) (j % k) hjk hmod
      have e : j / k * k + j % k = j := by rw [Nat.mul_comm]; exact Nat.div_add_mod j k
      rw [e] at hf
      refine ⟨?_, by simp [World.frozen?, hb]⟩
      have hc2 := hcell j hj
      rw [hf, List.getElem?_eq_getElem (by rw [hk]; exact hmod)] at hc2
      show w.cell? ⟨b, 0 + j, none⟩ = _
      rw [Nat.zero_add]
      show _ = some (id _)
      rw [id, getElem!_pos (enc R[j / k]) (j % k) (by rw [hk]; exact hmod), ← hc2]
      simp [World.cell?, hb]
    have hcmp : CmpLays Tryz.prog g #[] enc k cf b 0 R.toArray.size w := fun m os dk hs x y => hc x y _
    have hcon := AnyQ.slices_SortFunc L k aE zE enc hk h1 cf hO g #[] b 0 cap R.toArray w eg hcmp hH hbl (by rw [List.size_toArray]; omega)
    rw [List.size_toArray] at hcon
    refine Calls.mono hcon ?_
    rintro e w' ⟨rfl, d', n, os, hp, hst, rfl⟩
    have hsz : d'.size = R.length := by rw [hp.1, List.size_toArray]
    have e1 : (d'.extract 0 R.length).toList = d'.toList := by rw [← hsz]; simp
    have e2 : (R.toArray.extract 0 R.length).toList = R := by simp
    have hperm := hp.2.2
    rw [e1, e2] at hperm
    have hlen' : d'.toList.length = R.length := by rw [Array.length_toList, hsz]
    have hg : (putRowK enc k (Sort.ahead w n) b 0 d').heap[b]? = some (.cells (putCells id 0 (flatK enc k d') cur) ty) := by
      simp [putRowK, putRow, mapBlock, Array.getElem?_modify, onCells]
      exact ⟨_, hb, rfl⟩
    have hzz : (putRowK enc k (Sort.ahead w n) b 0 d').heap.size = w.heap.size := by simp [putRowK, Sort.ahead]
    have hheap : ∀ i, i < w.heap.size → (grow (putRowK enc k (Sort.ahead w n) b 0 d') os).heap[i]? = (putRowK enc k (Sort.ahead w n) b 0 d').heap[i]? := fun i hi => by
      show ((putRowK enc k (Sort.ahead w n) b 0 d').heap ++ os)[i]? = _
      rw [Array.getElem?_append_left (by rw [hzz]; exact hi)]
    refine ⟨rfl, d'.toList, hperm, ?_, ⟨by rw [hlen', flat_len hk, hlen'], .inr ⟨b, cap, putCells id 0 (flatK enc k d') cur, by rw [hlen'], hB, (hheap b hbl).trans hg, by rw [hlen']; exact hn, hm, by simp [putCells, hcs], ?_⟩⟩, ?_⟩
    · rw [List.pairwise_iff_getElem]
      intro i j hi hj hij
      have hj' : j < d'.size := by simpa using hj
      have := hst i j (Nat.zero_le _) hij (by omega)
      rw [getElem!_pos d' j hj', getElem!_pos d' i (by omega)] at this
      simpa using this
    · rw [hlen']
      apply List.ext_getElem?
      intro j
      by_cases hj : j < R.length * k
      · have hjk : j / k < d'.toList.length := by rw [hlen']; exact (Nat.div_lt_iff_lt_mul hk0).2 hj
        have hmod : j % k < k := Nat.mod_lt _ hk0
        have e : j / k * k + j % k = j := by rw [Nat.mul_comm]; exact Nat.div_add_mod j k
        have hf := flat_get hk d'.toList (j / k) (j % k) hjk hmod
        rw [e] at hf
        have hcj : j < cur.size := by rw [hcs]; exact Nat.lt_of_lt_of_le hj (Nat.mul_le_mul_right k hn)
        rw [hf, List.getElem?_take, if_pos hj, Array.getElem?_toList, List.getElem?_eq_getElem (by rw [hk]; exact hmod)]
        simp only [putCells, Array.getElem?_mapIdx, Array.getElem?_eq_getElem hcj, Option.map_some]
        rw [if_pos ⟨Nat.zero_le _, by rw [size_flatK, hsz]; omega⟩, Nat.sub_zero, get_flatK _ _ _ _ (by rw [hsz]; exact hj), getElem!_pos d' (j / k) (by rw [hsz]; exact (Nat.div_lt_iff_lt_mul hk0).2 hj)]
        simp only [id, Array.getElem_toList]
        rw [getElem!_pos _ (j % k) (by rw [hk]; exact hmod)]
      · rw [List.getElem?_eq_none (by rw [List.length_take]; omega), List.getElem?_eq_none (by rw [flat_len hk, hlen']; omega)]
    · refine ⟨rfl, rfl, rfl, ?_, fun i hi hF => (hheap i hi).trans ?_⟩
      · show w.heap.size ≤ ((putRowK enc k (Sort.ahead w n) b 0 d').heap ++ os).size
        rw [Array.size_append, hzz]; omega
      · have hne : b ≠ i := fun e => hF (by rw [e]; rfl)
        simp [putRowK, putRow, mapBlock, Array.getElem?_modify, hne, Sort.ahead]
end Go.Proofs.YtileamjmhhifaaaGreat
