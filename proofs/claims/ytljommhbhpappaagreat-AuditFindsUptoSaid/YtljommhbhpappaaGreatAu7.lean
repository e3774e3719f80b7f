/-
  Layer 22 (audit): node, at every level of a tree.
-/
import Derived.Test.YtljommhbhpappaaGreatAu6
namespace Go.Proofs.YtljommhbhpappaaGreat
open Go.RowKit Go.Joins
set_option linter.unusedVariables false
set_option linter.unusedSimpArgs false

/-- a page of a tree: as it should be, or the bad one -/
def AuN (S : Vol) (st x lv id : Int) (L : List NC) : Prop := if id = x then BadNode S st lv x else stE S id = 0 ∧ ∃ nx, stPg S id = ndPg lv st nx L
def Tr.Au (S : Vol) (st x : Int) : (n : Nat) → Tr n → Prop
  | 0, t => AuN S st x 0 t.1 t.2
  | n + 1, t => AuN S st x (n + 1 : Nat) t.1 (Tr.cells (n + 1) t) ∧ ∀ y ∈ kidsOf t, Tr.Au S st x n y.2
theorem Tr.Au.node {S : Vol} {st x : Int} : ∀ {n : Nat} {t : Tr n}, Tr.Au S st x n t → AuN S st x (n : Int) (Tr.id n t) (Tr.cells n t)
  | 0, _, h => h
  | _ + 1, _, h => h.1
def hiO (hi : ByteArray) : Option ByteArray := if hi = ByteArray.empty then none else some hi
theorem hiO_mem {hi k : ByteArray} (h : ∀ z ∈ hiO hi, KLt k z) : hi = ByteArray.empty ∨ KLt k hi := by
  unfold hiO at h
  by_cases e : hi = ByteArray.empty
  · exact .inl e
  · rw [if_neg e] at h
    exact .inr (h hi rfl)
theorem hiO_full {k : ByteArray} (h : k ≠ ByteArray.empty) : hiO k = some k := if_neg h
def kidF {α β : Type} (f : α → List β) (K : List α) (i : Nat) : List β := match K[i]? with | some y => f y | none => []
theorem kidF_at {α β : Type} (f : α → List β) (K : List α) (i : Nat) (h : i < K.length) : kidF f K i = f K[i] := by unfold kidF; rw [List.getElem?_eq_getElem h]
theorem firstN_take {α β : Type} (f : α → List β) (K : List α) : ∀ i, i ≤ K.length → firstN (kidF f K) i = (K.take i).flatMap f
  | 0, _ => by simp [firstN]
  | i + 1, h => by
    rw [firstN_succ, firstN_take f K i (by omega), List.take_add_one, List.flatMap_append, List.getElem?_eq_getElem (by omega), kidF_at f K i (by omega)]
    simp
theorem firstN_kids {α β : Type} (f : α → List β) (K : List α) : firstN (kidF f K) K.length = K.flatMap f := by
  rw [firstN_take f K _ (Nat.le_refl _), List.take_length]
theorem node_any {S : Vol} {st x : Int} {B lb q b mb hb pb : Nat} : ∀ (n : Nat) (t : Tr n) (lo hi : ByteArray), Tr.Au S st x n t → Tr.Good n t → Tr.Ord n t lo (hiO hi) → (n ≠ 0 → hi = ByteArray.empty ∨ KLt lo hi) → n ≤ 255 → (Tr.ids n t).Nodup → (∀ id ∈ Tr.ids n t, 1 ≤ id ∧ id < 1024) →
    ∀ (w : World) (seen : List (Int × Int)) (lvs : List Int), AuAt B w lb q b mb hb pb S seen lvs → (∀ id ∈ Tr.ids n t, ¬ id ∈ seen.map (·.1)) → lvs.length + (Tr.leaves n t).length ≤ 5000 →
    Calls Tryz.prog 63 #[.pointer (some ⟨lb, 0, none⟩), .int .i64 st, .int .i64 (Tr.id n t), .int .i64 n, .string lo, .string hi] w fun e w' => ∃ er, e = .returned (.int .i64 er) ∧ AuK B lb q w w' ∧
      ((x ∈ Tr.ids n t ∧ er ≠ 0) ∨ (¬ x ∈ Tr.ids n t ∧ er = 0 ∧ AuAt B w' lb q b mb hb pb S (seen ++ withS st (Tr.ids n t)) (lvs ++ (Tr.leaves n t).map (·.1))))
  | 0, t, lo, hi, hau, hg, ho, hst, hn, hnd, hid, w, seen, lvs, hA, hf, hc => by
    have hau' : AuN S st x ((0 : Nat) : Int) (Tr.id 0 t) (Tr.cells 0 t) := hau
    unfold AuN at hau'
    have hmem := id_mem 0 t
    by_cases hx : Tr.id 0 t = x
    · rw [if_pos hx] at hau'
      rw [hx]
      refine (node_bad hau' hA (hx ▸ hf _ hmem) lo hi).mono ?_
      rintro e w' ⟨er, rfl, her, hK⟩
      exact ⟨er, rfl, hK, .inl ⟨hx ▸ hmem, her⟩⟩
    · rw [if_neg hx] at hau'
      obtain ⟨he, nx, hp⟩ := hau'
      have hni : ¬ x ∈ Tr.ids 0 t := fun h => by
        have : x = t.1 := by simpa [Tr.ids] using h
        exact hx this.symm
      refine (node_good (x := x) 0 (Tr.id 0 t) nx (Tr.cells 0 t) hg hp he (by omega) lo hi (fun j hj => ?_) (fun _ => 0) (fun _ => []) (fun _ => []) (fun h => absurd h (by omega)) hA (hf _ hmem) (fun h => absurd h (by omega)) (fun _ => by simpa [Tr.leaves] using hc) (fun h => absurd h (by omega))).mono ?_
      · have h1 : InB lo (hiO hi) (Tr.cells 0 t)[j].key := ho _ (List.getElem_mem hj)
        rw [if_neg (fun hh => by omega)]
        exact ⟨h1.1, hiO_mem h1.2⟩
      · rintro e w' ⟨er, rfl, hK, h1 | h1 | h1⟩
        · exact ⟨er, rfl, hK, .inr ⟨hni, h1.2.1, h1.2.2⟩⟩
        · exact absurd h1.1 (by omega)
        · exact absurd h1.1 (by omega)
  | n + 1, t, lo, hi, hau, hg, ho, hst, hn, hnd, hid, w, seen, lvs, hA, hf, hc => by
    have hau' := hau.node
    unfold AuN at hau'
    have hmem := id_mem (n + 1) t
    by_cases hx : Tr.id (n + 1) t = x
    · rw [if_pos hx] at hau'
      rw [hx]
      refine (node_bad hau' hA (hx ▸ hf _ hmem) lo hi).mono ?_
      rintro e w' ⟨er, rfl, her, hK⟩
      exact ⟨er, rfl, hK, .inl ⟨hx ▸ hmem, her⟩⟩
    · rw [if_neg hx] at hau'
      obtain ⟨he, nx, hp⟩ := hau'
      have hnode := hg.1
      obtain ⟨h6, hr, -, hin⟩ := hg.1
      obtain ⟨hin, hp0, he0⟩ := hin (by omega)
      have hlen : (Tr.cells (n + 1) t).length = (kidsOf t).length := by rw [cells_succ, List.length_map]
      have hget : ∀ j (hj : j < (kidsOf t).length), (Tr.cells (n + 1) t)[j]'(by omega) = ⟨(kidsOf t)[j].1, 1, le4 (Tr.id n (kidsOf t)[j].2)⟩ := fun j hj => by simp [cells_succ]
      have hgetD : ∀ j (hj : j < (kidsOf t).length), ((Tr.cells (n + 1) t).getD j ⟨ByteArray.empty, 0, ByteArray.empty⟩).key = (kidsOf t)[j].1 := fun j hj => by
        rw [List.getD_eq_getElem?_getD, List.getElem?_eq_getElem (by omega), hget j hj]; rfl
      have hst' := hst (by omega)
      have hlast := hlen
      have hidsT : Tr.ids (n + 1) t = t.1 :: (kidsOf t).flatMap fun y => Tr.ids n y.2 := rfl
      have hlvT : Tr.leaves (n + 1) t = (kidsOf t).flatMap fun y => Tr.leaves n y.2 := rfl
      have hmk : ∀ i (hi' : i < (kidsOf t).length), ∀ y ∈ Tr.ids n (kidsOf t)[i].2, y ∈ (kidsOf t).flatMap fun y => Tr.ids n y.2 := fun i hi' y hy => List.mem_flatMap.2 ⟨_, List.getElem_mem hi', hy⟩
      have hnd2 := (List.nodup_cons.1 (hidsT ▸ hnd))
      have hpw := List.pairwise_flatMap.1 hnd2.2
      have hkk : KidsOk S st x (n + 1) (Tr.cells (n + 1) t) lo hi B lb q b mb hb pb (fun i => ((kidsOf t)[i]?.map fun y => Tr.id n y.2).getD 0) (kidF (fun y : ByteArray × Tr n => Tr.ids n y.2) (kidsOf t)) (kidF (fun y : ByteArray × Tr n => (Tr.leaves n y.2).map (·.1)) (kidsOf t)) := by
        refine ⟨fun i hi' => ?_, fun i hi' w seen lv hA hf hc => ?_, fun i hi' j hj hij y hy => ?_⟩
        · have hi2 : i < (kidsOf t).length := by omega
          rw [hget i hi2]
          simp only [List.getElem?_eq_getElem hi2, Option.map_some, Option.getD_some]
          have := hid _ (List.mem_cons_of_mem _ (hmk i hi2 _ (id_mem n _)))
          exact ⟨trivial, trivial, this.1, this.2⟩
        · have hi2 : i < (kidsOf t).length := by omega
          simp only [List.getElem?_eq_getElem hi2, Option.map_some, Option.getD_some, kidF_at _ _ i hi2] at hf hc ⊢
          rw [hgetD i hi2, hlen]
          have ho2 := ho.2 i hi2
          have e1 : (if h' : i + 1 < (kidsOf t).length then some (kidsOf t)[i + 1].1 else hiO hi) = hiO (if i + 1 < (kidsOf t).length then ((Tr.cells (n + 1) t).getD (i + 1) ⟨ByteArray.empty, 0, ByteArray.empty⟩).key else hi) := by
            by_cases h' : i + 1 < (kidsOf t).length
            · rw [dif_pos h', if_pos h', hgetD _ h', hiO_full]
              have := hr.full (j := 0) (k := i + 1) (by omega) (by omega)
              rwa [hget _ h'] at this
            · rw [dif_neg h', if_neg h']
          rw [e1] at ho2
          have hcast : (((n + 1 : Nat) : Int) - 1) = (n : Int) := by omega
          rw [hcast]
          refine (node_any n (kidsOf t)[i].2 _ _ (hau.2 _ (List.getElem_mem hi2)) (hg.2 _ (List.getElem_mem hi2)) ho2 (fun _ => ?_) (by omega) (hpw.1 _ (List.getElem_mem hi2)) (fun id hd => hid id (List.mem_cons_of_mem _ (hmk i hi2 id hd))) w seen lv hA hf (by simpa using hc)).mono fun e w' h => h
          by_cases h' : i + 1 < (kidsOf t).length
          · rw [if_pos h', hgetD _ h']
            right
            by_cases h0 : i = 0
            · subst h0
              rw [if_pos rfl]
              exact (ho.1 1 h' (by omega)).1
            · rw [if_neg h0]
              have := List.pairwise_iff_getElem.1 hr i (i + 1) (by omega) (by omega) (by omega)
              rwa [hget i hi2, hget _ h'] at this
          · rw [if_neg h']
            by_cases h0 : i = 0
            · rw [if_pos h0]; exact hst'
            · rw [if_neg h0]; exact hiO_mem (ho.1 i hi2 (by omega)).2
        · have hi2 : i < (kidsOf t).length := by omega
          have hj2 : j < (kidsOf t).length := by omega
          rw [kidF_at _ _ i hi2] at hy
          rw [kidF_at _ _ j hj2]
          rcases Nat.lt_or_gt_of_ne hij with e | e
          · exact fun h => List.pairwise_iff_getElem.1 hpw.2 i j hi2 hj2 e y hy y h rfl
          · exact fun h => List.pairwise_iff_getElem.1 hpw.2 j i hj2 hi2 e y h y hy rfl
      have hF1 := firstN_kids (fun y : ByteArray × Tr n => Tr.ids n y.2) (kidsOf t)
      have hF2 := firstN_kids (fun y : ByteArray × Tr n => (Tr.leaves n y.2).map (·.1)) (kidsOf t)
      rw [← hlen] at hF1 hF2
      have hlv2 : (Tr.leaves (n + 1) t).map (·.1) = (kidsOf t).flatMap fun y => (Tr.leaves n y.2).map (·.1) := by rw [hlvT, List.map_flatMap]
      refine (node_good (x := x) (n + 1) (Tr.id (n + 1) t) nx (Tr.cells (n + 1) t) hnode hp he hn lo hi (fun j hj => ?_) _ _ _ (fun _ => hkk) hA (hf _ hmem) (fun _ i hi' y hy => ?_) (fun h => absurd h (by omega)) (fun _ => ?_)).mono ?_
      · by_cases h0 : j = 0
        · rw [if_pos ⟨by omega, h0⟩]
          exact ⟨KLt.irrefl _, hst'⟩
        · rw [if_neg (fun hh => h0 hh.2), hget j (by omega)]
          have := ho.1 j (by omega) (by omega)
          exact ⟨this.1.asymm, hiO_mem this.2⟩
      · have hi2 : i < (kidsOf t).length := by omega
        rw [kidF_at _ _ i hi2] at hy
        have hym := hmk i hi2 y hy
        rw [List.map_append, List.mem_append]
        rintro (e | e)
        · exact hf y (List.mem_cons_of_mem _ hym) e
        · have : y = Tr.id (n + 1) t := by simpa using e
          rw [this] at hym
          exact hnd2.1 hym
      · rw [hF2, ← hlv2, List.length_map]; exact hc
      · rintro e w' ⟨er, rfl, hK, h1 | h1 | h1⟩
        · exact absurd h1.1 (by omega)
        · rw [hF1] at h1
          exact ⟨er, rfl, hK, .inl ⟨List.mem_cons_of_mem _ h1.2.1, h1.2.2⟩⟩
        · rw [hF1, hF2, ← hlv2] at h1
          refine ⟨er, rfl, hK, .inr ⟨fun hm => ?_, h1.2.2.1, ?_⟩⟩
          · rcases List.mem_cons.1 hm with e | e
            · exact hx e.symm
            · exact h1.2.1 e
          · have h2 := h1.2.2.2
            rw [hidsT, show t.1 :: ((kidsOf t).flatMap fun y => Tr.ids n y.2) = [t.1] ++ ((kidsOf t).flatMap fun y => Tr.ids n y.2) from rfl, withS_append, ← List.append_assoc]
            exact h2
end Go.Proofs.YtljommhbhpappaaGreat
