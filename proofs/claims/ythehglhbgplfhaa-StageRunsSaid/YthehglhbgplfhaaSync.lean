/-
  Layer 13: the stage's map and the document's list are the same pages (plain law).
-/
import Derived.Test.YthehglhbgplfhaaImages2
import Derived.Test.YthehglhbgplfhaaAll13
namespace Go.Proofs.Ythehglhbgplfhaa
open Go.RowKit Go.Joins
set_option linter.unusedVariables false
set_option linter.unusedSimpArgs false

/-- a page laid into a list by rising numbers -/
def ins (id : Int) (p : Pg) : List (Int × Pg) → List (Int × Pg)
  | [] => [(id, p)]
  | x :: r => if x.1 < id then x :: ins id p r else if x.1 = id then (id, p) :: r else (id, p) :: x :: r
theorem fold_done (id : Int) (p : Pg) : ∀ (Q o : List (Int × Pg)), (∀ x ∈ Q, id < x.1) → Q.foldl (rstep id p) (o, true) = (o ++ Q, true)
  | [], o, _ => by simp
  | x :: r, o, h => by
    have h1 := h x (List.mem_cons_self ..)
    have e : rstep id p (o, true) x = (o ++ [x], true) := by
      have : ¬ x.1 = id := by omega
      simp [rstep, this]
    rw [List.foldl_cons, e, fold_done id p r _ fun y hy => h y (List.mem_cons_of_mem _ hy)]
    simp
theorem fold_ins (id : Int) (p : Pg) : ∀ (Q o : List (Int × Pg)), Q.Pairwise (fun x y => x.1 < y.1) → (if (Q.foldl (rstep id p) (o, false)).2 then (Q.foldl (rstep id p) (o, false)).1 else (Q.foldl (rstep id p) (o, false)).1 ++ [(id, p)]) = o ++ ins id p Q
  | [], o, _ => by simp [ins]
  | x :: r, o, h => by
    have hp := List.pairwise_cons.1 h
    by_cases h1 : x.1 < id
    · have e : rstep id p (o, false) x = (o ++ [x], false) := by
        have a1 : ¬ x.1 = id := by omega
        have a2 : ¬ id ≤ x.1 := by omega
        simp [rstep, a1, a2]
      rw [List.foldl_cons, e, fold_ins id p r _ hp.2]
      simp [ins, h1]
    · by_cases h2 : x.1 = id
      · have e : rstep id p (o, false) x = (o ++ [(id, p)], true) := by
          have a2 : id ≤ x.1 := by omega
          simp [rstep, h2]
        rw [List.foldl_cons, e, fold_done id p r _ fun y hy => by have := hp.1 y hy; omega]
        simp [ins, h1, h2]
      · have e : rstep id p (o, false) x = (o ++ [(id, p)] ++ [x], true) := by
          have a2 : id ≤ x.1 := by omega
          simp [rstep, h2, a2]
        rw [List.foldl_cons, e, fold_done id p r _ fun y hy => by have := hp.1 y hy; omega]
        simp [ins, h1, h2]
theorem rput_ins {P : List (Int × Pg)} (id : Int) (p : Pg) (h : P.Pairwise (fun x y => x.1 < y.1)) : rput id p P = ins id p P := by
  exact (fold_ins id p P [] h).trans (List.nil_append _)
theorem mem_ins {id : Int} {p : Pg} : ∀ {P : List (Int × Pg)} {y : Int × Pg}, y ∈ ins id p P → y = (id, p) ∨ y ∈ P
  | [], y, h => by simp [ins] at h; exact .inl h
  | x :: r, y, h => by
    unfold ins at h
    split at h
    · rcases List.mem_cons.1 h with rfl | h
      · exact .inr (List.mem_cons_self ..)
      · rcases mem_ins h with h | h
        · exact .inl h
        · exact .inr (List.mem_cons_of_mem _ h)
    · split at h
      · rcases List.mem_cons.1 h with rfl | h
        · exact .inl rfl
        · exact .inr (List.mem_cons_of_mem _ h)
      · rcases List.mem_cons.1 h with rfl | h
        · exact .inl rfl
        · exact .inr h
theorem ins_sorted {id : Int} {p : Pg} : ∀ {P : List (Int × Pg)}, P.Pairwise (fun x y => x.1 < y.1) → (ins id p P).Pairwise (fun x y => x.1 < y.1)
  | [], _ => by simp [ins]
  | x :: r, h => by
    have hp := List.pairwise_cons.1 h
    unfold ins
    split
    · rename_i h1
      refine List.pairwise_cons.2 ⟨fun y hy => ?_, ins_sorted hp.2⟩
      rcases mem_ins hy with rfl | hy
      · exact h1
      · exact hp.1 y hy
    · rename_i h1
      split
      · rename_i h2
        refine List.pairwise_cons.2 ⟨fun y hy => ?_, hp.2⟩
        have := hp.1 y hy
        show id < y.1
        omega
      · refine List.pairwise_cons.2 ⟨fun y hy => ?_, h⟩
        show id < y.1
        rcases List.mem_cons.1 hy with rfl | hy
        · omega
        · have := hp.1 y hy; omega
theorem find_ins {id : Int} {p : Pg} (k : Int) : ∀ {P : List (Int × Pg)}, P.Pairwise (fun x y => x.1 < y.1) → ((ins id p P).find? fun x => x.1 == k).map (·.2) = if k = id then some p else (P.find? fun x => x.1 == k).map (·.2)
  | [], _ => by
    by_cases h : k = id
    · subst h; simp [ins]
    · have : (id == k) = false := by simp; exact fun e => h e.symm
      simp [ins, h, this]
  | x :: r, h => by
    have hp := List.pairwise_cons.1 h
    unfold ins
    split
    · rename_i h1
      simp only [List.find?_cons]
      by_cases hk : (x.1 == k) = true
      · have : ¬ k = id := by have := eq_of_beq hk; omega
        simp [hk, this]
      · simp only [Bool.not_eq_true] at hk
        rw [hk]
        exact find_ins k hp.2
    · rename_i h1
      split
      · rename_i h2
        simp only [List.find?_cons]
        by_cases hk : k = id
        · subst hk; simp
        · have a1 : (id == k) = false := by simp; exact fun e => hk e.symm
          have a2 : (x.1 == k) = false := by simp; omega
          simp [a1, a2, hk]
      · simp only [List.find?_cons]
        by_cases hk : k = id
        · subst hk; simp
        · have a1 : (id == k) = false := by simp; exact fun e => hk e.symm
          simp [a1, hk]

/-- the stage's map and the document's list -/
structure Sync (S : Vol) (P : List (Int × Pg)) : Prop where
  rise : P.Pairwise (fun x y => x.1 < y.1)
  same : ∀ id, getM S id = (P.find? fun x => x.1 == id).map (·.2)
  ok : S.Ok
  good : ∀ x ∈ P, 0 ≤ x.1 ∧ x.1 < 1024 ∧ okPg x.2 = true
theorem Sync.nil (l : List Pg) : Sync ⟨l, []⟩ [] := ⟨List.Pairwise.nil, fun id => rfl, Vol.Ok.nil l, by simp⟩
theorem Sync.put {S : Vol} {P : List (Int × Pg)} (h : Sync S P) (id : Int) (p : Pg) (hok : okSet id p = true) : Sync (S.put id p) (rput id p P) := by
  simp only [okSet, Bool.and_eq_true, decide_eq_true_eq] at hok
  rw [rput_ins id p h.rise]
  refine ⟨ins_sorted h.rise, fun k => ?_, h.ok.put id p hok.1.1 hok.1.2, fun x hx => ?_⟩
  · rw [getM_put, find_ins k h.rise, h.same k]
  · rcases mem_ins hx with rfl | hx
    · exact ⟨hok.1.1, hok.1.2, hok.2⟩
    · exact h.good x hx
theorem Sync.base {S : Vol} {P : List (Int × Pg)} (h : Sync S P) (l : List Pg) : Sync ⟨l, S.M⟩ P := ⟨h.rise, h.same, ⟨h.ok.once, h.ok.range⟩, h.good⟩
theorem find_mem {P : List (Int × Pg)} (h : P.Pairwise (fun x y => x.1 < y.1)) {x : Int × Pg} (hx : x ∈ P) : P.find? (fun y => y.1 == x.1) = some x := by
  obtain ⟨k, hk, rfl⟩ := List.mem_iff_getElem.1 hx
  refine find_at hk (fun j hj hjl e => ?_) rfl
  have := List.pairwise_iff_getElem.1 h j k hjl hk hj
  omega
theorem Sync.get {S : Vol} {P : List (Int × Pg)} (h : Sync S P) (id : Int) : rPg S.base P id = stPg S id ∧ rE S.base P id = stE S id := by
  unfold rPg rE stPg stE
  rw [h.same id]
  cases P.find? fun x => x.1 == id <;> exact ⟨rfl, rfl⟩
theorem Sync.mem {S : Vol} {P : List (Int × Pg)} (h : Sync S P) (id : Int) : id ∈ S.M.map (·.1) ↔ id ∈ P.map (·.1) := by
  constructor
  · intro hm
    obtain ⟨p, hp⟩ := getM_mem hm
    rw [h.same id] at hp
    cases hf : P.find? fun x => x.1 == id with
    | none => rw [hf] at hp; cases hp
    | some x =>
      have h1 := List.mem_of_find?_eq_some hf
      have h2 := List.find?_some hf
      exact List.mem_map.2 ⟨x, h1, eq_of_beq h2⟩
  · intro hm
    obtain ⟨x, hx, rfl⟩ := List.mem_map.1 hm
    have hf := find_mem h.rise hx
    have hg := h.same x.1
    rw [hf] at hg
    unfold getM at hg
    cases hg2 : S.M.find? fun y => y.1 == x.1 with
    | none => rw [hg2] at hg; cases hg
    | some y => exact List.mem_map.2 ⟨y, List.mem_of_find?_eq_some hg2, eq_of_beq (List.find?_some (p := fun y : Int × Pg => y.1 == x.1) hg2)⟩
theorem sorted_unique : ∀ {a b : List Int}, a.Pairwise (· < ·) → b.Pairwise (· < ·) → (∀ x, x ∈ a ↔ x ∈ b) → a = b
  | [], [], _, _, _ => rfl
  | [], y :: s, _, _, h => absurd ((h y).2 (List.mem_cons_self ..)) (by simp)
  | x :: r, [], _, _, h => absurd ((h x).1 (List.mem_cons_self ..)) (by simp)
  | x :: r, y :: s, ha, hb, h => by
    have pa := List.pairwise_cons.1 ha
    have pb := List.pairwise_cons.1 hb
    have e : x = y := by
      have h1 := (h x).1 (List.mem_cons_self ..)
      have h2 := (h y).2 (List.mem_cons_self ..)
      rcases List.mem_cons.1 h1 with e | h1
      · exact e
      · rcases List.mem_cons.1 h2 with e | h2
        · exact e.symm
        · have := pa.1 y h2; have := pb.1 x h1; omega
    subst e
    congr 1
    refine sorted_unique pa.2 pb.2 fun z => ?_
    constructor
    · intro hz
      have := pa.1 z hz
      rcases List.mem_cons.1 ((h z).1 (List.mem_cons_of_mem _ hz)) with e | hz2
      · omega
      · exact hz2
    · intro hz
      have := pb.1 z hz
      rcases List.mem_cons.1 ((h z).2 (List.mem_cons_of_mem _ hz)) with e | hz2
      · omega
      · exact hz2
theorem Sync.keys {S : Vol} {P : List (Int × Pg)} (h : Sync S P) : S.keys = P.map (·.1) :=
  sorted_unique (keys_rise h.ok.once) (List.pairwise_map.2 h.rise) fun x => (Vol.mem_keys S x).trans (h.mem x)
theorem Sync.st {S : Vol} {P : List (Int × Pg)} (h : Sync S P) {x : Int × Pg} (hx : x ∈ P) : stPg S x.1 = x.2 := by
  have := h.same x.1
  rw [find_mem h.rise hx] at this
  unfold stPg
  rw [this]; rfl
theorem Sync.imgs {S : Vol} {P : List (Int × Pg)} (h : Sync S P) : imgs S S.keys = rimgs S.base P := by
  rw [h.keys]
  unfold Go.Proofs.Ythehglhbgplfhaa.imgs rimgs
  have : ∀ Q : List (Int × Pg), (∀ x ∈ Q, x ∈ P) → ((Q.map (·.1)).filter fun id => !pgEq (shelfPg S.base id) (stPg S id)).map (fun id => (id, stPg S id)) = Q.filter fun x => !pgEq (shelfPg S.base x.1) x.2 := by
    intro Q hQ
    induction Q with
    | nil => rfl
    | cons x r ih =>
      have e := h.st (hQ x (List.mem_cons_self ..))
      have ih := ih fun y hy => hQ y (List.mem_cons_of_mem _ hy)
      simp only [List.map_cons, List.filter_cons, e]
      cases pgEq (shelfPg S.base x.1) x.2
      · simp only [Bool.not_false, if_true, List.map_cons, e, ih]
      · simp only [Bool.not_true, Bool.false_eq_true, if_false, ih]
  exact this P fun x hx => hx
theorem Sync.len {S : Vol} {P : List (Int × Pg)} (h : Sync S P) : P.length ≤ 1024 := by
  have := h.ok.len
  have e : S.keys.length = P.length := by rw [h.keys, List.length_map]
  rw [Vol.keys_len] at e
  omega
end Go.Proofs.Ythehglhbgplfhaa
