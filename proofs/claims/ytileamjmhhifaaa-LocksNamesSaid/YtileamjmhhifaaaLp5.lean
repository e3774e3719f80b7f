/-
  Layer 9 (locks), plain: two tables of which one has names beside; what is done with one name has the same answers in both.
-/
import Derived.Test.YtileamjmhhifaaaLp4
import Derived.Test.YtileamjmhhifaaaLp3
namespace Go.Proofs.Ytileamjmhhifaaa
open Go.RowKit Go.Joins Go.Sort Go.Shelf
set_option linter.unusedVariables false
set_option linter.unusedSimpArgs false

def TB (Q : Qu) (t : Int) : Prop := 0 ≤ t ∧ ∀ h ∈ Q.H, h.t ≤ t
theorem ask_tb {Q : Qu} {x m t : Int} (h : TB Q t) : TB (askQ Q x m t).1 (askQ Q x m t).2.2 := by
  obtain ⟨h0, h1⟩ := h
  rcases atL_cases x Q.H with ⟨he, -⟩ | ⟨i, hi, he, -, -⟩
  · rw [askQ_new he]
    split
    · refine ⟨h0, fun g hg => ?_⟩
      rcases List.mem_append.1 hg with hg | hg
      · exact h1 g hg
      · rw [List.mem_singleton.1 hg]; exact h0
    · exact ⟨h0, h1⟩
  · rw [askQ_at he hi]
    split
    · exact ⟨h0, h1⟩
    · split
      · refine ⟨h0, fun g hg => ?_⟩
        rcases mem_set hi hg with rfl | ⟨j, hj, -, rfl⟩
        · have h2 := h1 _ (List.getElem_mem hi); exact h2
        · exact h1 _ (List.getElem_mem hj)
      · refine ⟨by show 0 ≤ t + 1; omega, fun g hg => ?_⟩
        show g.t ≤ t + 1
        rcases mem_set hi hg with rfl | ⟨j, hj, -, rfl⟩
        · exact Int.le_refl _
        · have := h1 _ (List.getElem_mem hj); omega
theorem TB.mono {Q : Qu} {t t' : Int} (h : TB Q t) (ht : t ≤ t') : TB Q t' := ⟨Int.le_trans h.1 ht, fun g hg => Int.le_trans (h.2 g hg) ht⟩
theorem ask_simQ {Q P : Qu} {x m t u : Int} (h : SimQ Q P) (hq : TB Q t) (hp : TB P u) : SimQ (askQ Q x m t).1 (askQ P x m u).1 ∧ (askQ Q x m t).2.1 = (askQ P x m u).2.1 := by
  have hat := at_core (x := x) 0 h.held
  rcases atL_cases x Q.H with ⟨he, -⟩ | ⟨i, hi, he, -, -⟩
  · have he' : atL x P.H 0 = -1 := by rw [← hat]; exact he
    have hg : (Q.W.isEmpty && !wantL Q.H && freeL x m Q.H) = (P.W.isEmpty && !wantL P.H && freeL x m P.H) := by rw [h.wish, h.want, h.free]
    rw [askQ_new he, askQ_new he', hg]
    split
    · refine ⟨?_, rfl⟩
      have h2 := h.snoc x m Q.W
      show SimQ ⟨Q.H ++ [⟨x, m, 0, 0⟩], Q.W⟩ ⟨P.H ++ [⟨x, m, 0, 0⟩], P.W⟩
      rw [← h.wish]; exact h2
    · exact ⟨⟨by show Q.W ++ _ = P.W ++ _; rw [h.wish], h.held, h.ord⟩, rfl⟩
  · have he' : atL x P.H 0 = (i : Int) := by rw [← hat]; exact he
    obtain ⟨hip, e1, e2, e3⟩ := core_at h.held hi
    rw [askQ_at he hi, askQ_at he' hip, e1, e2, e3, ← h.free x]
    split
    · exact ⟨h, rfl⟩
    · split
      · refine ⟨h.set hi rfl fun hw j g g' hji hg hg' hgw => ?_, rfl⟩
        have hQi := List.getElem?_eq_getElem hi
        have hPi := List.getElem?_eq_getElem hip
        exact ⟨h.ord j i g Q.H[i] g' P.H[i] hg hQi hg' hPi hgw hw, h.ord i j Q.H[i] g P.H[i] g' hQi hg hPi hg' hw hgw⟩
      · refine ⟨h.set hi rfl fun hw j g g' hji hg hg' hgw => ?_, rfl⟩
        have a1 : g.t ≤ t := hq.2 g (List.mem_of_getElem? hg)
        have a2 : g'.t ≤ u := hp.2 g' (List.mem_of_getElem? hg')
        show (g.t < t + 1 ↔ g'.t < u + 1) ∧ (t + 1 < g.t ↔ u + 1 < g'.t)
        constructor
        · constructor <;> intro _ <;> omega
        · constructor <;> intro _ <;> omega
theorem sub_at {L : List Hd} {p : Hd → Bool} : ∀ {H : List Hd}, ∀ (i : Nat) (g : Hd), (H.filter p)[i]? = some g → ∃ j : Nat, H[j]? = some g ∧ ∀ (P : List Hd), H.map core = P.map core → (∀ a b : Hd, core a = core b → p a = p b) → (P.filter p)[i]? = P[j]?
  | [], i, g, h => by simp at h
  | y :: r, i, g, h => by
    rw [List.filter_cons] at h
    by_cases hy : p y = true
    · rw [if_pos hy] at h
      cases i with
      | zero =>
        simp only [List.getElem?_cons_zero] at h
        refine ⟨0, h, fun P hP hpc => ?_⟩
        cases P with
        | nil => simp at hP
        | cons z s =>
          simp only [List.map_cons, List.cons.injEq] at hP
          have hz : p z = true := by rw [← hpc y z hP.1]; exact hy
          rw [List.filter_cons, if_pos hz]
          rfl
      | succ i =>
        simp only [List.getElem?_cons_succ] at h
        obtain ⟨j, hj, hP0⟩ := sub_at (L := L) i g h
        refine ⟨j + 1, hj, fun P hP hpc => ?_⟩
        cases P with
        | nil => simp at hP
        | cons z s =>
          simp only [List.map_cons, List.cons.injEq] at hP
          have hz : p z = true := by rw [← hpc y z hP.1]; exact hy
          rw [List.filter_cons, if_pos hz]
          simp only [List.getElem?_cons_succ]
          exact hP0 s hP.2 hpc
    · rw [if_neg hy] at h
      obtain ⟨j, hj, hP0⟩ := sub_at (L := L) i g h
      refine ⟨j + 1, hj, fun P hP hpc => ?_⟩
      cases P with
      | nil => simp at hP
      | cons z s =>
        simp only [List.map_cons, List.cons.injEq] at hP
        have hz : ¬ p z = true := by rw [← hpc y z hP.1]; exact hy
        rw [List.filter_cons, if_neg hz]
        simp only [List.getElem?_cons_succ]
        exact hP0 s hP.2 hpc
theorem filter_core {p : Hd → Bool} (hpc : ∀ a b : Hd, core a = core b → p a = p b) : ∀ {H P : List Hd}, H.map core = P.map core → (H.filter p).map core = (P.filter p).map core
  | [], [], _ => rfl
  | [], _ :: _, h => by simp at h
  | _ :: _, [], h => by simp at h
  | y :: r, z :: s, h => by
    simp only [List.map_cons, List.cons.injEq] at h
    have ih := filter_core hpc h.2
    rw [List.filter_cons, List.filter_cons, hpc y z h.1]
    split
    · rw [List.map_cons, List.map_cons, h.1, ih]
    · exact ih
theorem x_core {x : Int} (a b : Hd) (h : core a = core b) : (!(a.x == x)) = (!(b.x == x)) := by
  simp only [core, Prod.mk.injEq] at h
  rw [h.1]
theorem SimQ.rem {Q P : Qu} (h : SimQ Q P) (x : Int) : SimQ (remQ x Q) (remQ x P) := by
  refine ⟨by show Q.W.filter _ = P.W.filter _; rw [h.wish], filter_core x_core h.held, fun i j g a g' a' hg ha hg' ha' hw1 hw2 => ?_⟩
  obtain ⟨i1, k1, k2⟩ := sub_at (L := []) i g hg
  obtain ⟨j1, l1, l2⟩ := sub_at (L := []) j a ha
  have k3 := k2 P.H h.held x_core
  have l3 := l2 P.H h.held x_core
  exact h.ord i1 j1 g a g' a' k1 l1 (by rw [← k3]; exact hg') (by rw [← l3]; exact ha') hw1 hw2
theorem SimQ.has {Q P : Qu} (h : SimQ Q P) (x : Int) : hasQ x Q = hasQ x P := by
  have e : ∀ H : List Hd, (H.any fun h => h.x == x) = (H.map core).any fun c => c.1 == x := fun H => by rw [List.any_map]; rfl
  unfold hasQ
  rw [e, e, h.held, h.wish]
theorem rel_simQ {Q P Q' P' : Qu} {x : Int} {xs ys : List Int} (h : SimQ Q P) (hq : RelQ x Q xs Q') (hp : RelQ x P ys P') : SimQ Q' P' := by
  rcases hq with ⟨h0, h1⟩ | ⟨h0, rfl, rfl⟩
  · obtain ⟨P1, k1, k2⟩ := gives_sim h1 (h.rem x)
    have k3 : RelQ x P xs P1 := .inl ⟨by rw [← h.has]; exact h0, k1⟩
    rw [(hp.det k3).2]; exact k2
  · have k3 : RelQ x P [] P := .inr ⟨by rw [← h.has]; exact h0, rfl, rfl⟩
    rw [(hp.det k3).2]; exact h
theorem runs_tb {s : Qu → Option (Qu × Int)} {t : Int} (hs : ∀ {Q Q1 : Qu} {x : Int}, TB Q t → s Q = some (Q1, x) → TB Q1 t) {Q Q' : Qu} {xs : List Int} (h : Runs s Q xs Q') : TB Q t → TB Q' t := by
  induction h with
  | stop _ => exact id
  | step h0 _ ih => exact fun hq => ih (hs hq h0)
theorem stepA_tb {Q Q1 : Qu} {x t : Int} (hq : TB Q t) (h : stepA Q = some (Q1, x)) : TB Q1 t := by
  obtain ⟨k, hk, -, -, rfl, -⟩ := stepA_some h
  refine ⟨hq.1, fun g hg => ?_⟩
  rcases mem_set hk hg with rfl | ⟨j, hj, -, rfl⟩
  · have h2 := hq.2 _ (List.getElem_mem hk); exact h2
  · exact hq.2 _ (List.getElem_mem hj)
theorem stepB_tb {Q Q1 : Qu} {x t : Int} (hq : TB Q t) (h : stepB Q = some (Q1, x)) : TB Q1 t := by
  obtain ⟨y, r, -, -, -, rfl, -⟩ := stepB_some h
  refine ⟨hq.1, fun g hg => ?_⟩
  rcases List.mem_append.1 hg with hg | hg
  · exact hq.2 g hg
  · rw [List.mem_singleton.1 hg]; exact hq.1
theorem rel_tb {Q Q' : Qu} {x t : Int} {xs : List Int} (hq : TB Q t) (h : RelQ x Q xs Q') : TB Q' t := by
  rcases h with ⟨-, x1, x2, Q1, h1, h2, -⟩ | ⟨-, rfl, -⟩
  · have h0 : TB (remQ x Q) t := ⟨hq.1, fun g hg => hq.2 g (List.mem_filter.1 hg).1⟩
    exact runs_tb stepB_tb h2 (runs_tb stepA_tb h1 h0)
  · exact hq
theorem waits_sim {Q P : Qu} (h : SimQ Q P) (k : Int) : waitsIn k Q ↔ waitsIn k P := by
  have e : ∀ H : List Hd, (∃ h ∈ H, h.x = k ∧ h.w ≠ 0) ↔ ∃ c ∈ H.map core, c.1 = k ∧ c.2.2 ≠ 0 := fun H => by
    constructor
    · rintro ⟨h, hh, h1, h2⟩; exact ⟨core h, List.mem_map.2 ⟨h, hh, rfl⟩, h1, h2⟩
    · rintro ⟨c, hc, h1, h2⟩
      obtain ⟨h, hh, rfl⟩ := List.mem_map.1 hc
      exact ⟨h, hh, h1, h2⟩
  unfold waitsIn
  rw [e, e, h.held, h.wish]

/-- a and b at one name -/
structure NR (mine : Int → Prop) (n : Nm) (A C : LS) : Prop where
  oa : OkS A
  ob : OkS C
  sim : SimQ (A.q n) (C.q n)
  ta : TB (A.q n) A.turn
  tb : TB (C.q n) C.turn
  none : ∀ k, k ≠ n → C.q k = ⟨[], []⟩
  far : ∀ k, k ≠ n → ∀ x ∈ idsQ (A.q k), ¬ mine x
theorem waits_ids {k : Int} {Q : Qu} (h : waitsIn k Q) : k ∈ idsQ Q := by
  rcases h with ⟨g, hg, rfl, -⟩ | ⟨y, hy, rfl⟩
  · exact List.mem_append.2 (.inl (List.mem_map.2 ⟨g, hg, rfl⟩))
  · exact List.mem_append.2 (.inr (List.mem_map.2 ⟨y, hy, rfl⟩))
theorem NR.empty (mine : Int → Prop) (n : Nm) : NR mine n LS.empty LS.empty :=
  ⟨OkS.empty, OkS.empty, SimQ.refl_nil, ⟨Int.le_refl _, fun g hg => (by cases hg)⟩, ⟨Int.le_refl _, fun g hg => (by cases hg)⟩, fun _ _ => rfl, fun k _ x hx => (by cases hx)⟩
theorem NR.waits {mine : Int → Prop} {n : Nm} {A C : LS} (h : NR mine n A C) {x : Int} (hx : mine x) : A.wt x = C.wt x := by
  have e : A.wt x = true ↔ C.wt x = true := by
    rw [h.oa.wait x, h.ob.wait x]
    constructor
    · rintro ⟨k, hk⟩
      by_cases e : k = n
      · subst e; exact ⟨k, (waits_sim h.sim x).1 hk⟩
      · exact absurd hx (h.far k e x (waits_ids hk))
    · rintro ⟨k, hk⟩
      by_cases e : k = n
      · subst e; exact ⟨k, (waits_sim h.sim x).2 hk⟩
      · rw [h.none k e] at hk
        have := waits_ids hk
        cases this
  cases ha : A.wt x <;> cases hc : C.wt x <;> simp_all
theorem NR.mode {mine : Int → Prop} {n : Nm} {A C : LS} (h : NR mine n A C) (x : Int) : modeL x (A.q n).H = modeL x (C.q n).H := mode_core h.sim.held
theorem ids_ask {Q : Qu} {x m t k : Int} (h : k ∈ idsQ (askQ Q x m t).1) : k ∈ idsQ Q ∨ k = x := by
  rcases atL_cases x Q.H with ⟨he, -⟩ | ⟨i, hi, he, -, -⟩
  · rw [askQ_new he] at h
    split at h
    · simp only [idsQ, List.map_append, List.map_cons, List.map_nil, List.mem_append, List.mem_singleton] at h ⊢
      rcases h with (h | h) | h
      · exact .inl (.inl h)
      · exact .inr h
      · exact .inl (.inr h)
    · simp only [idsQ, List.map_append, List.map_cons, List.map_nil, List.mem_append, List.mem_singleton] at h ⊢
      rcases h with h | h | h
      · exact .inl (.inl h)
      · exact .inl (.inr h)
      · exact .inr h
  · rw [askQ_at he hi] at h
    have key : ∀ y : Hd, y.x = Q.H[i].x → k ∈ idsQ ⟨Q.H.set i y, Q.W⟩ → k ∈ idsQ Q := fun y hy hk => by
      unfold idsQ at hk ⊢
      rw [ids_set hi hy] at hk
      exact hk
    left
    split at h
    · exact h
    · split at h
      · exact key ⟨Q.H[i].x, joinL Q.H[i].m m, Q.H[i].w, Q.H[i].t⟩ rfl h
      · exact key ⟨Q.H[i].x, Q.H[i].m, joinL Q.H[i].m m, t + 1⟩ rfl h
/-- somebody else asks for another name -/
theorem NR.other {mine : Int → Prop} {n : Nm} {A C : LS} (h : NR mine n A C) {x m : Int} {k : Nm} (hk : k ≠ n) (hx : ¬ mine x) (hw : A.wt x = false) (hm : IsM m) : NR mine n (askS A x k m) C := by
  have hn : (askS A x k m).q n = A.q n := if_neg fun e => hk e.symm
  refine ⟨h.oa.ask k hw hm, h.ob, by rw [hn]; exact h.sim, ?_, h.tb, h.none, fun j hj y hy => ?_⟩
  · rw [hn]
    exact h.ta.mono (askQ_turn _ _ _ _).1
  · by_cases e : j = k
    · subst e
      simp only [askS, if_true] at hy
      rcases ids_ask hy with h1 | rfl
      · exact h.far j hj y h1
      · exact hx
    · simp only [askS, if_neg e] at hy
      exact h.far j hj y hy
/-- both are asked for the name -/
theorem NR.both {mine : Int → Prop} {n : Nm} {A C : LS} (h : NR mine n A C) {x m : Int} (hwa : A.wt x = false) (hwc : C.wt x = false) (hm : IsM m) : NR mine n (askS A x n m) (askS C x n m) ∧ (askQ (A.q n) x m A.turn).2.1 = (askQ (C.q n) x m C.turn).2.1 := by
  have hn : ∀ S : LS, (askS S x n m).q n = (askQ (S.q n) x m S.turn).1 := fun S => if_pos rfl
  have hf : ∀ (S : LS) k, k ≠ n → (askS S x n m).q k = S.q k := fun S k hk => if_neg hk
  obtain ⟨s1, s2⟩ := ask_simQ (x := x) (m := m) h.sim h.ta h.tb
  refine ⟨⟨h.oa.ask n hwa hm, h.ob.ask n hwc hm, by rw [hn, hn]; exact s1, by rw [hn]; exact ask_tb h.ta, by rw [hn]; exact ask_tb h.tb, fun k hk => by rw [hf C k hk]; exact h.none k hk, fun k hk => by rw [hf A k hk]; exact h.far k hk⟩, s2⟩
theorem has_ids {x : Int} {Q : Qu} (h : hasQ x Q = true) : x ∈ idsQ Q := by
  unfold hasQ at h
  rw [Bool.or_eq_true, List.any_eq_true, List.any_eq_true] at h
  rcases h with ⟨g, hg, e⟩ | ⟨g, hg, e⟩
  · exact List.mem_append.2 (.inl (List.mem_map.2 ⟨g, hg, by simpa using e⟩))
  · exact List.mem_append.2 (.inr (List.mem_map.2 ⟨g, hg, by simpa using e⟩))
/-- one of ours goes -/
theorem NR.rel {mine : Int → Prop} {n : Nm} {A C A' C' : LS} (h : NR mine n A C) {x : Int} (hx : mine x) (ha : RelS x A A') (hc : RelS x C C') : NR mine n A' C' := by
  obtain ⟨xs, h1, -⟩ := ha.2.choose_spec.1 n
  obtain ⟨ys, h2, -⟩ := hc.2.choose_spec.1 n
  refine ⟨h.oa.rel ha, h.ob.rel hc, rel_simQ h.sim h1 h2, by rw [ha.1]; exact rel_tb h.ta h1, by rw [hc.1]; exact rel_tb h.tb h2, fun k hk => ?_, fun k hk => ?_⟩
  · obtain ⟨zs, h3, -⟩ := hc.2.choose_spec.1 k
    rw [h.none k hk] at h3
    exact h3.nil.2
  · obtain ⟨zs, h3, -⟩ := ha.2.choose_spec.1 k
    rcases h3 with ⟨h4, -⟩ | ⟨-, h4, -⟩
    · exact absurd hx (h.far k hk x (has_ids h4))
    · rw [h4]; exact h.far k hk
end Go.Proofs.Ytileamjmhhifaaa
