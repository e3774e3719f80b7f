/-
  Layer 9 (locks), plain: two queues that differ by their turns alone do the same.
-/
import Derived.Test.YtileamjmhhifaaaLp2
namespace Go.Proofs.Ytileamjmhhifaaa
set_option linter.unusedVariables false
set_option linter.unusedSimpArgs false

def core (h : Hd) : Int × Int × Int := (h.x, h.m, h.w)
def OrdT (H P : List Hd) : Prop := ∀ (i j : Nat) (g h g' h' : Hd), H[i]? = some g → H[j]? = some h → P[i]? = some g' → P[j]? = some h' → g.w ≠ 0 → h.w ≠ 0 → (g.t < h.t ↔ g'.t < h'.t)
structure SimQ (Q P : Qu) : Prop where
  wish : Q.W = P.W
  held : Q.H.map core = P.H.map core
  ord : OrdT Q.H P.H
theorem SimQ.refl_nil : SimQ ⟨[], []⟩ ⟨[], []⟩ := ⟨rfl, rfl, fun i j g h g' h' e => by simp at e⟩
theorem core_len {H P : List Hd} (h : H.map core = P.map core) : H.length = P.length := by
  have := congrArg List.length h
  simpa using this
theorem core_at {H P : List Hd} (h : H.map core = P.map core) {i : Nat} (hi : i < H.length) : ∃ hp : i < P.length, P[i].x = H[i].x ∧ P[i].m = H[i].m ∧ P[i].w = H[i].w := by
  have hp : i < P.length := by rw [← core_len h]; exact hi
  have e := congrArg (fun l => l[i]?) h
  simp only [List.getElem?_map, List.getElem?_eq_getElem hi, List.getElem?_eq_getElem hp, Option.map_some, Option.some.injEq, core, Prod.mk.injEq] at e
  exact ⟨hp, e.1.symm, e.2.1.symm, e.2.2.symm⟩
theorem free_core (x m : Int) (H : List Hd) : freeL x m H = (H.map core).all fun c => c.1 == x || compatL m c.2.1 := by
  unfold freeL
  rw [List.all_map]
  rfl
theorem want_core (H : List Hd) : wantL H = (H.map core).any fun c => c.2.2 != 0 := by
  unfold wantL
  rw [List.any_map]
  rfl
theorem at_core {x : Int} : ∀ {H P : List Hd} (i : Nat), H.map core = P.map core → atL x H i = atL x P i
  | [], [], _, _ => rfl
  | [], _ :: _, _, h => by simp at h
  | _ :: _, [], _, h => by simp at h
  | g :: r, g' :: r', i, h => by
    simp only [List.map_cons, List.cons.injEq, core, Prod.mk.injEq] at h
    unfold atL
    rw [h.1.1, at_core (i + 1) h.2]
theorem mode_core {x : Int} {H P : List Hd} (h : H.map core = P.map core) : modeL x H = modeL x P := by
  rcases atL_cases x H with ⟨e, -⟩ | ⟨i, hi, e, -, -⟩
  · rw [modeL_none e, modeL_none (by rw [← at_core 0 h]; exact e)]
  · obtain ⟨hp, -, hm, -⟩ := core_at h hi
    rw [modeL_some e hi, modeL_some (i := i) (by rw [← at_core 0 h]; exact e) hp, hm]
theorem SimQ.free {Q P : Qu} (h : SimQ Q P) (x m : Int) : freeL x m Q.H = freeL x m P.H := by rw [free_core, free_core, h.held]
theorem SimQ.want {Q P : Qu} (h : SimQ Q P) : wantL Q.H = wantL P.H := by rw [want_core, want_core, h.held]
theorem SimQ.best {Q P : Qu} (h : SimQ Q P) : ∀ k, k ≤ Q.H.length → bestTo Q.H k = bestTo P.H k
  | 0, _ => rfl
  | k + 1, hk => by
    have ih := h.best k (by omega)
    have hkq : k < Q.H.length := by omega
    obtain ⟨hkp, e1, e2, e3⟩ := core_at h.held hkq
    have hc : candB Q.H Q.H[k] = candB P.H P.H[k] := by unfold candB; rw [e1, e3, h.free]
    rw [bestTo_succ _ k hkq, bestTo_succ _ k hkp, ih, hc]
    cases hb : bestTo P.H k with
    | none => rfl
    | some b =>
      simp only
      rw [hb] at ih
      obtain ⟨hbk, g, hg, hgc⟩ := bestTo_lt Q.H k b ih
      have hbq : b < Q.H.length := by omega
      obtain ⟨hbp, -⟩ := core_at h.held hbq
      cases hcb : candB P.H P.H[k] with
      | false => rfl
      | true =>
        rw [hcb] at hc
        have hw1 : Q.H[k].w ≠ 0 := by
          simp only [candB, Bool.and_eq_true, bne_iff_ne, ne_eq] at hc
          exact hc.1
        have hw2 : Q.H[b].w ≠ 0 := by
          rw [List.getElem?_eq_getElem hbq] at hg
          cases hg
          simp only [candB, Bool.and_eq_true, bne_iff_ne, ne_eq] at hgc
          exact hgc.1
        have ho := h.ord k b _ _ _ _ (List.getElem?_eq_getElem hkq) (List.getElem?_eq_getElem hbq) (List.getElem?_eq_getElem hkp) (List.getElem?_eq_getElem hbp) hw1 hw2
        have g1 : Q.H.getD b default = Q.H[b] := by rw [List.getD_eq_getElem?_getD, List.getElem?_eq_getElem hbq]; rfl
        have g2 : P.H.getD b default = P.H[b] := by rw [List.getD_eq_getElem?_getD, List.getElem?_eq_getElem hbp]; rfl
        rw [g1, g2]
        have hd : decide (Q.H[k].t < Q.H[b].t) = decide (P.H[k].t < P.H[b].t) := decide_eq_decide.2 ho
        rw [hd]
/-- one hold changes alike on both sides; where it wants something its turn stands alike to all others -/
theorem SimQ.set {Q P : Qu} (h : SimQ Q P) {k : Nat} (hk : k < Q.H.length) {y y' : Hd} (hc : core y = core y') (ho : y.w ≠ 0 → ∀ (i : Nat) (g g' : Hd), i ≠ k → Q.H[i]? = some g → P.H[i]? = some g' → g.w ≠ 0 → (g.t < y.t ↔ g'.t < y'.t) ∧ (y.t < g.t ↔ y'.t < g'.t)) : SimQ ⟨Q.H.set k y, Q.W⟩ ⟨P.H.set k y', P.W⟩ := by
  have hkp : k < P.H.length := by rw [← core_len h.held]; exact hk
  refine ⟨h.wish, by rw [List.map_set, List.map_set, h.held, hc], fun i j g a g' a' hg ha hg' ha' hw1 hw2 => ?_⟩
  simp only [List.getElem?_set] at hg ha hg' ha'
  by_cases e1 : k = i
  · by_cases e2 : k = j
    · subst e1; subst e2
      rw [if_pos rfl, if_pos hk] at hg ha
      rw [if_pos rfl, if_pos hkp] at hg' ha'
      cases hg; cases ha; cases hg'; cases ha'
      exact ⟨fun h => absurd h (Int.lt_irrefl _), fun h => absurd h (Int.lt_irrefl _)⟩
    · subst e1
      rw [if_pos rfl, if_pos hk] at hg
      rw [if_pos rfl, if_pos hkp] at hg'
      rw [if_neg e2] at ha ha'
      cases hg; cases hg'
      exact (ho hw1 j a a' (fun e => e2 e.symm) ha ha' hw2).2
  · rw [if_neg e1] at hg hg'
    by_cases e2 : k = j
    · subst e2
      rw [if_pos rfl, if_pos hk] at ha
      rw [if_pos rfl, if_pos hkp] at ha'
      cases ha; cases ha'
      exact (ho hw2 i g g' (fun e => e1 e.symm) hg hg' hw1).1
    · rw [if_neg e2] at ha ha'
      exact h.ord i j g a g' a' hg ha hg' ha' hw1 hw2
theorem SimQ.snoc {Q P : Qu} (h : SimQ Q P) (x m : Int) (W : List Ws) : SimQ ⟨Q.H ++ [⟨x, m, 0, 0⟩], W⟩ ⟨P.H ++ [⟨x, m, 0, 0⟩], W⟩ := by
  have hl := core_len h.held
  refine ⟨rfl, by rw [List.map_append, List.map_append, h.held], fun i j g a g' a' hg ha hg' ha' hw1 hw2 => ?_⟩
  have key : ∀ (H : List Hd) (i : Nat) (g : Hd), (H ++ [(⟨x, m, 0, 0⟩ : Hd)])[i]? = some g → g.w ≠ 0 → H[i]? = some g := fun H i g hg hw => by
    by_cases e : i < H.length
    · rw [List.getElem?_append_left e] at hg; exact hg
    · rw [List.getElem?_append_right (by omega)] at hg
      have : i - H.length = 0 := by
        rcases Nat.eq_zero_or_pos (i - H.length) with h0 | h0
        · exact h0
        · rw [List.getElem?_eq_none (by simp; omega)] at hg; cases hg
      rw [this] at hg
      simp only [List.getElem?_cons_zero, Option.some.injEq] at hg
      rw [← hg] at hw; exact absurd rfl hw
  have cw : ∀ (i : Nat) (g g' : Hd), (Q.H ++ [(⟨x, m, 0, 0⟩ : Hd)])[i]? = some g → (P.H ++ [(⟨x, m, 0, 0⟩ : Hd)])[i]? = some g' → g.w = g'.w := fun i g g' hg hg' => by
    have e := congrArg (fun l => l[i]?) (show (Q.H ++ [(⟨x, m, 0, 0⟩ : Hd)]).map core = (P.H ++ [(⟨x, m, 0, 0⟩ : Hd)]).map core by rw [List.map_append, List.map_append, h.held])
    simp only [List.getElem?_map, hg, hg', Option.map_some, Option.some.injEq, core, Prod.mk.injEq] at e
    exact e.2.2
  exact h.ord i j g a g' a' (key _ _ _ hg hw1) (key _ _ _ ha hw2) (key _ _ _ hg' (by rw [← cw i g g' hg hg']; exact hw1)) (key _ _ _ ha' (by rw [← cw j a a' ha ha']; exact hw2)) hw1 hw2
theorem stepA_sim {Q P : Qu} (h : SimQ Q P) : (stepA Q = none ∧ stepA P = none) ∨ ∃ Q1 P1 x, stepA Q = some (Q1, x) ∧ stepA P = some (P1, x) ∧ SimQ Q1 P1 := by
  have hb := h.best Q.H.length (Nat.le_refl _)
  have hl := core_len h.held
  have hbb : bestQ Q.H = bestQ P.H := by unfold bestQ; rw [hb, hl]
  cases hq : bestQ P.H with
  | none => exact .inl ⟨by unfold stepA; rw [hbb, hq], by unfold stepA; rw [hq]⟩
  | some k =>
    right
    rw [hq] at hbb
    obtain ⟨hk, -⟩ := bestTo_lt Q.H Q.H.length k hbb
    obtain ⟨hkp, e1, e2, e3⟩ := core_at h.held hk
    have g1 : Q.H.getD k default = Q.H[k] := by rw [List.getD_eq_getElem?_getD, List.getElem?_eq_getElem hk]; rfl
    have g2 : P.H.getD k default = P.H[k] := by rw [List.getD_eq_getElem?_getD, List.getElem?_eq_getElem hkp]; rfl
    refine ⟨⟨Q.H.set k ⟨Q.H[k].x, Q.H[k].w, 0, Q.H[k].t⟩, Q.W⟩, ⟨P.H.set k ⟨P.H[k].x, P.H[k].w, 0, P.H[k].t⟩, P.W⟩, Q.H[k].x, by unfold stepA; rw [hbb]; simp only [g1], by unfold stepA; rw [hq]; simp only [g2, e1], ?_⟩
    refine h.set hk (by simp only [core, e1, e3]) fun hw => absurd rfl hw
theorem stepB_sim {Q P : Qu} (h : SimQ Q P) : (stepB Q = none ∧ stepB P = none) ∨ ∃ Q1 P1 x, stepB Q = some (Q1, x) ∧ stepB P = some (P1, x) ∧ SimQ Q1 P1 := by
  cases hW : Q.W with
  | nil =>
    have hP : P.W = [] := by rw [← h.wish]; exact hW
    exact .inl ⟨by unfold stepB; rw [hW], by unfold stepB; rw [hP]⟩
  | cons y r =>
    have hP : P.W = y :: r := by rw [← h.wish]; exact hW
    have e : (!wantL Q.H && freeL y.x y.m Q.H) = (!wantL P.H && freeL y.x y.m P.H) := by rw [h.want, h.free]
    by_cases hc : (!wantL P.H && freeL y.x y.m P.H) = true
    · right
      refine ⟨⟨Q.H ++ [⟨y.x, y.m, 0, 0⟩], r⟩, ⟨P.H ++ [⟨y.x, y.m, 0, 0⟩], r⟩, y.x, ?_, ?_, h.snoc _ _ r⟩
      · unfold stepB; rw [hW]; simp only; rw [if_pos (by rw [e]; exact hc)]
      · unfold stepB; rw [hP]; simp only; rw [if_pos hc]
    · left
      exact ⟨by unfold stepB; rw [hW]; simp only; rw [if_neg (by rw [e]; exact hc)], by unfold stepB; rw [hP]; simp only; rw [if_neg hc]⟩
theorem runs_sim {s : Qu → Option (Qu × Int)} (hs : ∀ {Q P : Qu}, SimQ Q P → (s Q = none ∧ s P = none) ∨ ∃ Q1 P1 x, s Q = some (Q1, x) ∧ s P = some (P1, x) ∧ SimQ Q1 P1) {Q Q' : Qu} {xs : List Int} (h : Runs s Q xs Q') : ∀ {P : Qu}, SimQ Q P → ∃ P', Runs s P xs P' ∧ SimQ Q' P' := by
  induction h with
  | stop h0 =>
    intro P hp
    rcases hs hp with ⟨-, h1⟩ | ⟨Q1, P1, x, h1, -⟩
    · exact ⟨P, .stop h1, hp⟩
    · rw [h0] at h1; cases h1
  | step h0 hr ih =>
    intro P hp
    rcases hs hp with ⟨h1, -⟩ | ⟨Q1, P1, x, h1, h2, h3⟩
    · rw [h0] at h1; cases h1
    · rw [h0] at h1
      simp only [Option.some.injEq, Prod.mk.injEq] at h1
      obtain ⟨rfl, rfl⟩ := h1
      obtain ⟨P', r1, r2⟩ := ih h3
      exact ⟨P', .step h2 r1, r2⟩
theorem gives_sim {Q Q' P : Qu} {xs : List Int} (h : Gives Q xs Q') (hp : SimQ Q P) : ∃ P', Gives P xs P' ∧ SimQ Q' P' := by
  obtain ⟨x1, x2, Q1, h1, h2, rfl⟩ := h
  obtain ⟨P1, r1, s1⟩ := runs_sim (fun h => stepA_sim h) h1 hp
  obtain ⟨P', r2, s2⟩ := runs_sim (fun h => stepB_sim h) h2 s1
  exact ⟨P', ⟨x1, x2, P1, r1, r2, rfl⟩, s2⟩
end Go.Proofs.Ytileamjmhhifaaa
