/-
  Layer 9 (locks), plain: what holds of every queue: each transaction once, holds go together, who waits has what stands against it.
-/
import Derived.Test.YtileamjmhhifaaaLk21
namespace Go.Proofs.Ytileamjmhhifaaa
set_option linter.unusedVariables false
set_option linter.unusedSimpArgs false

def IsM (m : Int) : Prop := 1 ≤ m ∧ m ≤ 6
theorem IsM.cases {m : Int} (h : IsM m) : m = 1 ∨ m = 2 ∨ m = 3 ∨ m = 4 ∨ m = 5 ∨ m = 6 := by obtain ⟨h1, h2⟩ := h; omega
theorem compat_symm {a b : Int} (ha : IsM a) (hb : IsM b) : compatL a b = compatL b a := by
  rcases ha.cases with rfl | rfl | rfl | rfl | rfl | rfl <;> rcases hb.cases with rfl | rfl | rfl | rfl | rfl | rfl <;> decide
theorem compat_join {w a b : Int} (hw : IsM w) (ha : IsM a) (hb : IsM b) (h : compatL w (joinL a b) = true) : compatL w a = true := by
  revert h
  rcases hw.cases with rfl | rfl | rfl | rfl | rfl | rfl <;> rcases ha.cases with rfl | rfl | rfl | rfl | rfl | rfl <;> rcases hb.cases with rfl | rfl | rfl | rfl | rfl | rfl <;> decide
theorem join_isM {a b : Int} (ha : IsM a) (hb : IsM b) : IsM (joinL a b) := by
  rcases ha.cases with rfl | rfl | rfl | rfl | rfl | rfl <;> rcases hb.cases with rfl | rfl | rfl | rfl | rfl | rfl <;> exact ⟨by decide, by decide⟩
theorem free_iff {x m : Int} {H : List Hd} : freeL x m H = true ↔ ∀ g ∈ H, g.x = x ∨ compatL m g.m = true := by
  simp [freeL]
theorem free_false {x m : Int} {H : List Hd} : freeL x m H = false ↔ ∃ g ∈ H, g.x ≠ x ∧ compatL m g.m = false := by
  simp [freeL]
theorem want_iff {H : List Hd} : wantL H = true ↔ ∃ h ∈ H, h.w ≠ 0 := by simp [wantL]
theorem want_false {H : List Hd} : wantL H = false ↔ ∀ h ∈ H, h.w = 0 := by simp [wantL]
theorem mem_set {H : List Hd} {k : Nat} (hk : k < H.length) {y h : Hd} (hm : h ∈ H.set k y) : h = y ∨ ∃ i, ∃ hi : i < H.length, i ≠ k ∧ H[i] = h := by
  obtain ⟨i, hi, rfl⟩ := List.mem_iff_getElem.1 hm
  rw [List.length_set] at hi
  rw [List.getElem_set]
  by_cases e : k = i
  · rw [if_pos e]; exact .inl rfl
  · rw [if_neg e]; exact .inr ⟨i, hi, fun h => e h.symm, rfl⟩
theorem set_at {H : List Hd} {k : Nat} (hk : k < H.length) (y : Hd) : y ∈ H.set k y := List.mem_iff_getElem.2 ⟨k, by simpa using hk, by simp⟩
theorem set_far {H : List Hd} {k i : Nat} (hi : i < H.length) (hne : i ≠ k) (y : Hd) : H[i] ∈ H.set k y := List.mem_iff_getElem.2 ⟨i, by simpa using hi, by rw [List.getElem_set, if_neg fun e => hne e.symm]⟩
def idsQ (Q : Qu) : List Int := Q.H.map (·.x) ++ Q.W.map (·.x)
theorem ids_ne {H : List Hd} (h : (H.map (·.x)).Nodup) {i k : Nat} (hi : i < H.length) (hk : k < H.length) (hne : i ≠ k) : H[i].x ≠ H[k].x := fun e => by
  have h1 := List.pairwise_iff_getElem.1 h
  rcases Nat.lt_or_gt_of_ne hne with h2 | h2
  · exact h1 i k (by simpa using hi) (by simpa using hk) h2 (by simpa using e)
  · exact h1 k i (by simpa using hk) (by simpa using hi) h2 (by simpa using e.symm)
/-- who waits in a queue -/
def waitsIn (k : Int) (Q : Qu) : Prop := (∃ h ∈ Q.H, h.x = k ∧ h.w ≠ 0) ∨ ∃ y ∈ Q.W, y.x = k
/-- at all times -/
structure Pre (Q : Qu) : Prop where
  ids : (idsQ Q).Nodup
  mode : ∀ h ∈ Q.H, IsM h.m ∧ (h.w ≠ 0 → IsM h.w)
  wish : ∀ y ∈ Q.W, IsM y.m
  tog : ∀ h ∈ Q.H, ∀ g ∈ Q.H, h.x ≠ g.x → compatL h.m g.m = true
/-- between calls -/
structure Ok (Q : Qu) : Prop where
  pre : Pre Q
  stuckH : ∀ h ∈ Q.H, h.w ≠ 0 → freeL h.x h.w Q.H = false
  stuckW : ∀ y r, Q.W = y :: r → wantL Q.H = true ∨ freeL y.x y.m Q.H = false
theorem Pre.empty : Pre ⟨[], []⟩ := ⟨List.nodup_nil, fun h hh => (by cases hh), fun y hy => (by cases hy), fun h hh => (by cases hh)⟩
theorem Ok.empty : Ok ⟨[], []⟩ := ⟨.empty, fun h hh => (by cases hh), fun y r h => (by cases h)⟩
theorem Pre.hnd {Q : Qu} (h : Pre Q) : (Q.H.map (·.x)).Nodup := (List.nodup_append.1 h.ids).1
theorem Pre.hw {Q : Qu} (h : Pre Q) {g : Hd} (hg : g ∈ Q.H) {y : Ws} (hy : y ∈ Q.W) : g.x ≠ y.x :=
  (List.nodup_append.1 h.ids).2.2 g.x (List.mem_map.2 ⟨g, hg, rfl⟩) y.x (List.mem_map.2 ⟨y, hy, rfl⟩)
/-- a transaction goes -/
theorem Pre.rem {Q : Qu} (h : Pre Q) (x : Int) : Pre (remQ x Q) := by
  have hs : (idsQ (remQ x Q)).Sublist (idsQ Q) := List.Sublist.append ((List.filter_sublist).map _) ((List.filter_sublist).map _)
  exact ⟨hs.nodup h.ids, fun g hg => h.mode g (List.mem_filter.1 hg).1, fun y hy => h.wish y (List.mem_filter.1 hy).1, fun a ha b hb => h.tog a (List.mem_filter.1 ha).1 b (List.mem_filter.1 hb).1⟩
theorem waits_rem {Q : Qu} {x k : Int} : waitsIn k (remQ x Q) ↔ waitsIn k Q ∧ k ≠ x := by
  unfold waitsIn remQ
  constructor
  · rintro (⟨h, hh, rfl, hw⟩ | ⟨y, hy, rfl⟩)
    · obtain ⟨h1, h2⟩ := List.mem_filter.1 hh
      exact ⟨.inl ⟨h, h1, rfl, hw⟩, by simpa using h2⟩
    · obtain ⟨h1, h2⟩ := List.mem_filter.1 hy
      exact ⟨.inr ⟨y, h1, rfl⟩, by simpa using h2⟩
  · rintro ⟨⟨h, hh, rfl, hw⟩ | ⟨y, hy, rfl⟩, hne⟩
    · exact .inl ⟨h, List.mem_filter.2 ⟨hh, by simpa using hne⟩, rfl, hw⟩
    · exact .inr ⟨y, List.mem_filter.2 ⟨hy, by simpa using hne⟩, rfl⟩
/-- one hold changes, the transaction stays -/
theorem ids_set {H : List Hd} {k : Nat} (hk : k < H.length) {y : Hd} (hx : y.x = H[k].x) : (H.set k y).map (·.x) = H.map (·.x) := by
  rw [List.map_set, hx]
  apply List.ext_getElem (by simp)
  intro i h1 h2
  rw [List.getElem_set]
  by_cases e : k = i
  · subst e; simp
  · rw [if_neg e]
theorem bestTo_none (H : List Hd) : ∀ k, k ≤ H.length → (bestTo H k = none ↔ ∀ i, ∀ hi : i < k, ∀ hl : i < H.length, candB H H[i] = false)
  | 0, _ => ⟨fun _ i hi => by omega, fun _ => rfl⟩
  | k + 1, hk => by
    have ih := bestTo_none H k (by omega)
    rw [bestTo_succ H k (by omega)]
    constructor
    · intro h i hi hl
      cases hb : bestTo H k with
      | none =>
        rw [hb] at h
        simp only at h
        by_cases e : i = k
        · subst e
          cases hc : candB H H[i] with
          | false => rfl
          | true => rw [if_pos hc] at h; cases h
        · exact (ih.1 hb) i (by omega) hl
      | some b =>
        rw [hb] at h
        simp only at h
        split at h <;> cases h
    · intro h
      have h0 := ih.2 fun i hi hl => h i (by omega) hl
      rw [h0]
      simp only
      rw [if_neg]
      rw [h k (by omega) (by omega)]
      simp
/-- when no hold can be given what it wants -/
theorem stepA_none {Q : Qu} (h : stepA Q = none) : ∀ g ∈ Q.H, g.w ≠ 0 → freeL g.x g.w Q.H = false := by
  intro g hg hw
  have hb : bestQ Q.H = none := by
    unfold stepA at h
    cases hq : bestQ Q.H with
    | none => rfl
    | some k => rw [hq] at h; cases h
  obtain ⟨i, hi, rfl⟩ := List.mem_iff_getElem.1 hg
  have := (bestTo_none Q.H Q.H.length (Nat.le_refl _)).1 hb i hi hi
  simp only [candB, Bool.and_eq_false_iff, bne_eq_false_iff_eq] at this
  exact this.resolve_left hw
theorem stepA_some {Q Q1 : Qu} {x : Int} (h : stepA Q = some (Q1, x)) : ∃ k, ∃ hk : k < Q.H.length, Q.H[k].w ≠ 0 ∧ freeL Q.H[k].x Q.H[k].w Q.H = true ∧ Q1 = ⟨Q.H.set k ⟨Q.H[k].x, Q.H[k].w, 0, Q.H[k].t⟩, Q.W⟩ ∧ x = Q.H[k].x := by
  unfold stepA at h
  cases hb : bestQ Q.H with
  | none => rw [hb] at h; cases h
  | some k =>
    rw [hb] at h
    obtain ⟨hk, g, hg, hc⟩ := bestTo_lt Q.H Q.H.length k hb
    rw [List.getElem?_eq_getElem hk] at hg
    cases hg
    simp only [candB, Bool.and_eq_true, bne_iff_ne, ne_eq] at hc
    have e : Q.H.getD k default = Q.H[k] := by rw [List.getD_eq_getElem?_getD, List.getElem?_eq_getElem hk]; rfl
    simp only [e, Option.some.injEq, Prod.mk.injEq] at h
    exact ⟨k, hk, hc.1, hc.2, h.1.symm, h.2.symm⟩
theorem stepB_some {Q Q1 : Qu} {x : Int} (h : stepB Q = some (Q1, x)) : ∃ y r, Q.W = y :: r ∧ wantL Q.H = false ∧ freeL y.x y.m Q.H = true ∧ Q1 = ⟨Q.H ++ [⟨y.x, y.m, 0, 0⟩], r⟩ ∧ x = y.x := by
  obtain ⟨H, W⟩ := Q
  cases W with
  | nil => cases h
  | cons y r =>
    unfold stepB at h
    simp only at h
    split at h
    · rename_i hc
      simp only [Bool.and_eq_true, Bool.not_eq_true'] at hc
      simp only [Option.some.injEq, Prod.mk.injEq] at h
      exact ⟨y, r, rfl, hc.1, hc.2, h.1.symm, h.2.symm⟩
    · cases h
theorem stepB_none {Q : Qu} (h : stepB Q = none) : ∀ y r, Q.W = y :: r → wantL Q.H = true ∨ freeL y.x y.m Q.H = false := by
  intro y r hW
  unfold stepB at h
  rw [hW] at h
  simp only at h
  split at h
  · cases h
  · rename_i hc
    cases hw : wantL Q.H with
    | true => exact .inl rfl
    | false =>
      right
      cases hf : freeL y.x y.m Q.H with
      | false => rfl
      | true => rw [hw, hf] at hc; exact absurd rfl hc
/-- a step keeps what holds at all times, and who waits is who waited but for the one that was given something -/
theorem stepA_ok {Q Q1 : Qu} {x : Int} (hp : Pre Q) (h : stepA Q = some (Q1, x)) : Pre Q1 ∧ waitsIn x Q ∧ ∀ k, waitsIn k Q1 ↔ waitsIn k Q ∧ k ≠ x := by
  obtain ⟨k, hk, hw, hf, rfl, rfl⟩ := stepA_some h
  have hmk := hp.mode _ (List.getElem_mem hk)
  have hfr := free_iff.1 hf
  refine ⟨⟨?_, fun g hg => ?_, hp.wish, fun a ha b hb hab => ?_⟩, .inl ⟨_, List.getElem_mem hk, rfl, hw⟩, fun j => ⟨?_, ?_⟩⟩
  · show (((Q.H.set k _).map (·.x)) ++ Q.W.map (·.x)).Nodup
    rw [ids_set hk (y := ⟨Q.H[k].x, Q.H[k].w, 0, Q.H[k].t⟩) rfl]; exact hp.ids
  · rcases mem_set hk hg with rfl | ⟨i, hi, -, rfl⟩
    · exact ⟨hmk.2 hw, fun h => absurd rfl h⟩
    · exact hp.mode _ (List.getElem_mem hi)
  · rcases mem_set hk ha with rfl | ⟨i, hi, hik, rfl⟩
    · rcases mem_set hk hb with rfl | ⟨i', hi', hik', rfl⟩
      · exact absurd rfl hab
      · exact (hfr _ (List.getElem_mem hi')).resolve_left fun e => hab e.symm
    · rcases mem_set hk hb with rfl | ⟨i', hi', hik', rfl⟩
      · show compatL Q.H[i].m Q.H[k].w = true
        rw [compat_symm (hp.mode _ (List.getElem_mem hi)).1 (hmk.2 hw)]
        exact (hfr _ (List.getElem_mem hi)).resolve_left hab
      · exact hp.tog _ (List.getElem_mem hi) _ (List.getElem_mem hi') hab
  · rintro (⟨g, hg, rfl, hgw⟩ | ⟨y, hy, rfl⟩)
    · rcases mem_set hk hg with rfl | ⟨i, hi, hik, rfl⟩
      · exact absurd rfl hgw
      · exact ⟨.inl ⟨_, List.getElem_mem hi, rfl, hgw⟩, ids_ne hp.hnd hi hk hik⟩
    · exact ⟨.inr ⟨y, hy, rfl⟩, fun e => hp.hw (List.getElem_mem hk) hy e.symm⟩
  · rintro ⟨⟨g, hg, rfl, hgw⟩ | ⟨y, hy, rfl⟩, hne⟩
    · obtain ⟨i, hi, rfl⟩ := List.mem_iff_getElem.1 hg
      exact .inl ⟨_, set_far hi (fun e => hne (by subst e; rfl)) _, rfl, hgw⟩
    · exact .inr ⟨y, hy, rfl⟩
theorem stepB_ok {Q Q1 : Qu} {x : Int} (hp : Pre Q) (h : stepB Q = some (Q1, x)) : Pre Q1 ∧ waitsIn x Q ∧ (∀ k, waitsIn k Q1 ↔ waitsIn k Q ∧ k ≠ x) ∧ wantL Q1.H = false := by
  obtain ⟨y, r, hW, hw, hf, rfl, rfl⟩ := stepB_some h
  have hfr := free_iff.1 hf
  have hy : y ∈ Q.W := by rw [hW]; exact List.mem_cons_self ..
  have hr : ∀ z ∈ r, z ∈ Q.W := fun z hz => by rw [hW]; exact List.mem_cons_of_mem _ hz
  have hym := hp.wish y hy
  have hids := hp.ids
  unfold idsQ at hids
  rw [hW, List.map_cons] at hids
  have hyr : ∀ z ∈ r, z.x ≠ y.x := fun z hz e => by
    have h1 := (List.nodup_append.1 hids).2.1
    rw [List.nodup_cons] at h1
    exact h1.1 (e ▸ List.mem_map.2 ⟨z, hz, rfl⟩)
  have hnw := want_false.1 hw
  have hmem : ∀ g, g ∈ Q.H ++ [(⟨y.x, y.m, 0, 0⟩ : Hd)] ↔ g ∈ Q.H ∨ g = ⟨y.x, y.m, 0, 0⟩ := fun g => by rw [List.mem_append, List.mem_singleton]
  refine ⟨⟨?_, fun g hg => ?_, fun z hz => hp.wish z (hr z hz), fun a ha b hb hab => ?_⟩, .inr ⟨y, hy, rfl⟩, fun j => ⟨?_, ?_⟩, want_false.2 fun g hg => ?_⟩
  · show ((Q.H ++ [(⟨y.x, y.m, 0, 0⟩ : Hd)]).map (·.x) ++ r.map (·.x)).Nodup
    rw [List.map_append, List.map_singleton, List.append_assoc]
    exact hids
  · rcases (hmem g).1 hg with h1 | rfl
    · exact hp.mode g h1
    · exact ⟨hym, fun h => absurd rfl h⟩
  · rcases (hmem a).1 ha with h1 | rfl
    · rcases (hmem b).1 hb with h2 | rfl
      · exact hp.tog a h1 b h2 hab
      · show compatL a.m y.m = true
        rw [compat_symm (hp.mode a h1).1 hym]
        exact (hfr a h1).resolve_left hab
    · rcases (hmem b).1 hb with h2 | rfl
      · exact (hfr b h2).resolve_left fun e => hab e.symm
      · exact absurd rfl hab
  · rintro (⟨g, hg, rfl, hgw⟩ | ⟨z, hz, rfl⟩)
    · rcases (hmem g).1 hg with h1 | rfl
      · exact absurd (hnw g h1) hgw
      · exact absurd rfl hgw
    · exact ⟨.inr ⟨z, hr z hz, rfl⟩, hyr z hz⟩
  · rintro ⟨⟨g, hg, rfl, hgw⟩ | ⟨z, hz, rfl⟩, hne⟩
    · exact absurd (hnw g hg) hgw
    · rw [hW] at hz
      rcases List.mem_cons.1 hz with rfl | hz
      · exact absurd rfl hne
      · exact .inr ⟨z, hz, rfl⟩
  · rcases (hmem g).1 hg with h1 | rfl
    · exact hnw g h1
    · rfl
theorem runsA_ok {Q Q' : Qu} {xs : List Int} (h : Runs stepA Q xs Q') (hp : Pre Q) : Pre Q' ∧ (∀ x ∈ xs, waitsIn x Q) ∧ (∀ k, waitsIn k Q' ↔ waitsIn k Q ∧ k ∉ xs) ∧ stepA Q' = none := by
  induction h with
  | stop h0 => exact ⟨hp, fun x hx => (by cases hx), fun k => by simp, h0⟩
  | step h0 hr ih =>
    obtain ⟨p1, w1, e1⟩ := stepA_ok hp h0
    obtain ⟨p2, w2, e2, n2⟩ := ih p1
    refine ⟨p2, fun z hz => ?_, fun k => ?_, n2⟩
    · rcases List.mem_cons.1 hz with rfl | hz
      · exact w1
      · exact ((e1 z).1 (w2 z hz)).1
    · rw [e2 k, e1 k, List.mem_cons, not_or, and_assoc]
theorem runsB_ok {Q Q' : Qu} {xs : List Int} (h : Runs stepB Q xs Q') (hp : Pre Q) (hs : ∀ g ∈ Q.H, g.w ≠ 0 → freeL g.x g.w Q.H = false) : Ok Q' ∧ (∀ x ∈ xs, waitsIn x Q) ∧ (∀ k, waitsIn k Q' ↔ waitsIn k Q ∧ k ∉ xs) := by
  induction h with
  | stop h0 => exact ⟨⟨hp, hs, stepB_none h0⟩, fun x hx => (by cases hx), fun k => by simp⟩
  | step h0 hr ih =>
    obtain ⟨p1, w1, e1, n1⟩ := stepB_ok hp h0
    obtain ⟨p2, w2, e2⟩ := ih p1 fun g hg hw => absurd (want_false.1 n1 g hg) hw
    refine ⟨p2, fun z hz => ?_, fun k => ?_⟩
    · rcases List.mem_cons.1 hz with rfl | hz
      · exact w1
      · exact ((e1 z).1 (w2 z hz)).1
    · rw [e2 k, e1 k, List.mem_cons, not_or, and_assoc]
theorem gives_ok {Q Q' : Qu} {xs : List Int} (h : Gives Q xs Q') (hp : Pre Q) : Ok Q' ∧ (∀ x ∈ xs, waitsIn x Q) ∧ (∀ k, waitsIn k Q' ↔ waitsIn k Q ∧ k ∉ xs) := by
  obtain ⟨x1, x2, Q1, h1, h2, rfl⟩ := h
  obtain ⟨p1, w1, e1, n1⟩ := runsA_ok h1 hp
  obtain ⟨p2, w2, e2⟩ := runsB_ok h2 p1 (stepA_none n1)
  refine ⟨p2, fun x hx => ?_, fun k => ?_⟩
  · rcases List.mem_append.1 hx with h | h
    · exact w1 x h
    · exact ((e1 x).1 (w2 x h)).1
  · rw [e2 k, e1 k, List.mem_append, not_or, and_assoc]
theorem RelQ.ok {x : Int} {Q Q' : Qu} {xs : List Int} (h : RelQ x Q xs Q') (hq : Ok Q) : Ok Q' ∧ (∀ y ∈ xs, waitsIn y Q) ∧ (∀ k, waitsIn k Q' ↔ waitsIn k Q ∧ k ≠ x ∧ k ∉ xs) := by
  rcases h with ⟨-, h⟩ | ⟨h0, rfl, rfl⟩
  · obtain ⟨h1, h2, h3⟩ := gives_ok h (hq.pre.rem x)
    refine ⟨h1, fun y hy => (waits_rem.1 (h2 y hy)).1, fun k => ?_⟩
    rw [h3 k, waits_rem, and_assoc]
  · refine ⟨hq, fun y hy => (by cases hy), fun k => ?_⟩
    constructor
    · intro hk
      refine ⟨hk, fun e => ?_, by simp⟩
      subst e
      have : waitsIn k (remQ k Q') := by rw [remQ_none h0]; exact hk
      exact (waits_rem.1 this).2 rfl
    · exact fun h => h.1
end Go.Proofs.Ytileamjmhhifaaa
