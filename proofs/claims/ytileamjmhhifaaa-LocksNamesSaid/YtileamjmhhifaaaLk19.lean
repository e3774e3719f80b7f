/-
  Layer 9 (locks): a table as values; the contracts in these terms.
-/
import Derived.Test.YtileamjmhhifaaaLk18
namespace Go.Proofs.Ytileamjmhhifaaa
open Go.RowKit Go.Joins Go.Sort Go.Shelf
set_option linter.unusedVariables false
set_option linter.unusedSimpArgs false

/-! ## giving is a function -/
theorem Runs.det {s : Qu → Option (Qu × Int)} {Q : Qu} {xs : List Int} {Q1 : Qu} (h : Runs s Q xs Q1) : ∀ {ys : List Int} {Q2 : Qu}, Runs s Q ys Q2 → xs = ys ∧ Q1 = Q2 := by
  induction h with
  | stop h0 =>
    intro ys Q2 k
    cases k with
    | stop _ => exact ⟨rfl, rfl⟩
    | step h1 _ => rw [h0] at h1; cases h1
  | step h0 hr ih =>
    intro ys Q2 k
    cases k with
    | stop h1 => rw [h1] at h0; cases h0
    | step h1 k1 =>
      rw [h0] at h1
      simp only [Option.some.injEq, Prod.mk.injEq] at h1
      obtain ⟨rfl, rfl⟩ := h1
      obtain ⟨e1, e2⟩ := ih k1
      exact ⟨by rw [e1], e2⟩
theorem Gives.det {Q Q1 Q2 : Qu} {xs ys : List Int} (h : Gives Q xs Q1) (k : Gives Q ys Q2) : xs = ys ∧ Q1 = Q2 := by
  obtain ⟨a1, a2, P1, h1, h2, rfl⟩ := h
  obtain ⟨b1, b2, P2, k1, k2, rfl⟩ := k
  obtain ⟨rfl, rfl⟩ := h1.det k1
  obtain ⟨rfl, rfl⟩ := h2.det k2
  exact ⟨rfl, rfl⟩
theorem RelQ.det {x : Int} {Q Q1 Q2 : Qu} {xs ys : List Int} (h : RelQ x Q xs Q1) (k : RelQ x Q ys Q2) : xs = ys ∧ Q1 = Q2 := by
  rcases h with ⟨h0, h1⟩ | ⟨h0, rfl, rfl⟩
  · rcases k with ⟨_, k1⟩ | ⟨k0, -⟩
    · exact h1.det k1
    · rw [h0] at k0; cases k0
  · rcases k with ⟨k0, -⟩ | ⟨_, rfl, rfl⟩
    · rw [h0] at k0; cases k0
    · exact ⟨rfl, rfl⟩
def sizeQ (Q : Qu) : Nat := Q.H.length + Q.W.length
theorem stepA_size {Q Q1 : Qu} {x : Int} (h : stepA Q = some (Q1, x)) : sizeQ Q1 = sizeQ Q := by
  unfold stepA at h
  cases hb : bestQ Q.H with
  | none => rw [hb] at h; cases h
  | some k =>
    rw [hb] at h
    simp only [Option.some.injEq, Prod.mk.injEq] at h
    rw [← h.1]
    simp [sizeQ]
theorem stepB_size {Q Q1 : Qu} {x : Int} (h : stepB Q = some (Q1, x)) : sizeQ Q1 = sizeQ Q := by
  obtain ⟨H, W⟩ := Q
  cases W with
  | nil => cases h
  | cons y r =>
    unfold stepB at h
    simp only at h
    split at h
    · simp only [Option.some.injEq, Prod.mk.injEq] at h
      rw [← h.1]
      simp [sizeQ]; omega
    · cases h
theorem Runs.size {s : Qu → Option (Qu × Int)} (hs : ∀ {Q Q1 : Qu} {x : Int}, s Q = some (Q1, x) → sizeQ Q1 = sizeQ Q) {Q Q' : Qu} {xs : List Int} (h : Runs s Q xs Q') : sizeQ Q' = sizeQ Q := by
  induction h with
  | stop _ => rfl
  | step h0 _ ih => rw [ih, hs h0]
theorem Gives.size {Q Q' : Qu} {xs : List Int} (h : Gives Q xs Q') : sizeQ Q' = sizeQ Q := by
  obtain ⟨a, b, Q1, h1, h2, -⟩ := h
  rw [h2.size stepB_size, h1.size stepA_size]
theorem RelQ.size {x : Int} {Q Q' : Qu} {xs : List Int} (h : RelQ x Q xs Q') : sizeQ Q' ≤ sizeQ Q := by
  rcases h with ⟨_, h⟩ | ⟨_, rfl, _⟩
  · rw [h.size]; exact remQ_le x Q
  · exact Nat.le_refl _
theorem askQ_size (Q : Qu) (x m t : Int) : sizeQ (askQ Q x m t).1 ≤ sizeQ Q + 1 := by
  unfold askQ
  split
  · dsimp only
    split
    · simp
    · split <;> simp [sizeQ]
  · split <;> simp [sizeQ] <;> omega
theorem askQ_turn (Q : Qu) (x m t : Int) : t ≤ (askQ Q x m t).2.2 ∧ (askQ Q x m t).2.2 ≤ t + 1 := by
  have h0 : t ≤ t ∧ t ≤ t + 1 := ⟨Int.le_refl _, by omega⟩
  have h1 : t ≤ t + 1 ∧ t + 1 ≤ t + 1 := ⟨by omega, Int.le_refl _⟩
  unfold askQ
  split
  · dsimp only
    split
    · exact h0
    · split
      · exact h0
      · exact h1
  · split
    · exact h0
    · exact h0

/-! ## a table as values -/
structure LS where
  q : Nm → Qu
  wt : Int → Bool
  turn : Int
def LS.empty : LS := ⟨fun _ => ⟨[], []⟩, fun _ => false, 0⟩
def LT (w : World) (B t : Nat) (O : Nat → Prop) (S : LS) (N : Nat) : Prop :=
  ∃ nb wb M E Wt, TabAt w B t nb wb S.turn M E Wt ∧ (∀ n, qOf M E n = S.q n) ∧ (∀ k, k ∈ keysM Wt ↔ S.wt k = true) ∧ M.length ≤ N ∧ (∀ n, sizeQ (S.q n) ≤ N) ∧ (∀ i, O i ↔ Own t nb wb M E i) ∧ 0 ≤ S.turn ∧ S.turn ≤ N
/-- what Ask makes of it -/
def askS (S : LS) (x : Int) (n : Nm) (m : Int) : LS :=
  ⟨fun k => if k = n then (askQ (S.q n) x m S.turn).1 else S.q k, fun k => S.wt k || (!(askQ (S.q n) x m S.turn).2.1 && k == x), (askQ (S.q n) x m S.turn).2.2⟩
/-- what Release makes of it -/
def RelS (x : Int) (S S' : LS) : Prop :=
  S'.turn = S.turn ∧ ∃ ys : List Int, (∀ n, ∃ xs, RelQ x (S.q n) xs (S'.q n) ∧ ∀ k ∈ xs, k ∈ ys) ∧ (∀ k ∈ ys, ∃ n xs, RelQ x (S.q n) xs (S'.q n) ∧ k ∈ xs) ∧ ∀ k, S'.wt k = true ↔ S.wt k = true ∧ k ≠ x ∧ k ∉ ys
/-- how a call leaves what is not the table's, and what the table has behind it -/
def Kept (O O' : Nat → Prop) (w w' : World) : Prop := Moved O w w' ∧ ∀ i, O' i → O i ∨ w.heap.size ≤ i
section
variable {w w' : World} {B t : Nat} {O : Nat → Prop} {S : LS} {N : Nat}
theorem LT.lt (h : LT w B t O S N) {i : Nat} (hi : O i) : B ≤ i ∧ i < w.heap.size := by
  obtain ⟨nb, wb, M, E, Wt, h1, -, -, -, -, ho, -⟩ := h
  exact h1.lt ((ho i).1 hi)
theorem LT.keep (h : LT w B t O S N) (hk : ∀ i, O i → w'.heap[i]? = w.heap[i]?) : LT w' B t O S N := by
  obtain ⟨nb, wb, M, E, Wt, h1, h2, h3, h4, h5, ho, h6⟩ := h
  exact ⟨nb, wb, M, E, Wt, h1.keep fun i hi => hk i ((ho i).2 hi), h2, h3, h4, h5, ho, h6⟩
theorem LT.below (h : LT w B t O S N) (hb : Below w.heap.size w w') : LT w' B t O S N := h.keep fun i hi => hb.block i (h.lt hi).2
theorem LT.mono (h : LT w B t O S N) {N' : Nat} (hN : N ≤ N') : LT w B t O S N' := by
  obtain ⟨nb, wb, M, E, Wt, h1, h2, h3, h4, h5, ho, h6, h7⟩ := h
  exact ⟨nb, wb, M, E, Wt, h1, h2, h3, by omega, fun n => Nat.le_trans (h5 n) hN, ho, h6, by omega⟩
theorem Kept.low {O' : Nat → Prop} (h : Kept O O' w w') (hO : ∀ i, O i → B ≤ i) (hB : B ≤ w.heap.size) : Below B w w' := h.1.toBelow hB hO
theorem lt_new (w : World) : Calls Try.prog 10 #[] w fun e w' => ∃ t O, e = .returned (.pointer (some ⟨t, 0, none⟩)) ∧ LT w' w.heap.size t O LS.empty 0 ∧ Below w.heap.size w w' := by
  refine (new_any w).mono ?_
  rintro e w' ⟨rfl, h1, h2⟩
  exact ⟨_, _, rfl, ⟨_, _, _, _, _, h1, fun n => rfl, fun k => by simp [keysM, LS.empty], Nat.le_refl _, fun n => Nat.le_refl _, fun i => Iff.rfl, by simp [LS.empty], by simp [LS.empty]⟩, h2⟩
theorem lt_waiting (h : LT w B t O S N) (x : Int) : Calls Try.prog 14 #[.pointer (some ⟨t, 0, none⟩), .int .i64 x] w fun e w' => e = .returned (.bool (S.wt x)) ∧ Below w.heap.size w w' := by
  obtain ⟨nb, wb, M, E, Wt, h1, h2, h3, h4, h5, ho, h6⟩ := h
  refine (waiting_any h1 x).mono ?_
  rintro e w' ⟨rfl, hb⟩
  refine ⟨?_, hb⟩
  have e : decide (x ∈ keysM Wt) = S.wt x := by
    cases hq : S.wt x with
    | true => exact decide_eq_true ((h3 x).2 hq)
    | false => exact decide_eq_false fun hh => by rw [(h3 x).1 hh] at hq; cases hq
  rw [e]
theorem lt_mode (h : LT w B t O S N) (x : Int) (n : Nm) : Calls Try.prog 13 #[.pointer (some ⟨t, 0, none⟩), .int .i64 x, n.v] w fun e w' => e = .returned (.int .i64 (modeL x (S.q n).H)) ∧ Below w.heap.size w w' := by
  obtain ⟨nb, wb, M, E, Wt, h1, h2, h3, h4, h5, ho, h6⟩ := h
  rw [← h2 n]
  exact mode_any h1 x n
theorem lt_busy (h : LT w B t O S N) (x m : Int) (n : Nm) (h0 : 0 < m) (h6 : m ≤ 6) (hx : S.wt x = true) : Calls Try.prog 11 #[.pointer (some ⟨t, 0, none⟩), .int .i64 x, n.v, .int .i64 m] w fun e w' => e = .returned (.tuple #[.bool false, .int .i64 211]) ∧ Below w.heap.size w w' := by
  obtain ⟨nb, wb, M, E, Wt, h1, h2, h3, -⟩ := h
  exact ask_busy h1 x m n h0 h6 ((h3 x).2 hx)
theorem lt_ask (h : LT w B t O S N) (hN : N ≤ 1000) (x m : Int) (n : Nm) (h0 : 0 < m) (h6 : m ≤ 6) (hx : S.wt x = false) : Calls Try.prog 11 #[.pointer (some ⟨t, 0, none⟩), .int .i64 x, n.v, .int .i64 m] w fun e w' => e = .returned (.tuple #[.bool (askQ (S.q n) x m S.turn).2.1, .int .i64 0]) ∧ ∃ O', LT w' B t O' (askS S x n m) (N + 1) ∧ Kept O O' w w' := by
  obtain ⟨nb, wb, M, E, Wt, h1, h2, h3, h4, h5, ho, h7, h8⟩ := h
  have hx' : x ∉ keysM Wt := fun hh => by rw [(h3 x).1 hh] at hx; cases hx
  have key : Calls Try.prog 11 #[.pointer (some ⟨t, 0, none⟩), .int .i64 x, n.v, .int .i64 m] w fun e w' => e = .returned (.tuple #[.bool (askQ (qOf M E n) x m S.turn).2.1, .int .i64 0]) ∧
      ∃ M' E' Wt', TabAt w' B t nb wb (askQ (qOf M E n) x m S.turn).2.2 M' E' Wt' ∧ qOf M' E' n = (askQ (qOf M E n) x m S.turn).1 ∧ (∀ k, k ≠ n → qOf M' E' k = qOf M E k) ∧ (∀ k, k ∈ keysM Wt' ↔ k ∈ keysM Wt ∨ ((askQ (qOf M E n) x m S.turn).2.1 = false ∧ k = x)) ∧ Moved (Own t nb wb M E) w w' ∧ (∀ i, Own t nb wb M' E' i → Own t nb wb M E i ∨ w.heap.size ≤ i) ∧ M'.length ≤ M.length + 1 := by
    by_cases hn : n ∈ keysM M
    · exact ask_old h1 x m n h0 h6 hx' hn (by have := h5 n; rw [h2 n]; unfold sizeQ at this; omega) ⟨h7, by omega⟩
    · exact ask_new h1 x m n h0 h6 hx' hn
  rw [h2 n] at key
  refine key.mono ?_
  rintro e w' ⟨rfl, M', E', Wt', k1, k2, k3, k4, k5, k6, k7⟩
  have ht := askQ_turn (S.q n) x m S.turn
  refine ⟨rfl, Own t nb wb M' E', ⟨nb, wb, M', E', Wt', k1, fun k => ?_, fun k => ?_, by omega, fun k => ?_, fun i => Iff.rfl, ?_, ?_⟩, k5.mono fun i _ h => (ho i).2 h, fun i hi => (k6 i hi).imp (ho i).2 id⟩
  · by_cases e : k = n
    · subst e; simp only [askS, if_true]; exact k2
    · simp only [askS, if_neg e]; rw [k3 k e, h2 k]
  · rw [k4 k, h3 k]
    simp [askS]
  · by_cases e : k = n
    · subst e
      simp only [askS, if_true]
      exact Nat.le_trans (askQ_size _ _ _ _) (Nat.succ_le_succ (h5 k))
    · simp only [askS, if_neg e]
      exact Nat.le_trans (h5 k) (Nat.le_succ N)
  · exact Int.le_trans h7 ht.1
  · show (askQ (S.q n) x m S.turn).2.2 ≤ ((N + 1 : Nat) : Int)
    omega
theorem lt_release (h : LT w B t O S N) (hN : N ≤ 1000) (x : Int) : Calls Try.prog 12 #[.pointer (some ⟨t, 0, none⟩), .int .i64 x] w fun e w' => e = .returned (.tuple #[]) ∧ ∃ S' O', RelS x S S' ∧ LT w' B t O' S' N ∧ Kept O O' w w' := by
  obtain ⟨nb, wb, M, E, Wt, h1, h2, h3, h4, h5, ho, h7, h8⟩ := h
  refine (release_any h1 x fun n => by rw [h2 n]; have := h5 n; unfold sizeQ at this; omega).mono ?_
  rintro e w' ⟨rfl, M', E', Wt', ys, k1, k2, k3, k4, k5, k6, k7⟩
  have hq : ∀ n, ∃ xs, RelQ x (S.q n) xs (qOf M' E' n) ∧ ∀ k ∈ xs, k ∈ ys := fun n => by rw [← h2 n]; exact k2 n
  refine ⟨rfl, ⟨qOf M' E', fun k => decide (k ∈ keysM Wt'), S.turn⟩, Own t nb wb M' E', ⟨rfl, ys, hq, fun k hk => ?_, fun k => ?_⟩, ⟨nb, wb, M', E', Wt', k1, fun _ => rfl, fun k => by simp, by omega, fun n => ?_, fun i => Iff.rfl, h7, h8⟩, k5.mono fun i _ h => (ho i).2 h, fun i hi => (k6 i hi).imp (ho i).2 id⟩
  · obtain ⟨n, xs, q1, q2⟩ := k3 k hk
    exact ⟨n, xs, by rw [← h2 n]; exact q1, q2⟩
  · simp only [decide_eq_true_eq]
    rw [k4 k, h3 k]
  · obtain ⟨xs, q1, -⟩ := hq n
    exact Nat.le_trans q1.size (h5 n)
theorem lt_arcs (h : LT w B t O S N) (hN : N ≤ 1000) : Calls Try.prog 18 #[.pointer (some ⟨t, 0, none⟩)] w fun e w' => ∃ (v : Value) (A : List Pr), e = .returned v ∧ w'.ownsRow w.heap.size 48 2 v A.length (arRow A) ∧ A.Pairwise ltP ∧ (∀ p, p ∈ A ↔ ∃ n, p ∈ arcsQ (S.q n)) ∧ Below w.heap.size w w' := by
  obtain ⟨nb, wb, M, E, Wt, h1, h2, h3, h4, h5, ho, h7, h8⟩ := h
  refine (arcs_any h1 (by omega) fun n => by rw [h2 n]; have := h5 n; unfold sizeQ at this; omega).mono ?_
  rintro e w' ⟨v, A, rfl, k1, k2, k3, k4⟩
  refine ⟨v, A, rfl, k1, k2, fun p => ?_, k4⟩
  rw [k3 p]
  constructor
  · rintro ⟨n, hn⟩; exact ⟨n, by rw [← h2 n]; exact hn⟩
  · rintro ⟨n, hn⟩; exact ⟨n, by rw [h2 n]; exact hn⟩
end
/-- two rising lists with the same members -/
theorem rising_ext : ∀ {A C : List Pr}, A.Pairwise ltP → C.Pairwise ltP → (∀ p, p ∈ A ↔ p ∈ C) → A = C
  | [], [], _, _, _ => rfl
  | [], y :: s, _, _, h => by have := (h y).2 (List.mem_cons_self ..); cases this
  | x :: r, [], _, _, h => by have := (h x).1 (List.mem_cons_self ..); cases this
  | x :: r, y :: s, ha, hc, h => by
    obtain ⟨a1, a2⟩ := List.pairwise_cons.1 ha
    obtain ⟨c1, c2⟩ := List.pairwise_cons.1 hc
    have hxy : x = y := by
      rcases List.mem_cons.1 ((h x).1 (List.mem_cons_self ..)) with e | e
      · exact e
      rcases List.mem_cons.1 ((h y).2 (List.mem_cons_self ..)) with e' | e'
      · exact e'.symm
      have h1 := c1 x e
      have h2 := a1 y e'
      unfold ltP at h1 h2; omega
    subst hxy
    have irr : ∀ p : Pr, ¬ ltP p p := fun p h => by unfold ltP at h; omega
    rw [rising_ext a2 c2 fun p => ?_]
    constructor
    · intro hp
      rcases List.mem_cons.1 ((h p).1 (List.mem_cons_of_mem _ hp)) with e | e
      · subst e; exact absurd (a1 p hp) (irr p)
      · exact e
    · intro hp
      rcases List.mem_cons.1 ((h p).2 (List.mem_cons_of_mem _ hp)) with e | e
      · subst e; exact absurd (c1 p hp) (irr p)
      · exact e
end Go.Proofs.Ytileamjmhhifaaa
