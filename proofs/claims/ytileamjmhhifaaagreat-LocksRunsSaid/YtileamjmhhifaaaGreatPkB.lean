/-
  Several texts in one: Lk19, Lk20, Lk21, Lp1, Lp2.
-/
import Derived.Test.YtileamjmhhifaaaGreatPkA
namespace Go.Proofs.YtileamjmhhifaaaGreat
/-!
  Layer 9 (locks): a table as values; the contracts in these terms.
-/
section
open Go.RowKit Go.Joins Go.Sort Go.Shelf
set_option linter.unusedVariables false
set_option linter.unusedSimpArgs false

/-! ## giving is a function -/
theorem Runs.det {s : Qu → Option (Qu × Int)} {Q : Qu} {xs : List Int} {Q1 : Qu} (h : Runs s Q xs Q1) : ∀ {ys : List Int} {Q2 : Qu}, Runs s Q ys Q2 → xs = ys ∧ Q1 = Q2 := by
  induction h with
  | stop h0 =>
    intro ys Q2 k
    cases k with
    | stop _ => exact ⟨rfl, rfl⟩
    | step h1 _ => rw [h0] at h1; cases h1
  | step h0 hr ih =>
    intro ys Q2 k
    cases k with
    | stop h1 => rw [h1] at h0; cases h0
    | step h1 k1 =>
      rw [h0] at h1
      simp only [Option.some.injEq, Prod.mk.injEq] at h1
      obtain ⟨rfl, rfl⟩ := h1
      obtain ⟨e1, e2⟩ := ih k1
      exact ⟨by rw [e1], e2⟩
theorem Gives.det {Q Q1 Q2 : Qu} {xs ys : List Int} (h : Gives Q xs Q1) (k : Gives Q ys Q2) : xs = ys ∧ Q1 = Q2 := by
  obtain ⟨a1, a2, P1, h1, h2, rfl⟩ := h
  obtain ⟨b1, b2, P2, k1, k2, rfl⟩ := k
  obtain ⟨rfl, rfl⟩ := h1.det k1
  obtain ⟨rfl, rfl⟩ := h2.det k2
  exact ⟨rfl, rfl⟩
theorem RelQ.det {x : Int} {Q Q1 Q2 : Qu} {xs ys : List Int} (h : RelQ x Q xs Q1) (k : RelQ x Q ys Q2) : xs = ys ∧ Q1 = Q2 := by
  rcases h with ⟨h0, h1⟩ | ⟨h0, rfl, rfl⟩
  · rcases k with ⟨_, k1⟩ | ⟨k0, -⟩
    · exact h1.det k1
    · rw [h0] at k0; cases k0
  · rcases k with ⟨k0, -⟩ | ⟨_, rfl, rfl⟩
    · rw [h0] at k0; cases k0
    · exact ⟨rfl, rfl⟩
def sizeQ (Q : Qu) : Nat := Q.H.length + Q.W.length
theorem stepA_size {Q Q1 : Qu} {x : Int} (h : stepA Q = some (Q1, x)) : sizeQ Q1 = sizeQ Q := by
  unfold stepA at h
  cases hb : bestQ Q.H with
  | none => rw [hb] at h; cases h
  | some k =>
    rw [hb] at h
    simp only [Option.some.injEq, Prod.mk.injEq] at h
    rw [← h.1]
    simp [sizeQ]
theorem stepB_size {Q Q1 : Qu} {x : Int} (h : stepB Q = some (Q1, x)) : sizeQ Q1 = sizeQ Q := by
  obtain ⟨H, W⟩ := Q
  cases W with
  | nil => cases h
  | cons y r =>
    unfold stepB at h
    simp only at h
    split at h
    · simp only [Option.some.injEq, Prod.mk.injEq] at h
      rw [← h.1]
      simp [sizeQ]; omega
    · cases h
theorem Runs.size {s : Qu → Option (Qu × Int)} (hs : ∀ {Q Q1 : Qu} {x : Int}, s Q = some (Q1, x) → sizeQ Q1 = sizeQ Q) {Q Q' : Qu} {xs : List Int} (h : Runs s Q xs Q') : sizeQ Q' = sizeQ Q := by
  induction h with
  | stop _ => rfl
  | step h0 _ ih => rw [ih, hs h0]
theorem Gives.size {Q Q' : Qu} {xs : List Int} (h : Gives Q xs Q') : sizeQ Q' = sizeQ Q := by
  obtain ⟨a, b, Q1, h1, h2, -⟩ := h
  rw [h2.size stepB_size, h1.size stepA_size]
theorem RelQ.size {x : Int} {Q Q' : Qu} {xs : List Int} (h : RelQ x Q xs Q') : sizeQ Q' ≤ sizeQ Q := by
  rcases h with ⟨_, h⟩ | ⟨_, rfl, _⟩
  · rw [h.size]; exact remQ_le x Q
  · exact Nat.le_refl _
theorem askQ_size (Q : Qu) (x m t : Int) : sizeQ (askQ Q x m t).1 ≤ sizeQ Q + 1 := by
  unfold askQ
  split
  · dsimp only
    split
    · simp
    · split <;> simp [sizeQ]
  · split <;> simp [sizeQ] <;> omega
theorem askQ_turn (Q : Qu) (x m t : Int) : t ≤ (askQ Q x m t).2.2 ∧ (askQ Q x m t).2.2 ≤ t + 1 := by
  have h0 : t ≤ t ∧ t ≤ t + 1 := ⟨Int.le_refl _, by omega⟩
  have h1 : t ≤ t + 1 ∧ t + 1 ≤ t + 1 := ⟨by omega, Int.le_refl _⟩
  unfold askQ
  split
  · dsimp only
    split
    · exact h0
    · split
      · exact h0
      · exact h1
  · split
    · exact h0
    · exact h0

/-! ## a table as values -/
structure LS where
  q : Nm → Qu
  wt : Int → Bool
  turn : Int
def LS.empty : LS := ⟨fun _ => ⟨[], []⟩, fun _ => false, 0⟩
def LT (w : World) (B t : Nat) (O : Nat → Prop) (S : LS) (N : Nat) : Prop :=
  ∃ nb wb M E Wt, TabAt w B t nb wb S.turn M E Wt ∧ (∀ n, qOf M E n = S.q n) ∧ (∀ k, k ∈ keysM Wt ↔ S.wt k = true) ∧ M.length ≤ N ∧ (∀ n, sizeQ (S.q n) ≤ N) ∧ (∀ i, O i ↔ Own t nb wb M E i) ∧ 0 ≤ S.turn ∧ S.turn ≤ N
/-- what Ask makes of it -/
def askS (S : LS) (x : Int) (n : Nm) (m : Int) : LS :=
  ⟨fun k => if k = n then (askQ (S.q n) x m S.turn).1 else S.q k, fun k => S.wt k || (!(askQ (S.q n) x m S.turn).2.1 && k == x), (askQ (S.q n) x m S.turn).2.2⟩
/-- what Release makes of it -/
def RelS (x : Int) (S S' : LS) : Prop :=
  S'.turn = S.turn ∧ ∃ ys : List Int, (∀ n, ∃ xs, RelQ x (S.q n) xs (S'.q n) ∧ ∀ k ∈ xs, k ∈ ys) ∧ (∀ k ∈ ys, ∃ n xs, RelQ x (S.q n) xs (S'.q n) ∧ k ∈ xs) ∧ ∀ k, S'.wt k = true ↔ S.wt k = true ∧ k ≠ x ∧ k ∉ ys
/-- how a call leaves what is not the table's, and what the table has behind it -/
def Kept (O O' : Nat → Prop) (w w' : World) : Prop := Moved O w w' ∧ ∀ i, O' i → O i ∨ w.heap.size ≤ i
section
variable {w w' : World} {B t : Nat} {O : Nat → Prop} {S : LS} {N : Nat}
theorem LT.lt (h : LT w B t O S N) {i : Nat} (hi : O i) : B ≤ i ∧ i < w.heap.size := by
  obtain ⟨nb, wb, M, E, Wt, h1, -, -, -, -, ho, -⟩ := h
  exact h1.lt ((ho i).1 hi)
theorem LT.keep (h : LT w B t O S N) (hk : ∀ i, O i → w'.heap[i]? = w.heap[i]?) : LT w' B t O S N := by
  obtain ⟨nb, wb, M, E, Wt, h1, h2, h3, h4, h5, ho, h6⟩ := h
  exact ⟨nb, wb, M, E, Wt, h1.keep fun i hi => hk i ((ho i).2 hi), h2, h3, h4, h5, ho, h6⟩
theorem LT.below (h : LT w B t O S N) (hb : Below w.heap.size w w') : LT w' B t O S N := h.keep fun i hi => hb.block i (h.lt hi).2
theorem LT.mono (h : LT w B t O S N) {N' : Nat} (hN : N ≤ N') : LT w B t O S N' := by
  obtain ⟨nb, wb, M, E, Wt, h1, h2, h3, h4, h5, ho, h6, h7⟩ := h
  exact ⟨nb, wb, M, E, Wt, h1, h2, h3, by omega, fun n => Nat.le_trans (h5 n) hN, ho, h6, by omega⟩
theorem Kept.low {O' : Nat → Prop} (h : Kept O O' w w') (hO : ∀ i, O i → B ≤ i) (hB : B ≤ w.heap.size) : Below B w w' := h.1.toBelow hB hO
theorem lt_new (w : World) : Calls Tryz.prog 5 #[] w fun e w' => ∃ t O, e = .returned (.pointer (some ⟨t, 0, none⟩)) ∧ LT w' w.heap.size t O LS.empty 0 ∧ Below w.heap.size w w' := by
  refine (new_any w).mono ?_
  rintro e w' ⟨rfl, h1, h2⟩
  exact ⟨_, _, rfl, ⟨_, _, _, _, _, h1, fun n => rfl, fun k => by simp [keysM, LS.empty], Nat.le_refl _, fun n => Nat.le_refl _, fun i => Iff.rfl, by simp [LS.empty], by simp [LS.empty]⟩, h2⟩
theorem lt_waiting (h : LT w B t O S N) (x : Int) : Calls Tryz.prog 12 #[.pointer (some ⟨t, 0, none⟩), .int .i64 x] w fun e w' => e = .returned (.bool (S.wt x)) ∧ Below w.heap.size w w' := by
  obtain ⟨nb, wb, M, E, Wt, h1, h2, h3, h4, h5, ho, h6⟩ := h
  refine (waiting_any h1 x).mono ?_
  rintro e w' ⟨rfl, hb⟩
  refine ⟨?_, hb⟩
  have e : decide (x ∈ keysM Wt) = S.wt x := by
    cases hq : S.wt x with
    | true => exact decide_eq_true ((h3 x).2 hq)
    | false => exact decide_eq_false fun hh => by rw [(h3 x).1 hh] at hq; cases hq
  rw [e]
theorem lt_mode (h : LT w B t O S N) (x : Int) (n : Nm) : Calls Tryz.prog 10 #[.pointer (some ⟨t, 0, none⟩), .int .i64 x, n.v] w fun e w' => e = .returned (.int .i64 (modeL x (S.q n).H)) ∧ Below w.heap.size w w' := by
  obtain ⟨nb, wb, M, E, Wt, h1, h2, h3, h4, h5, ho, h6⟩ := h
  rw [← h2 n]
  exact mode_any h1 x n
theorem lt_busy (h : LT w B t O S N) (x m : Int) (n : Nm) (h0 : 0 < m) (h6 : m ≤ 6) (hx : S.wt x = true) : Calls Tryz.prog 8 #[.pointer (some ⟨t, 0, none⟩), .int .i64 x, n.v, .int .i64 m] w fun e w' => e = .returned (.tuple #[.bool false, .int .i64 211]) ∧ Below w.heap.size w w' := by
  obtain ⟨nb, wb, M, E, Wt, h1, h2, h3, -⟩ := h
  exact ask_busy h1 x m n h0 h6 ((h3 x).2 hx)
theorem lt_ask (h : LT w B t O S N) (hN : N ≤ 1000) (x m : Int) (n : Nm) (h0 : 0 < m) (h6 : m ≤ 6) (hx : S.wt x = false) : Calls Tryz.prog 8 #[.pointer (some ⟨t, 0, none⟩), .int .i64 x, n.v, .int .i64 m] w fun e w' => e = .returned (.tuple #[.bool (askQ (S.q n) x m S.turn).2.1, .int .i64 0]) ∧ ∃ O', LT w' B t O' (askS S x n m) (N + 1) ∧ Kept O O' w w' := by
  obtain ⟨nb, wb, M, E, Wt, h1, h2, h3, h4, h5, ho, h7, h8⟩ := h
  have hx' : x ∉ keysM Wt := fun hh => by rw [(h3 x).1 hh] at hx; cases hx
  have key : Calls Tryz.prog 8 #[.pointer (some ⟨t, 0, none⟩), .int .i64 x, n.v, .int .i64 m] w fun e w' => e = .returned (.tuple #[.bool (askQ (qOf M E n) x m S.turn).2.1, .int .i64 0]) ∧
      ∃ M' E' Wt', TabAt w' B t nb wb (askQ (qOf M E n) x m S.turn).2.2 M' E' Wt' ∧ qOf M' E' n = (askQ (qOf M E n) x m S.turn).1 ∧ (∀ k, k ≠ n → qOf M' E' k = qOf M E k) ∧ (∀ k, k ∈ keysM Wt' ↔ k ∈ keysM Wt ∨ ((askQ (qOf M E n) x m S.turn).2.1 = false ∧ k = x)) ∧ Moved (Own t nb wb M E) w w' ∧ (∀ i, Own t nb wb M' E' i → Own t nb wb M E i ∨ w.heap.size ≤ i) ∧ M'.length ≤ M.length + 1 := by
    by_cases hn : n ∈ keysM M
    · exact ask_old h1 x m n h0 h6 hx' hn (by have := h5 n; rw [h2 n]; unfold sizeQ at this; omega) ⟨h7, by omega⟩
    · exact ask_new h1 x m n h0 h6 hx' hn
  rw [h2 n] at key
  refine key.mono ?_
  rintro e w' ⟨rfl, M', E', Wt', k1, k2, k3, k4, k5, k6, k7⟩
  have ht := askQ_turn (S.q n) x m S.turn
  refine ⟨rfl, Own t nb wb M' E', ⟨nb, wb, M', E', Wt', k1, fun k => ?_, fun k => ?_, by omega, fun k => ?_, fun i => Iff.rfl, ?_, ?_⟩, k5.mono fun i _ h => (ho i).2 h, fun i hi => (k6 i hi).imp (ho i).2 id⟩
  · by_cases e : k = n
    · subst e; simp only [askS, if_true]; exact k2
    · simp only [askS, if_neg e]; rw [k3 k e, h2 k]
  · rw [k4 k, h3 k]
    simp [askS]
  · by_cases e : k = n
    · subst e
      simp only [askS, if_true]
      exact Nat.le_trans (askQ_size _ _ _ _) (Nat.succ_le_succ (h5 k))
    · simp only [askS, if_neg e]
      exact Nat.le_trans (h5 k) (Nat.le_succ N)
  · exact Int.le_trans h7 ht.1
  · show (askQ (S.q n) x m S.turn).2.2 ≤ ((N + 1 : Nat) : Int)
    omega
theorem lt_release (h : LT w B t O S N) (hN : N ≤ 1000) (x : Int) : Calls Tryz.prog 6 #[.pointer (some ⟨t, 0, none⟩), .int .i64 x] w fun e w' => e = .returned (.tuple #[]) ∧ ∃ S' O', RelS x S S' ∧ LT w' B t O' S' N ∧ Kept O O' w w' := by
  obtain ⟨nb, wb, M, E, Wt, h1, h2, h3, h4, h5, ho, h7, h8⟩ := h
  refine (release_any h1 x fun n => by rw [h2 n]; have := h5 n; unfold sizeQ at this; omega).mono ?_
  rintro e w' ⟨rfl, M', E', Wt', ys, k1, k2, k3, k4, k5, k6, k7⟩
  have hq : ∀ n, ∃ xs, RelQ x (S.q n) xs (qOf M' E' n) ∧ ∀ k ∈ xs, k ∈ ys := fun n => by rw [← h2 n]; exact k2 n
  refine ⟨rfl, ⟨qOf M' E', fun k => decide (k ∈ keysM Wt'), S.turn⟩, Own t nb wb M' E', ⟨rfl, ys, hq, fun k hk => ?_, fun k => ?_⟩, ⟨nb, wb, M', E', Wt', k1, fun _ => rfl, fun k => by simp, by omega, fun n => ?_, fun i => Iff.rfl, h7, h8⟩, k5.mono fun i _ h => (ho i).2 h, fun i hi => (k6 i hi).imp (ho i).2 id⟩
  · obtain ⟨n, xs, q1, q2⟩ := k3 k hk
    exact ⟨n, xs, by rw [← h2 n]; exact q1, q2⟩
  · simp only [decide_eq_true_eq]
    rw [k4 k, h3 k]
  · obtain ⟨xs, q1, -⟩ := hq n
    exact Nat.le_trans q1.size (h5 n)
theorem lt_arcs (h : LT w B t O S N) (hN : N ≤ 1000) : Calls Tryz.prog 18 #[.pointer (some ⟨t, 0, none⟩)] w fun e w' => ∃ (v : Value) (A : List Pr), e = .returned v ∧ w'.ownsRow w.heap.size 86 2 v A.length (arRow A) ∧ A.Pairwise ltP ∧ (∀ p, p ∈ A ↔ ∃ n, p ∈ arcsQ (S.q n)) ∧ Below w.heap.size w w' := by
  obtain ⟨nb, wb, M, E, Wt, h1, h2, h3, h4, h5, ho, h7, h8⟩ := h
  refine (arcs_any h1 (by omega) fun n => by rw [h2 n]; have := h5 n; unfold sizeQ at this; omega).mono ?_
  rintro e w' ⟨v, A, rfl, k1, k2, k3, k4⟩
  refine ⟨v, A, rfl, k1, k2, fun p => ?_, k4⟩
  rw [k3 p]
  constructor
  · rintro ⟨n, hn⟩; exact ⟨n, by rw [← h2 n]; exact hn⟩
  · rintro ⟨n, hn⟩; exact ⟨n, by rw [h2 n]; exact hn⟩
end
/-- two rising lists with the same members -/
theorem rising_ext : ∀ {A C : List Pr}, A.Pairwise ltP → C.Pairwise ltP → (∀ p, p ∈ A ↔ p ∈ C) → A = C
  | [], [], _, _, _ => rfl
  | [], y :: s, _, _, h => by have := (h y).2 (List.mem_cons_self ..); cases this
  | x :: r, [], _, _, h => by have := (h x).1 (List.mem_cons_self ..); cases this
  | x :: r, y :: s, ha, hc, h => by
    obtain ⟨a1, a2⟩ := List.pairwise_cons.1 ha
    obtain ⟨c1, c2⟩ := List.pairwise_cons.1 hc
    have hxy : x = y := by
      rcases List.mem_cons.1 ((h x).1 (List.mem_cons_self ..)) with e | e
      · exact e
      rcases List.mem_cons.1 ((h y).2 (List.mem_cons_self ..)) with e' | e'
      · exact e'.symm
      have h1 := c1 x e
      have h2 := a1 y e'
      unfold ltP at h1 h2; omega
    subst hxy
    have irr : ∀ p : Pr, ¬ ltP p p := fun p h => by unfold ltP at h; omega
    rw [rising_ext a2 c2 fun p => ?_]
    constructor
    · intro hp
      rcases List.mem_cons.1 ((h p).1 (List.mem_cons_of_mem _ hp)) with e | e
      · subst e; exact absurd (a1 p hp) (irr p)
      · exact e
    · intro hp
      rcases List.mem_cons.1 ((h p).2 (List.mem_cons_of_mem _ hp)) with e | e
      · subst e; exact absurd (c1 p hp) (irr p)
      · exact e
end

/-!
  Layer 9 (locks): a law's own table; awake.
-/
section
open Go.RowKit Go.Joins Go.Sort Go.Shelf
set_option linter.unusedVariables false
set_option linter.unusedSimpArgs false

/-- a table of the law's own -/
structure LA (w0 w : World) (t : Nat) (O : Nat → Prop) (S : LS) (N : Nat) : Prop where
  lt : LT w w0.heap.size t O S N
  low : Below w0.heap.size w0 w
section
variable {w0 w w' : World} {t : Nat} {O O' : Nat → Prop} {S : LS} {N : Nat}
theorem LA.below (h : LA w0 w t O S N) (hb : Below w.heap.size w w') : LA w0 w' t O S N := ⟨h.lt.below hb, h.low.trans (hb.mono h.low.size)⟩
theorem LA.alloc (h : LA w0 w t O S N) (o : Obj) : LA w0 (w.alloc o) t O S N := h.below ((Below.refl _ _).alloc (Nat.le_refl _) o)
theorem LA.kept (h : LA w0 w t O S N) {S' : LS} {N' : Nat} (h2 : LT w' w0.heap.size t O' S' N') (hk : Kept O O' w w') : LA w0 w' t O' S' N' :=
  ⟨h2, h.low.trans (hk.low (fun i hi => (h.lt.lt hi).1) h.low.size)⟩
theorem Kept.block (h : Kept O O' w w') {i : Nat} (hl : i < w.heap.size) (hn : ¬ O i) : w'.heap[i]? = w.heap[i]? := h.1.block i hl hn
theorem Kept.not (h : Kept O O' w w') {i : Nat} (hl : i < w.heap.size) (hn : ¬ O i) : ¬ O' i := fun hi => (h.2 i hi).elim hn fun h => by omega
/-- a block of the law's own beside the table -/
structure Mine (w : World) (O : Nat → Prop) (i : Nat) (o : Obj) : Prop where
  at' : w.heap[i]? = some o
  out : ¬ O i
theorem Mine.lt {i : Nat} {o : Obj} (h : Mine w O i o) : i < w.heap.size := (Array.getElem?_eq_some_iff.1 h.at').1
theorem Mine.kept {i : Nat} {o : Obj} (h : Mine w O i o) (hk : Kept O O' w w') : Mine w' O' i o := ⟨(hk.block h.lt h.out).trans h.at', hk.not h.lt h.out⟩
theorem Mine.below {i : Nat} {o : Obj} (h : Mine w O i o) (hb : Below w.heap.size w w') : Mine w' O i o := ⟨(hb.block i h.lt).trans h.at', h.out⟩
theorem LA.mine (h : LA w0 w t O S N) (o : Obj) : Mine (w.alloc o) O w.heap.size o := ⟨heap_alloc_new w o, fun hi => by have := (h.lt.lt hi).2; omega⟩
theorem la_new {w0 w : World} (h : Below w0.heap.size w0 w) : Calls Tryz.prog 5 #[] w fun e w' => ∃ t O, e = .returned (.pointer (some ⟨t, 0, none⟩)) ∧ LA w0 w' t O LS.empty 0 ∧ Below w.heap.size w w' ∧ ∀ i, O i → w.heap.size ≤ i := by
  refine (new_any w).mono ?_
  rintro e w' ⟨rfl, h1, h2⟩
  have hz := h.size
  refine ⟨_, _, rfl, ⟨⟨_, _, _, _, _, ⟨h1.wait, h1.names, h1.ptr, fun n hn => (by cases hn), fun n hn => (by cases hn), h1.vals, by omega, by omega, by omega, h1.ne⟩, fun n => rfl, fun k => by simp [keysM, LS.empty], Nat.le_refl _, fun n => Nat.le_refl _, fun i => Iff.rfl, by simp [LS.empty], by simp [LS.empty]⟩, h.trans (h2.mono hz)⟩, h2, fun i hi => (h1.lt hi).1⟩
theorem la_ask (h : LA w0 w t O S N) (hN : N ≤ 1000) (x m : Int) (n : Nm) (h0 : 0 < m) (h6 : m ≤ 6) (hx : S.wt x = false) : Calls Tryz.prog 8 #[.pointer (some ⟨t, 0, none⟩), .int .i64 x, .agg #[.int .i64 n.s, .string n.i], .int .i64 m] w fun e w' => e = .returned (.tuple #[.bool (askQ (S.q n) x m S.turn).2.1, .int .i64 0]) ∧ ∃ O', LA w0 w' t O' (askS S x n m) (N + 1) ∧ Kept O O' w w' := by
  refine Calls.mono (lt_ask h.lt hN x m n h0 h6 hx) ?_
  rintro e w' ⟨rfl, O', h1, h2⟩
  exact ⟨rfl, O', h.kept h1 h2, h2⟩
theorem la_release (h : LA w0 w t O S N) (hN : N ≤ 1000) (x : Int) : Calls Tryz.prog 6 #[.pointer (some ⟨t, 0, none⟩), .int .i64 x] w fun e w' => e = .returned (.tuple #[]) ∧ ∃ S' O', RelS x S S' ∧ LA w0 w' t O' S' N ∧ Kept O O' w w' := by
  refine (lt_release h.lt hN x).mono ?_
  rintro e w' ⟨rfl, S', O', h0, h1, h2⟩
  exact ⟨rfl, S', O', h0, h.kept h1 h2, h2⟩
theorem la_mode (h : LA w0 w t O S N) (x : Int) (n : Nm) : Calls Tryz.prog 10 #[.pointer (some ⟨t, 0, none⟩), .int .i64 x, .agg #[.int .i64 n.s, .string n.i]] w fun e w' => e = .returned (.int .i64 (modeL x (S.q n).H)) ∧ Below w.heap.size w w' := lt_mode h.lt x n
end

/-! ## awake -/
def n1 : Nm := ⟨1, ⟨#[]⟩⟩
def q3 : Qu := ⟨[⟨1, 3, 0, 0⟩], [⟨2, 6⟩, ⟨3, 3⟩]⟩
def s3 : LS := askS (askS (askS LS.empty 1 n1 3) 2 n1 6) 3 n1 3
theorem s3_q (n : Nm) : s3.q n = if n = n1 then q3 else ⟨[], []⟩ := by
  by_cases h : n = n1
  · subst h; rw [if_pos rfl]; decide
  · rw [if_neg h]
    simp only [s3, askS, if_neg h]
    rfl
theorem s3_wt : s3.wt 3 = true := by decide
theorem q3_arcs : arcsQ q3 = [(2, 1), (3, 2)] := by decide
theorem q3_gives : Gives (remQ 1 q3) [2] ⟨[⟨2, 6, 0, 0⟩], [⟨3, 3⟩]⟩ :=
  ⟨[], [2], _, .stop (by decide), .step (Q1 := ⟨[⟨2, 6, 0, 0⟩], [⟨3, 3⟩]⟩) (by decide) (.stop (by decide)), rfl⟩
theorem q3_rel {xs : List Int} {Q' : Qu} (h : RelQ 1 q3 xs Q') : xs = [2] ∧ Q' = ⟨[⟨2, 6, 0, 0⟩], [⟨3, 3⟩]⟩ :=
  h.det (.inl ⟨by decide, q3_gives⟩)
theorem RelQ.nil {x : Int} {xs : List Int} {Q' : Qu} (h : RelQ x ⟨[], []⟩ xs Q') : xs = [] ∧ Q' = ⟨[], []⟩ := h.det (RelQ.empty x)
theorem s3_rel {S' : LS} (h : RelS 1 s3 S') : (S'.q n1).H = [⟨2, 6, 0, 0⟩] ∧ S'.wt 3 = true := by
  obtain ⟨-, ys, h1, h2, h3⟩ := h
  have hn : ∀ n xs, RelQ 1 (s3.q n) xs (S'.q n) → ∀ k ∈ xs, k = 2 := fun n xs hr k hk => by
    rw [s3_q] at hr
    by_cases e : n = n1
    · rw [if_pos e] at hr
      rw [(q3_rel hr).1] at hk
      exact List.mem_singleton.1 hk
    · rw [if_neg e] at hr
      rw [hr.nil.1] at hk; cases hk
  obtain ⟨xs, hr, -⟩ := h1 n1
  rw [s3_q, if_pos rfl] at hr
  refine ⟨by rw [(q3_rel hr).2], (h3 3).2 ⟨s3_wt, by decide, fun hk => ?_⟩⟩
  obtain ⟨n, zs, hr2, hm⟩ := h2 3 hk
  have := hn n zs hr2 3 hm
  omega

set_option maxHeartbeats 2000000 in
set_option maxRecDepth 100000 in
theorem awake9 (w : World) : Calls Tryz.prog 4 #[] w fun e w' => e = .returned (.bool true) ∧ Below w.heap.size w w' := by
  have HNew := Lib.hid (la_new (Below.refl w.heap.size w))
  go_enter Tryz.func4, Tryz.ntmps4
  go_wp2_with fail
  refine HNew.out.mono ?_
  rintro e w1 ⟨t, O1, rfl, l1, -, -⟩
  have HL2 := Lib.hid (l1.alloc (.cells #[.int .i64 1, .string ⟨#[]⟩] 31))
  have HM2 := Lib.hid (l1.mine (.cells #[.int .i64 1, .string ⟨#[]⟩] 31))
  clear l1 HNew
  go_upto_region 3 with fail
  generalize w1.heap.size = nx at *
  generalize w1.alloc (.cells #[.int .i64 1, .string ⟨#[]⟩] 31) = w2 at *
  have c0 : w2.cell? ⟨nx, 0, none⟩ = some (.int .i64 1) := (cell_of_block HM2.out.at' 0).trans rfl
  have c1 : w2.cell? ⟨nx, 1, none⟩ = some (.string ⟨#[]⟩) := (cell_of_block HM2.out.at' 1).trans rfl
  have hl2 := HM2.out.lt
  have HA : Hid (Calls Tryz.prog 8 #[.pointer (some ⟨t, 0, none⟩), .int .i64 1, .agg #[.int .i64 1, .string ⟨#[]⟩], .int .i64 3] w2 fun e w' => e = .returned (.tuple #[.bool true, .int .i64 0]) ∧ ∃ O', LA w w' t O' (askS LS.empty 1 n1 3) 1 ∧ Kept O1 O' w2 w') := Lib.hid (la_ask HL2.out (by omega) 1 3 n1 (by omega) (by omega) rfl)
  go_wp2_with fail
  refine HA.out.mono ?_
  rintro e w3 ⟨rfl, O3, l3, k3⟩
  have HL3 := Lib.hid l3
  have HM3 := Lib.hid (HM2.out.kept k3)
  clear c0 c1 hl2 HL2 HM2 l3 k3 HA
  have c0 : w3.cell? ⟨nx, 0, none⟩ = some (.int .i64 1) := (cell_of_block HM3.out.at' 0).trans rfl
  have c1 : w3.cell? ⟨nx, 1, none⟩ = some (.string ⟨#[]⟩) := (cell_of_block HM3.out.at' 1).trans rfl
  have hl2 := HM3.out.lt
  have HA : Hid (Calls Tryz.prog 8 #[.pointer (some ⟨t, 0, none⟩), .int .i64 2, .agg #[.int .i64 1, .string ⟨#[]⟩], .int .i64 6] w3 fun e w' => e = .returned (.tuple #[.bool false, .int .i64 0]) ∧ ∃ O', LA w w' t O' (askS (askS LS.empty 1 n1 3) 2 n1 6) 2 ∧ Kept O3 O' w3 w') := Lib.hid (la_ask HL3.out (by omega) 2 6 n1 (by omega) (by omega) rfl)
  go_wp2_with fail
  refine HA.out.mono ?_
  rintro e w4 ⟨rfl, O4, l4, k4⟩
  have HL4 := Lib.hid l4
  have HM4 := Lib.hid (HM3.out.kept k4)
  clear c0 c1 hl2 HL3 HM3 l4 k4 HA
  have c0 : w4.cell? ⟨nx, 0, none⟩ = some (.int .i64 1) := (cell_of_block HM4.out.at' 0).trans rfl
  have c1 : w4.cell? ⟨nx, 1, none⟩ = some (.string ⟨#[]⟩) := (cell_of_block HM4.out.at' 1).trans rfl
  have hl2 := HM4.out.lt
  have HA : Hid (Calls Tryz.prog 8 #[.pointer (some ⟨t, 0, none⟩), .int .i64 3, .agg #[.int .i64 1, .string ⟨#[]⟩], .int .i64 3] w4 fun e w' => e = .returned (.tuple #[.bool false, .int .i64 0]) ∧ ∃ O', LA w w' t O' s3 3 ∧ Kept O4 O' w4 w') := Lib.hid (la_ask HL4.out (by omega) 3 3 n1 (by omega) (by omega) rfl)
  go_wp2_with fail
  refine HA.out.mono ?_
  rintro e w5 ⟨rfl, O5, l5, k5⟩
  have HL5 := Lib.hid l5
  have HM5 := Lib.hid (HM4.out.kept k5)
  clear c0 c1 hl2 HL4 HM4 k5 HA
  have HAr := Lib.hid (lt_arcs l5.lt (by omega))
  clear l5
  go_wp2_with fail
  refine HAr.out.mono ?_
  rintro e w6 ⟨v6, A, rfl, ho6, hs6, hm6, hb6⟩
  have hA2 : A = [(2, 1), (3, 2)] := rising_ext hs6 (by simp [ltP]) fun p => by
    rw [hm6 p]
    constructor
    · rintro ⟨n, hn⟩
      rw [s3_q] at hn
      by_cases e : n = n1
      · rw [if_pos e, q3_arcs] at hn; exact hn
      · rw [if_neg e] at hn; cases hn
    · intro hp
      exact ⟨n1, by rw [s3_q, if_pos rfl, q3_arcs]; exact hp⟩
  subst hA2
  obtain ⟨a6, c6, rfl, -, -, -⟩ := own_cap ho6
  have HL6 := Lib.hid (HL5.out.below hb6)
  have HM6 := Lib.hid (HM5.out.below hb6)
  have HRl := Lib.hid (la_release HL6.out (by omega) 1)
  clear HL5 HM5 ho6 hs6 hm6 hb6 HAr
  go_wp2_with fail
  refine HRl.out.mono ?_
  rintro e w7 ⟨rfl, S7, O7, hr, l7, k7⟩
  obtain ⟨e1, e2⟩ := s3_rel hr
  have HL7 := Lib.hid l7
  have HM7 := Lib.hid (HM6.out.kept k7)
  have HE1 := Lib.hid e1
  have HE2 := Lib.hid e2
  clear hr l7 k7 e1 e2 HL6 HM6 HRl
  have c0 : w7.cell? ⟨nx, 0, none⟩ = some (.int .i64 1) := (cell_of_block HM7.out.at' 0).trans rfl
  have c1 : w7.cell? ⟨nx, 1, none⟩ = some (.string ⟨#[]⟩) := (cell_of_block HM7.out.at' 1).trans rfl
  have hl2 := HM7.out.lt
  have HMo : Hid (Calls Tryz.prog 10 #[.pointer (some ⟨t, 0, none⟩), .int .i64 2, .agg #[.int .i64 1, .string ⟨#[]⟩]] w7 fun e w' => e = .returned (.int .i64 6) ∧ Below w7.heap.size w7 w') := Lib.hid (by
    have h := la_mode HL7.out 2 n1
    rw [HE1.out] at h
    exact h)
  go_wp2_with fail
  refine HMo.out.mono ?_
  rintro e w8 ⟨rfl, hb8⟩
  have HL8 := Lib.hid (HL7.out.below hb8)
  have HWa : Hid (Calls Tryz.prog 12 #[.pointer (some ⟨t, 0, none⟩), .int .i64 3] w8 fun e w' => e = .returned (.bool true) ∧ Below w8.heap.size w8 w') := Lib.hid (by
    have h := lt_waiting HL8.out.lt 3
    rw [HE2.out] at h
    exact h)
  clear hb8 c0 c1 hl2 HMo HL7 HM7
  go_wp2_with fail
  refine HWa.out.mono ?_
  rintro e w9 ⟨rfl, hb9⟩
  have HL9 := Lib.hid (HL8.out.below hb9)
  clear hb9
  go_wp2_with fail
  go_ret
  exact ⟨rfl, HL9.out.low⟩
end

/-!
  Layer 9 (locks): the walk of LocksGreater.
-/
section
open Go.RowKit Go.Joins Go.Sort Go.Shelf
set_option linter.unusedVariables false
set_option linter.unusedSimpArgs false

/-- only one name has anything -/
def Only (S : LS) (n : Nm) (Q : Qu) : Prop := ∀ k, S.q k = if k = n then Q else ⟨[], []⟩
theorem Only.empty (n : Nm) : Only LS.empty n ⟨[], []⟩ := fun k => by split <;> rfl
theorem Only.ask {S : LS} {n : Nm} {Q : Qu} (h : Only S n Q) (x m : Int) : Only (askS S x n m) n (askQ Q x m S.turn).1 := fun k => by
  have hn := h n
  rw [if_pos rfl] at hn
  by_cases e : k = n
  · simp only [askS, if_pos e, hn]
  · simp only [askS, if_neg e]
    rw [h k, if_neg e]
theorem Only.at' {S : LS} {n : Nm} {Q : Qu} (h : Only S n Q) : S.q n = Q := by rw [h n, if_pos rfl]
/-- Release where only one name has anything -/
theorem Only.rel {S S' : LS} {n : Nm} {Q Q' : Qu} {xs : List Int} {x : Int} (h : Only S n Q) (hr : RelS x S S') (hq : RelQ x Q xs Q') : Only S' n Q' ∧ S'.turn = S.turn ∧ ∀ k, S'.wt k = true ↔ S.wt k = true ∧ k ≠ x ∧ k ∉ xs := by
  obtain ⟨h0, ys, h1, h2, h3⟩ := hr
  have key : ∀ k zs, RelQ x (S.q k) zs (S'.q k) → (k = n ∧ zs = xs ∧ S'.q k = Q') ∨ (k ≠ n ∧ zs = [] ∧ S'.q k = ⟨[], []⟩) := fun k zs hz => by
    rw [h k] at hz
    by_cases e : k = n
    · rw [if_pos e] at hz
      obtain ⟨e1, e2⟩ := hz.det hq
      exact .inl ⟨e, e1, e2⟩
    · rw [if_neg e] at hz
      exact .inr ⟨e, hz.nil⟩
  refine ⟨fun k => ?_, h0, fun k => ?_⟩
  · obtain ⟨zs, hz, -⟩ := h1 k
    rcases key k zs hz with ⟨e, -, e2⟩ | ⟨e, -, e2⟩
    · rw [if_pos e]; exact e2
    · rw [if_neg e]; exact e2
  · rw [h3 k]
    have : k ∈ ys ↔ k ∈ xs := by
      constructor
      · intro hk
        obtain ⟨j, zs, hz, hm⟩ := h2 k hk
        rcases key j zs hz with ⟨-, e1, -⟩ | ⟨-, e1, -⟩
        · rw [e1] at hm; exact hm
        · rw [e1] at hm; cases hm
      · intro hk
        obtain ⟨zs, hz, hs⟩ := h1 n
        rcases key n zs hz with ⟨-, e1, -⟩ | ⟨e, -⟩
        · exact hs k (by rw [e1]; exact hk)
        · exact absurd rfl e
    rw [this]

/-- the second lock of one transaction -/
theorem ask_again (a b t : Int) : askQ ⟨[⟨1, a, 0, 0⟩], []⟩ 1 b t = (⟨[⟨1, joinL a b, 0, 0⟩], []⟩, true, t) := by
  have h := askQ_at (Q := ⟨[⟨1, a, 0, 0⟩], []⟩) (x := 1) (m := b) (t := t) (k := 0) (by simp [atL]) (by simp)
  rw [h]
  simp only [List.getElem_cons_zero]
  by_cases e : joinL a b = a
  · rw [if_pos e, e]
  · rw [if_neg e, if_pos (by simp [freeL])]; rfl
theorem ask_other (j c t : Int) : askQ ⟨[⟨1, j, 0, 0⟩], []⟩ 2 c t = if compatL c j = true then (⟨[⟨1, j, 0, 0⟩, ⟨2, c, 0, 0⟩], []⟩, true, t) else (⟨[⟨1, j, 0, 0⟩], [⟨2, c⟩]⟩, false, t) := by
  rw [askQ_new (by simp [atL])]
  by_cases e : compatL c j = true
  · rw [if_pos e, if_pos (by simp [wantL, freeL, e])]; rfl
  · rw [if_neg e, if_neg (by simp [wantL, freeL, e])]; rfl
theorem rel_gone (j c : Int) : RelQ 1 ⟨[⟨1, j, 0, 0⟩, ⟨2, c, 0, 0⟩], []⟩ [] ⟨[⟨2, c, 0, 0⟩], []⟩ :=
  .inl ⟨by simp [hasQ], [], [], _, .stop (by simp [stepA, bestQ, bestTo, remQ, candB]), .stop (by simp [stepB, remQ]), rfl⟩
theorem rel_given (j c : Int) : RelQ 1 ⟨[⟨1, j, 0, 0⟩], [⟨2, c⟩]⟩ [2] ⟨[⟨2, c, 0, 0⟩], []⟩ :=
  .inl ⟨by simp [hasQ], [], [2], _, .stop (by simp [stepA, bestQ, bestTo, remQ]), .step (Q1 := ⟨[⟨2, c, 0, 0⟩], []⟩) (by simp [stepB, remQ, wantL, freeL]) (.stop (by simp [stepB])), rfl⟩

end

/-!
  Layer 9 (locks), plain: what holds of every queue: each transaction once, holds go together, who waits has what stands against it.
-/
section
set_option linter.unusedVariables false
set_option linter.unusedSimpArgs false

def IsM (m : Int) : Prop := 1 ≤ m ∧ m ≤ 6
theorem IsM.cases {m : Int} (h : IsM m) : m = 1 ∨ m = 2 ∨ m = 3 ∨ m = 4 ∨ m = 5 ∨ m = 6 := by obtain ⟨h1, h2⟩ := h; omega
theorem compat_symm {a b : Int} (ha : IsM a) (hb : IsM b) : compatL a b = compatL b a := by
  rcases ha.cases with rfl | rfl | rfl | rfl | rfl | rfl <;> rcases hb.cases with rfl | rfl | rfl | rfl | rfl | rfl <;> decide
theorem compat_join {w a b : Int} (hw : IsM w) (ha : IsM a) (hb : IsM b) (h : compatL w (joinL a b) = true) : compatL w a = true := by
  revert h
  rcases hw.cases with rfl | rfl | rfl | rfl | rfl | rfl <;> rcases ha.cases with rfl | rfl | rfl | rfl | rfl | rfl <;> rcases hb.cases with rfl | rfl | rfl | rfl | rfl | rfl <;> decide
theorem join_isM {a b : Int} (ha : IsM a) (hb : IsM b) : IsM (joinL a b) := by
  rcases ha.cases with rfl | rfl | rfl | rfl | rfl | rfl <;> rcases hb.cases with rfl | rfl | rfl | rfl | rfl | rfl <;> exact ⟨by decide, by decide⟩
theorem free_iff {x m : Int} {H : List Hd} : freeL x m H = true ↔ ∀ g ∈ H, g.x = x ∨ compatL m g.m = true := by
  simp [freeL]
theorem free_false {x m : Int} {H : List Hd} : freeL x m H = false ↔ ∃ g ∈ H, g.x ≠ x ∧ compatL m g.m = false := by
  simp [freeL]
theorem want_iff {H : List Hd} : wantL H = true ↔ ∃ h ∈ H, h.w ≠ 0 := by simp [wantL]
theorem want_false {H : List Hd} : wantL H = false ↔ ∀ h ∈ H, h.w = 0 := by simp [wantL]
theorem mem_set {H : List Hd} {k : Nat} (hk : k < H.length) {y h : Hd} (hm : h ∈ H.set k y) : h = y ∨ ∃ i, ∃ hi : i < H.length, i ≠ k ∧ H[i] = h := by
  obtain ⟨i, hi, rfl⟩ := List.mem_iff_getElem.1 hm
  rw [List.length_set] at hi
  rw [List.getElem_set]
  by_cases e : k = i
  · rw [if_pos e]; exact .inl rfl
  · rw [if_neg e]; exact .inr ⟨i, hi, fun h => e h.symm, rfl⟩
theorem set_at {H : List Hd} {k : Nat} (hk : k < H.length) (y : Hd) : y ∈ H.set k y := List.mem_iff_getElem.2 ⟨k, by simpa using hk, by simp⟩
theorem set_far {H : List Hd} {k i : Nat} (hi : i < H.length) (hne : i ≠ k) (y : Hd) : H[i] ∈ H.set k y := List.mem_iff_getElem.2 ⟨i, by simpa using hi, by rw [List.getElem_set, if_neg fun e => hne e.symm]⟩
def idsQ (Q : Qu) : List Int := Q.H.map (·.x) ++ Q.W.map (·.x)
theorem ids_ne {H : List Hd} (h : (H.map (·.x)).Nodup) {i k : Nat} (hi : i < H.length) (hk : k < H.length) (hne : i ≠ k) : H[i].x ≠ H[k].x := fun e => by
  have h1 := List.pairwise_iff_getElem.1 h
  rcases Nat.lt_or_gt_of_ne hne with h2 | h2
  · exact h1 i k (by simpa using hi) (by simpa using hk) h2 (by simpa using e)
  · exact h1 k i (by simpa using hk) (by simpa using hi) h2 (by simpa using e.symm)
/-- who waits in a queue -/
def waitsIn (k : Int) (Q : Qu) : Prop := (∃ h ∈ Q.H, h.x = k ∧ h.w ≠ 0) ∨ ∃ y ∈ Q.W, y.x = k
/-- at all times -/
structure Pre (Q : Qu) : Prop where
  ids : (idsQ Q).Nodup
  mode : ∀ h ∈ Q.H, IsM h.m ∧ (h.w ≠ 0 → IsM h.w)
  wish : ∀ y ∈ Q.W, IsM y.m
  tog : ∀ h ∈ Q.H, ∀ g ∈ Q.H, h.x ≠ g.x → compatL h.m g.m = true
/-- between calls -/
structure Ok (Q : Qu) : Prop where
  pre : Pre Q
  stuckH : ∀ h ∈ Q.H, h.w ≠ 0 → freeL h.x h.w Q.H = false
  stuckW : ∀ y r, Q.W = y :: r → wantL Q.H = true ∨ freeL y.x y.m Q.H = false
theorem Pre.empty : Pre ⟨[], []⟩ := ⟨List.nodup_nil, fun h hh => (by cases hh), fun y hy => (by cases hy), fun h hh => (by cases hh)⟩
theorem Ok.empty : Ok ⟨[], []⟩ := ⟨.empty, fun h hh => (by cases hh), fun y r h => (by cases h)⟩
theorem Pre.hnd {Q : Qu} (h : Pre Q) : (Q.H.map (·.x)).Nodup := (List.nodup_append.1 h.ids).1
theorem Pre.hw {Q : Qu} (h : Pre Q) {g : Hd} (hg : g ∈ Q.H) {y : Ws} (hy : y ∈ Q.W) : g.x ≠ y.x :=
  (List.nodup_append.1 h.ids).2.2 g.x (List.mem_map.2 ⟨g, hg, rfl⟩) y.x (List.mem_map.2 ⟨y, hy, rfl⟩)
/-- a transaction goes -/
theorem Pre.rem {Q : Qu} (h : Pre Q) (x : Int) : Pre (remQ x Q) := by
  have hs : (idsQ (remQ x Q)).Sublist (idsQ Q) := List.Sublist.append ((List.filter_sublist).map _) ((List.filter_sublist).map _)
  exact ⟨hs.nodup h.ids, fun g hg => h.mode g (List.mem_filter.1 hg).1, fun y hy => h.wish y (List.mem_filter.1 hy).1, fun a ha b hb => h.tog a (List.mem_filter.1 ha).1 b (List.mem_filter.1 hb).1⟩
theorem waits_rem {Q : Qu} {x k : Int} : waitsIn k (remQ x Q) ↔ waitsIn k Q ∧ k ≠ x := by
  unfold waitsIn remQ
  constructor
  · rintro (⟨h, hh, rfl, hw⟩ | ⟨y, hy, rfl⟩)
    · obtain ⟨h1, h2⟩ := List.mem_filter.1 hh
      exact ⟨.inl ⟨h, h1, rfl, hw⟩, by simpa using h2⟩
    · obtain ⟨h1, h2⟩ := List.mem_filter.1 hy
      exact ⟨.inr ⟨y, h1, rfl⟩, by simpa using h2⟩
  · rintro ⟨⟨h, hh, rfl, hw⟩ | ⟨y, hy, rfl⟩, hne⟩
    · exact .inl ⟨h, List.mem_filter.2 ⟨hh, by simpa using hne⟩, rfl, hw⟩
    · exact .inr ⟨y, List.mem_filter.2 ⟨hy, by simpa using hne⟩, rfl⟩
/-- one hold changes, the transaction stays -/
theorem ids_set {H : List Hd} {k : Nat} (hk : k < H.length) {y : Hd} (hx : y.x = H[k].x) : (H.set k y).map (·.x) = H.map (·.x) := by
  rw [List.map_set, hx]
  apply List.ext_getElem (by simp)
  intro i h1 h2
  rw [List.getElem_set]
  by_cases e : k = i
  · subst e; simp
  · rw [if_neg e]
theorem bestTo_none (H : List Hd) : ∀ k, k ≤ H.length → (bestTo H k = none ↔ ∀ i, ∀ hi : i < k, ∀ hl : i < H.length, candB H H[i] = false)
  | 0, _ => ⟨fun _ i hi => by omega, fun _ => rfl⟩
  | k + 1, hk => by
    have ih := bestTo_none H k (by omega)
    rw [bestTo_succ H k (by omega)]
    constructor
    · intro h i hi hl
      cases hb : bestTo H k with
      | none =>
        rw [hb] at h
        simp only at h
        by_cases e : i = k
        · subst e
          cases hc : candB H H[i] with
          | false => rfl
          | true => rw [if_pos hc] at h; cases h
        · exact (ih.1 hb) i (by omega) hl
      | some b =>
        rw [hb] at h
        simp only at h
        split at h <;> cases h
    · intro h
      have h0 := ih.2 fun i hi hl => h i (by omega) hl
      rw [h0]
      simp only
      rw [if_neg]
      rw [h k (by omega) (by omega)]
      simp
/-- when no hold can be given what it wants -/
theorem stepA_none {Q : Qu} (h : stepA Q = none) : ∀ g ∈ Q.H, g.w ≠ 0 → freeL g.x g.w Q.H = false := by
  intro g hg hw
  have hb : bestQ Q.H = none := by
    unfold stepA at h
    cases hq : bestQ Q.H with
    | none => rfl
    | some k => rw [hq] at h; cases h
  obtain ⟨i, hi, rfl⟩ := List.mem_iff_getElem.1 hg
  have := (bestTo_none Q.H Q.H.length (Nat.le_refl _)).1 hb i hi hi
  simp only [candB, Bool.and_eq_false_iff, bne_eq_false_iff_eq] at this
  exact this.resolve_left hw
theorem stepA_some {Q Q1 : Qu} {x : Int} (h : stepA Q = some (Q1, x)) : ∃ k, ∃ hk : k < Q.H.length, Q.H[k].w ≠ 0 ∧ freeL Q.H[k].x Q.H[k].w Q.H = true ∧ Q1 = ⟨Q.H.set k ⟨Q.H[k].x, Q.H[k].w, 0, Q.H[k].t⟩, Q.W⟩ ∧ x = Q.H[k].x := by
  unfold stepA at h
  cases hb : bestQ Q.H with
  | none => rw [hb] at h; cases h
  | some k =>
    rw [hb] at h
    obtain ⟨hk, g, hg, hc⟩ := bestTo_lt Q.H Q.H.length k hb
    rw [List.getElem?_eq_getElem hk] at hg
    cases hg
    simp only [candB, Bool.and_eq_true, bne_iff_ne, ne_eq] at hc
    have e : Q.H.getD k default = Q.H[k] := by rw [List.getD_eq_getElem?_getD, List.getElem?_eq_getElem hk]; rfl
    simp only [e, Option.some.injEq, Prod.mk.injEq] at h
    exact ⟨k, hk, hc.1, hc.2, h.1.symm, h.2.symm⟩
theorem stepB_some {Q Q1 : Qu} {x : Int} (h : stepB Q = some (Q1, x)) : ∃ y r, Q.W = y :: r ∧ wantL Q.H = false ∧ freeL y.x y.m Q.H = true ∧ Q1 = ⟨Q.H ++ [⟨y.x, y.m, 0, 0⟩], r⟩ ∧ x = y.x := by
  obtain ⟨H, W⟩ := Q
  cases W with
  | nil => cases h
  | cons y r =>
    unfold stepB at h
    simp only at h
    split at h
    · rename_i hc
      simp only [Bool.and_eq_true, Bool.not_eq_true'] at hc
      simp only [Option.some.injEq, Prod.mk.injEq] at h
      exact ⟨y, r, rfl, hc.1, hc.2, h.1.symm, h.2.symm⟩
    · cases h
theorem stepB_none {Q : Qu} (h : stepB Q = none) : ∀ y r, Q.W = y :: r → wantL Q.H = true ∨ freeL y.x y.m Q.H = false := by
  intro y r hW
  unfold stepB at h
  rw [hW] at h
  simp only at h
  split at h
  · cases h
  · rename_i hc
    cases hw : wantL Q.H with
    | true => exact .inl rfl
    | false =>
      right
      cases hf : freeL y.x y.m Q.H with
      | false => rfl
      | true => rw [hw, hf] at hc; exact absurd rfl hc
/-- a step keeps what holds at all times, and who waits is who waited but for the one that was given something -/
theorem stepA_ok {Q Q1 : Qu} {x : Int} (hp : Pre Q) (h : stepA Q = some (Q1, x)) : Pre Q1 ∧ waitsIn x Q ∧ ∀ k, waitsIn k Q1 ↔ waitsIn k Q ∧ k ≠ x := by
  obtain ⟨k, hk, hw, hf, rfl, rfl⟩ := stepA_some h
  have hmk := hp.mode _ (List.getElem_mem hk)
  have hfr := free_iff.1 hf
  refine ⟨⟨?_, fun g hg => ?_, hp.wish, fun a ha b hb hab => ?_⟩, .inl ⟨_, List.getElem_mem hk, rfl, hw⟩, fun j => ⟨?_, ?_⟩⟩
  · show (((Q.H.set k _).map (·.x)) ++ Q.W.map (·.x)).Nodup
    rw [ids_set hk (y := ⟨Q.H[k].x, Q.H[k].w, 0, Q.H[k].t⟩) rfl]; exact hp.ids
  · rcases mem_set hk hg with rfl | ⟨i, hi, -, rfl⟩
    · exact ⟨hmk.2 hw, fun h => absurd rfl h⟩
    · exact hp.mode _ (List.getElem_mem hi)
  · rcases mem_set hk ha with rfl | ⟨i, hi, hik, rfl⟩
    · rcases mem_set hk hb with rfl | ⟨i', hi', hik', rfl⟩
      · exact absurd rfl hab
      · exact (hfr _ (List.getElem_mem hi')).resolve_left fun e => hab e.symm
    · rcases mem_set hk hb with rfl | ⟨i', hi', hik', rfl⟩
      · show compatL Q.H[i].m Q.H[k].w = true
        rw [compat_symm (hp.mode _ (List.getElem_mem hi)).1 (hmk.2 hw)]
        exact (hfr _ (List.getElem_mem hi)).resolve_left hab
      · exact hp.tog _ (List.getElem_mem hi) _ (List.getElem_mem hi') hab
  · rintro (⟨g, hg, rfl, hgw⟩ | ⟨y, hy, rfl⟩)
    · rcases mem_set hk hg with rfl | ⟨i, hi, hik, rfl⟩
      · exact absurd rfl hgw
      · exact ⟨.inl ⟨_, List.getElem_mem hi, rfl, hgw⟩, ids_ne hp.hnd hi hk hik⟩
    · exact ⟨.inr ⟨y, hy, rfl⟩, fun e => hp.hw (List.getElem_mem hk) hy e.symm⟩
  · rintro ⟨⟨g, hg, rfl, hgw⟩ | ⟨y, hy, rfl⟩, hne⟩
    · obtain ⟨i, hi, rfl⟩ := List.mem_iff_getElem.1 hg
      exact .inl ⟨_, set_far hi (fun e => hne (by subst e; rfl)) _, rfl, hgw⟩
    · exact .inr ⟨y, hy, rfl⟩
theorem stepB_ok {Q Q1 : Qu} {x : Int} (hp : Pre Q) (h : stepB Q = some (Q1, x)) : Pre Q1 ∧ waitsIn x Q ∧ (∀ k, waitsIn k Q1 ↔ waitsIn k Q ∧ k ≠ x) ∧ wantL Q1.H = false := by
  obtain ⟨y, r, hW, hw, hf, rfl, rfl⟩ := stepB_some h
  have hfr := free_iff.1 hf
  have hy : y ∈ Q.W := by rw [hW]; exact List.mem_cons_self ..
  have hr : ∀ z ∈ r, z ∈ Q.W := fun z hz => by rw [hW]; exact List.mem_cons_of_mem _ hz
  have hym := hp.wish y hy
  have hids := hp.ids
  unfold idsQ at hids
  rw [hW, List.map_cons] at hids
  have hyr : ∀ z ∈ r, z.x ≠ y.x := fun z hz e => by
    have h1 := (List.nodup_append.1 hids).2.1
    rw [List.nodup_cons] at h1
    exact h1.1 (e ▸ List.mem_map.2 ⟨z, hz, rfl⟩)
  have hnw := want_false.1 hw
  have hmem : ∀ g, g ∈ Q.H ++ [(⟨y.x, y.m, 0, 0⟩ : Hd)] ↔ g ∈ Q.H ∨ g = ⟨y.x, y.m, 0, 0⟩ := fun g => by rw [List.mem_append, List.mem_singleton]
  refine ⟨⟨?_, fun g hg => ?_, fun z hz => hp.wish z (hr z hz), fun a ha b hb hab => ?_⟩, .inr ⟨y, hy, rfl⟩, fun j => ⟨?_, ?_⟩, want_false.2 fun g hg => ?_⟩
  · show ((Q.H ++ [(⟨y.x, y.m, 0, 0⟩ : Hd)]).map (·.x) ++ r.map (·.x)).Nodup
    rw [List.map_append, List.map_singleton, List.append_assoc]
    exact hids
  · rcases (hmem g).1 hg with h1 | rfl
    · exact hp.mode g h1
    · exact ⟨hym, fun h => absurd rfl h⟩
  · rcases (hmem a).1 ha with h1 | rfl
    · rcases (hmem b).1 hb with h2 | rfl
      · exact hp.tog a h1 b h2 hab
      · show compatL a.m y.m = true
        rw [compat_symm (hp.mode a h1).1 hym]
        exact (hfr a h1).resolve_left hab
    · rcases (hmem b).1 hb with h2 | rfl
      · exact (hfr b h2).resolve_left fun e => hab e.symm
      · exact absurd rfl hab
  · rintro (⟨g, hg, rfl, hgw⟩ | ⟨z, hz, rfl⟩)
    · rcases (hmem g).1 hg with h1 | rfl
      · exact absurd (hnw g h1) hgw
      · exact absurd rfl hgw
    · exact ⟨.inr ⟨z, hr z hz, rfl⟩, hyr z hz⟩
  · rintro ⟨⟨g, hg, rfl, hgw⟩ | ⟨z, hz, rfl⟩, hne⟩
    · exact absurd (hnw g hg) hgw
    · rw [hW] at hz
      rcases List.mem_cons.1 hz with rfl | hz
      · exact absurd rfl hne
      · exact .inr ⟨z, hz, rfl⟩
  · rcases (hmem g).1 hg with h1 | rfl
    · exact hnw g h1
    · rfl
theorem runsA_ok {Q Q' : Qu} {xs : List Int} (h : Runs stepA Q xs Q') (hp : Pre Q) : Pre Q' ∧ (∀ x ∈ xs, waitsIn x Q) ∧ (∀ k, waitsIn k Q' ↔ waitsIn k Q ∧ k ∉ xs) ∧ stepA Q' = none := by
  induction h with
  | stop h0 => exact ⟨hp, fun x hx => (by cases hx), fun k => by simp, h0⟩
  | step h0 hr ih =>
    obtain ⟨p1, w1, e1⟩ := stepA_ok hp h0
    obtain ⟨p2, w2, e2, n2⟩ := ih p1
    refine ⟨p2, fun z hz => ?_, fun k => ?_, n2⟩
    · rcases List.mem_cons.1 hz with rfl | hz
      · exact w1
      · exact ((e1 z).1 (w2 z hz)).1
    · rw [e2 k, e1 k, List.mem_cons, not_or, and_assoc]
theorem runsB_ok {Q Q' : Qu} {xs : List Int} (h : Runs stepB Q xs Q') (hp : Pre Q) (hs : ∀ g ∈ Q.H, g.w ≠ 0 → freeL g.x g.w Q.H = false) : Ok Q' ∧ (∀ x ∈ xs, waitsIn x Q) ∧ (∀ k, waitsIn k Q' ↔ waitsIn k Q ∧ k ∉ xs) := by
  induction h with
  | stop h0 => exact ⟨⟨hp, hs, stepB_none h0⟩, fun x hx => (by cases hx), fun k => by simp⟩
  | step h0 hr ih =>
    obtain ⟨p1, w1, e1, n1⟩ := stepB_ok hp h0
    obtain ⟨p2, w2, e2⟩ := ih p1 fun g hg hw => absurd (want_false.1 n1 g hg) hw
    refine ⟨p2, fun z hz => ?_, fun k => ?_⟩
    · rcases List.mem_cons.1 hz with rfl | hz
      · exact w1
      · exact ((e1 z).1 (w2 z hz)).1
    · rw [e2 k, e1 k, List.mem_cons, not_or, and_assoc]
theorem gives_ok {Q Q' : Qu} {xs : List Int} (h : Gives Q xs Q') (hp : Pre Q) : Ok Q' ∧ (∀ x ∈ xs, waitsIn x Q) ∧ (∀ k, waitsIn k Q' ↔ waitsIn k Q ∧ k ∉ xs) := by
  obtain ⟨x1, x2, Q1, h1, h2, rfl⟩ := h
  obtain ⟨p1, w1, e1, n1⟩ := runsA_ok h1 hp
  obtain ⟨p2, w2, e2⟩ := runsB_ok h2 p1 (stepA_none n1)
  refine ⟨p2, fun x hx => ?_, fun k => ?_⟩
  · rcases List.mem_append.1 hx with h | h
    · exact w1 x h
    · exact ((e1 x).1 (w2 x h)).1
  · rw [e2 k, e1 k, List.mem_append, not_or, and_assoc]
theorem RelQ.ok {x : Int} {Q Q' : Qu} {xs : List Int} (h : RelQ x Q xs Q') (hq : Ok Q) : Ok Q' ∧ (∀ y ∈ xs, waitsIn y Q) ∧ (∀ k, waitsIn k Q' ↔ waitsIn k Q ∧ k ≠ x ∧ k ∉ xs) := by
  rcases h with ⟨-, h⟩ | ⟨h0, rfl, rfl⟩
  · obtain ⟨h1, h2, h3⟩ := gives_ok h (hq.pre.rem x)
    refine ⟨h1, fun y hy => (waits_rem.1 (h2 y hy)).1, fun k => ?_⟩
    rw [h3 k, waits_rem, and_assoc]
  · refine ⟨hq, fun y hy => (by cases hy), fun k => ?_⟩
    constructor
    · intro hk
      refine ⟨hk, fun e => ?_, by simp⟩
      subst e
      have : waitsIn k (remQ k Q') := by rw [remQ_none h0]; exact hk
      exact (waits_rem.1 this).2 rfl
    · exact fun h => h.1
end

/-!
  Layer 9 (locks), plain: Ask and Release keep what holds of every queue; of the whole table.
-/
section
set_option linter.unusedVariables false
set_option linter.unusedSimpArgs false

theorem ask_okQ {Q : Qu} {x m t : Int} (h : Ok Q) (hx : ¬ waitsIn x Q) (hm : IsM m) : Ok (askQ Q x m t).1 ∧ ∀ k, waitsIn k (askQ Q x m t).1 ↔ waitsIn k Q ∨ ((askQ Q x m t).2.1 = false ∧ k = x) := by
  have hp := h.pre
  rcases atL_cases x Q.H with ⟨he, hno⟩ | ⟨i, hi, he, hxi, -⟩
  · rw [askQ_new he]
    have hW : ∀ y ∈ Q.W, y.x ≠ x := fun y hy e => hx (.inr ⟨y, hy, e⟩)
    by_cases hg : (Q.W.isEmpty && !wantL Q.H && freeL x m Q.H) = true
    · rw [if_pos hg]
      simp only [Bool.and_eq_true, Bool.not_eq_true', List.isEmpty_iff] at hg
      obtain ⟨⟨hw0, hnw⟩, hf⟩ := hg
      have hfr := free_iff.1 hf
      have hnw' := want_false.1 hnw
      have hmem : ∀ g, g ∈ Q.H ++ [(⟨x, m, 0, 0⟩ : Hd)] ↔ g ∈ Q.H ∨ g = ⟨x, m, 0, 0⟩ := fun g => by rw [List.mem_append, List.mem_singleton]
      have hz : ∀ g ∈ Q.H ++ [(⟨x, m, 0, 0⟩ : Hd)], g.w = 0 := fun g hg => by
        rcases (hmem g).1 hg with h1 | rfl
        · exact hnw' g h1
        · rfl
      refine ⟨⟨⟨?_, fun g hg => ?_, hp.wish, fun a ha b hb hab => ?_⟩, fun g hg hgw => absurd (hz g hg) hgw, fun y r hy => ?_⟩, fun k => ⟨?_, ?_⟩⟩
      · show ((Q.H ++ [(⟨x, m, 0, 0⟩ : Hd)]).map (·.x) ++ Q.W.map (·.x)).Nodup
        rw [hw0, List.map_nil, List.append_nil, List.map_append, List.map_singleton]
        refine List.nodup_append.2 ⟨hp.hnd, by simp, fun a ha b hb => ?_⟩
        obtain ⟨g, hg, rfl⟩ := List.mem_map.1 ha
        rw [List.mem_singleton.1 hb]
        exact hno g hg
      · rcases (hmem g).1 hg with h1 | rfl
        · exact hp.mode g h1
        · exact ⟨hm, fun h => absurd rfl h⟩
      · rcases (hmem a).1 ha with h1 | rfl
        · rcases (hmem b).1 hb with h2 | rfl
          · exact hp.tog a h1 b h2 hab
          · show compatL a.m m = true
            rw [compat_symm (hp.mode a h1).1 hm]
            exact (hfr a h1).resolve_left hab
        · rcases (hmem b).1 hb with h2 | rfl
          · exact (hfr b h2).resolve_left fun e => hab e.symm
          · exact absurd rfl hab
      · rw [show (⟨Q.H ++ [⟨x, m, 0, 0⟩], Q.W⟩ : Qu).W = Q.W from rfl, hw0] at hy; cases hy
      · rintro (⟨g, hg, rfl, hgw⟩ | ⟨y, hy, rfl⟩)
        · exact absurd (hz g hg) hgw
        · exact .inl (.inr ⟨y, hy, rfl⟩)
      · rintro ((⟨g, hg, rfl, hgw⟩ | ⟨y, hy, rfl⟩) | ⟨h1, -⟩)
        · exact absurd (hnw' g hg) hgw
        · exact .inr ⟨y, hy, rfl⟩
        · cases h1
    · rw [if_neg hg]
      have hmem : ∀ y, y ∈ Q.W ++ [(⟨x, m⟩ : Ws)] ↔ y ∈ Q.W ∨ y = ⟨x, m⟩ := fun g => by rw [List.mem_append, List.mem_singleton]
      refine ⟨⟨⟨?_, hp.mode, fun y hy => ?_, hp.tog⟩, h.stuckH, fun y r hy => ?_⟩, fun k => ⟨?_, ?_⟩⟩
      · show (Q.H.map (·.x) ++ (Q.W ++ [(⟨x, m⟩ : Ws)]).map (·.x)).Nodup
        rw [List.map_append, List.map_singleton, ← List.append_assoc]
        refine List.nodup_append.2 ⟨hp.ids, by simp, fun a ha b hb => ?_⟩
        rw [List.mem_singleton.1 hb]
        rcases List.mem_append.1 ha with ha | ha
        · obtain ⟨g, hg, rfl⟩ := List.mem_map.1 ha
          exact hno g hg
        · obtain ⟨y, hy, rfl⟩ := List.mem_map.1 ha
          exact hW y hy
      · rcases (hmem y).1 hy with h1 | rfl
        · exact hp.wish y h1
        · exact hm
      · replace hy : Q.W ++ [(⟨x, m⟩ : Ws)] = y :: r := hy
        show wantL Q.H = true ∨ freeL y.x y.m Q.H = false
        cases hQ : Q.W with
        | nil =>
          rw [hQ] at hy hg
          simp only [List.nil_append, List.cons.injEq] at hy
          obtain ⟨rfl, -⟩ := hy
          cases hw : wantL Q.H with
          | true => exact .inl rfl
          | false =>
            right
            cases hf : freeL x m Q.H with
            | false => rfl
            | true => rw [hw, hf] at hg; exact absurd rfl hg
        | cons z s =>
          rw [hQ] at hy
          simp only [List.cons_append, List.cons.injEq] at hy
          obtain ⟨rfl, -⟩ := hy
          exact h.stuckW z s hQ
      · rintro (⟨g, hg, rfl, hgw⟩ | ⟨y, hy, rfl⟩)
        · exact .inl (.inl ⟨g, hg, rfl, hgw⟩)
        · rcases (hmem y).1 hy with h1 | rfl
          · exact .inl (.inr ⟨y, h1, rfl⟩)
          · exact .inr ⟨rfl, rfl⟩
      · rintro ((⟨g, hg, rfl, hgw⟩ | ⟨y, hy, rfl⟩) | ⟨-, rfl⟩)
        · exact .inl ⟨g, hg, rfl, hgw⟩
        · exact .inr ⟨y, (hmem y).2 (.inl hy), rfl⟩
        · exact .inr ⟨_, (hmem _).2 (.inr rfl), rfl⟩
  · rw [askQ_at he hi]
    have hme := List.getElem_mem hi
    have ha := (hp.mode _ hme).1
    have hw0 : Q.H[i].w = 0 := Classical.byContradiction fun hc => hx (.inl ⟨_, hme, hxi, hc⟩)
    by_cases hj : joinL Q.H[i].m m = Q.H[i].m
    · rw [if_pos hj]
      exact ⟨h, fun k => ⟨.inl, fun h => h.elim id fun h => (by cases h.1)⟩⟩
    rw [if_neg hj]
    have hjm := join_isM ha hm
    by_cases hf : freeL x (joinL Q.H[i].m m) Q.H = true
    · rw [if_pos hf]
      have hfr := free_iff.1 hf
      obtain ⟨j, hje⟩ : ∃ j, joinL Q.H[i].m m = j := ⟨_, rfl⟩
      have hcj : ∀ w, IsM w → compatL w Q.H[i].m = false → compatL w j = false := fun w hw hc => by
        cases hq : compatL w j with
        | false => rfl
        | true =>
          rw [← hje] at hq
          rw [compat_join hw ha hm hq] at hc; cases hc
      rw [hje] at hfr hjm ⊢
      have hfar : ∀ {y : Int} {w : Int}, IsM w → y ≠ x → freeL y w Q.H = false → freeL y w (Q.H.set i ⟨Q.H[i].x, j, Q.H[i].w, Q.H[i].t⟩) = false := fun {y w} hw hy hff => by
        obtain ⟨b, hb, hby, hbc⟩ := free_false.1 hff
        obtain ⟨ib, hib, rfl⟩ := List.mem_iff_getElem.1 hb
        by_cases e : ib = i
        · subst e
          exact free_false.2 ⟨_, set_at hi _, hby, hcj w hw hbc⟩
        · exact free_false.2 ⟨_, set_far hib e _, hby, hbc⟩
      have hwl : wantL Q.H = true → wantL (Q.H.set i ⟨Q.H[i].x, j, Q.H[i].w, Q.H[i].t⟩) = true := fun hw => by
        obtain ⟨g, hg, hgw⟩ := want_iff.1 hw
        obtain ⟨ig, hig, rfl⟩ := List.mem_iff_getElem.1 hg
        exact want_iff.2 ⟨_, set_far hig (fun e => hgw (by subst e; exact hw0)) _, hgw⟩
      refine ⟨⟨⟨?_, fun g hg => ?_, hp.wish, fun a ha2 b hb hab => ?_⟩, fun g hg hgw => ?_, fun y r hy => ?_⟩, fun k => ⟨?_, ?_⟩⟩
      · show (((Q.H.set i _).map (·.x)) ++ Q.W.map (·.x)).Nodup
        rw [ids_set hi (y := ⟨Q.H[i].x, j, Q.H[i].w, Q.H[i].t⟩) rfl]; exact hp.ids
      · rcases mem_set hi hg with rfl | ⟨i', hi', -, rfl⟩
        · exact ⟨hjm, fun h => absurd hw0 h⟩
        · exact hp.mode _ (List.getElem_mem hi')
      · rcases mem_set hi ha2 with rfl | ⟨i1, hi1, hik, rfl⟩
        · rcases mem_set hi hb with rfl | ⟨i', hi', hik', rfl⟩
          · exact absurd rfl hab
          · exact (hfr _ (List.getElem_mem hi')).resolve_left fun e => hab (by rw [e, ← hxi])
        · rcases mem_set hi hb with rfl | ⟨i', hi', hik', rfl⟩
          · show compatL Q.H[i1].m j = true
            rw [compat_symm (hp.mode _ (List.getElem_mem hi1)).1 hjm]
            exact (hfr _ (List.getElem_mem hi1)).resolve_left fun e => hab (by rw [e, ← hxi])
          · exact hp.tog _ (List.getElem_mem hi1) _ (List.getElem_mem hi') hab
      · rcases mem_set hi hg with rfl | ⟨i', hi', hik, rfl⟩
        · exact absurd hw0 hgw
        · have hm2 := List.getElem_mem hi'
          exact hfar ((hp.mode _ hm2).2 hgw) (fun e => ids_ne hp.hnd hi' hi hik (by rw [e, hxi])) (h.stuckH _ hm2 hgw)
      · have hyW : y ∈ Q.W := by
          have : Q.W = y :: r := hy
          rw [this]; exact List.mem_cons_self ..
        rcases h.stuckW y r hy with h1 | h1
        · exact .inl (hwl h1)
        · exact .inr (hfar (hp.wish y hyW) (fun e => hx (.inr ⟨y, hyW, e⟩)) h1)
      · rintro (⟨g, hg, rfl, hgw⟩ | ⟨y, hy, rfl⟩)
        · rcases mem_set hi hg with rfl | ⟨i', hi', hik, rfl⟩
          · exact absurd hw0 hgw
          · exact .inl (.inl ⟨_, List.getElem_mem hi', rfl, hgw⟩)
        · exact .inl (.inr ⟨y, hy, rfl⟩)
      · rintro ((⟨g, hg, rfl, hgw⟩ | ⟨y, hy, rfl⟩) | h1)
        · obtain ⟨ig, hig, rfl⟩ := List.mem_iff_getElem.1 hg
          exact .inl ⟨_, set_far hig (fun e => hgw (by subst e; exact hw0)) _, rfl, hgw⟩
        · exact .inr ⟨y, hy, rfl⟩
        · cases h1.1
    · rw [if_neg hf]
      have hf' : freeL x (joinL Q.H[i].m m) Q.H = false := by simpa using hf
      obtain ⟨j, hje⟩ : ∃ j, joinL Q.H[i].m m = j := ⟨_, rfl⟩
      rw [hje] at hf' hjm ⊢
      have hj0 : j ≠ 0 := by obtain ⟨h1, h2⟩ := hjm; omega
      have hfar : ∀ {y : Int} {w : Int}, freeL y w Q.H = false → freeL y w (Q.H.set i ⟨Q.H[i].x, Q.H[i].m, j, t + 1⟩) = false := fun {y w} hff => by
        obtain ⟨b, hb, hby, hbc⟩ := free_false.1 hff
        obtain ⟨ib, hib, rfl⟩ := List.mem_iff_getElem.1 hb
        by_cases e : ib = i
        · subst e
          exact free_false.2 ⟨_, set_at hi _, hby, hbc⟩
        · exact free_false.2 ⟨_, set_far hib e _, hby, hbc⟩
      have hmm : ∀ g ∈ Q.H.set i ⟨Q.H[i].x, Q.H[i].m, j, t + 1⟩, ∃ b ∈ Q.H, b.x = g.x ∧ b.m = g.m := fun g hg => by
        rcases mem_set hi hg with rfl | ⟨i', hi', -, rfl⟩
        · exact ⟨_, hme, rfl, rfl⟩
        · exact ⟨_, List.getElem_mem hi', rfl, rfl⟩
      refine ⟨⟨⟨?_, fun g hg => ?_, hp.wish, fun a ha2 b hb hab => ?_⟩, fun g hg hgw => ?_, fun y r hy => .inl (want_iff.2 ⟨_, set_at hi _, hj0⟩)⟩, fun k => ⟨?_, ?_⟩⟩
      · show (((Q.H.set i _).map (·.x)) ++ Q.W.map (·.x)).Nodup
        rw [ids_set hi (y := ⟨Q.H[i].x, Q.H[i].m, j, t + 1⟩) rfl]; exact hp.ids
      · rcases mem_set hi hg with rfl | ⟨i', hi', -, rfl⟩
        · exact ⟨ha, fun _ => hjm⟩
        · exact hp.mode _ (List.getElem_mem hi')
      · obtain ⟨a', ha', e1, e2⟩ := hmm a ha2
        obtain ⟨b', hb', e3, e4⟩ := hmm b hb
        rw [← e2, ← e4]
        exact hp.tog a' ha' b' hb' (by rw [e1, e3]; exact hab)
      · rcases mem_set hi hg with rfl | ⟨i', hi', hik, rfl⟩
        · have h9 := hfar hf'
          rw [← hxi] at h9 
          exact h9
        · exact hfar (h.stuckH _ (List.getElem_mem hi') hgw)
      · rintro (⟨g, hg, rfl, hgw⟩ | ⟨y, hy, rfl⟩)
        · rcases mem_set hi hg with rfl | ⟨i', hi', hik, rfl⟩
          · exact .inr ⟨rfl, hxi⟩
          · exact .inl (.inl ⟨_, List.getElem_mem hi', rfl, hgw⟩)
        · exact .inl (.inr ⟨y, hy, rfl⟩)
      · rintro ((⟨g, hg, rfl, hgw⟩ | ⟨y, hy, rfl⟩) | h1)
        · obtain ⟨ig, hig, rfl⟩ := List.mem_iff_getElem.1 hg
          exact .inl ⟨_, set_far hig (fun e => hgw (by subst e; exact hw0)) _, rfl, hgw⟩
        · exact .inr ⟨y, hy, rfl⟩
        · exact .inl ⟨_, set_at hi _, by rw [h1.2]; exact hxi, hj0⟩

/-- of the whole table -/
structure OkS (S : LS) : Prop where
  ok : ∀ n, Ok (S.q n)
  wait : ∀ k, S.wt k = true ↔ ∃ n, waitsIn k (S.q n)
  once : ∀ k n n', waitsIn k (S.q n) → waitsIn k (S.q n') → n = n'
theorem OkS.empty : OkS LS.empty := ⟨fun _ => Ok.empty, fun k => ⟨fun h => (by cases h), fun ⟨n, h⟩ => (by rcases h with ⟨g, hg, -⟩ | ⟨y, hy, -⟩; cases hg; cases hy)⟩, fun k n n' h => (by rcases h with ⟨g, hg, -⟩ | ⟨y, hy, -⟩; cases hg; cases hy)⟩
theorem OkS.ask {S : LS} (h : OkS S) {x : Int} (n : Nm) {m : Int} (hx : S.wt x = false) (hm : IsM m) : OkS (askS S x n m) := by
  have hno : ∀ k, ¬ waitsIn x (S.q k) := fun k hk => by
    have := (h.wait x).2 ⟨k, hk⟩
    rw [hx] at this; cases this
  obtain ⟨h1, h2⟩ := ask_okQ (t := S.turn) (h.ok n) (hno n) hm
  have hw : ∀ j k, waitsIn k ((askS S x n m).q j) ↔ waitsIn k (S.q j) ∨ (j = n ∧ (askQ (S.q n) x m S.turn).2.1 = false ∧ k = x) := fun j k => by
    by_cases e : j = n
    · subst e
      simp only [askS, if_true]
      rw [h2 k]; simp
    · simp only [askS, if_neg e]
      constructor
      · exact .inl
      · rintro (h | h)
        · exact h
        · exact absurd h.1 e
  refine ⟨fun j => ?_, fun k => ?_, fun k j j' hj hj' => ?_⟩
  · by_cases e : j = n
    · simp only [askS, if_pos e]; exact h1
    · simp only [askS, if_neg e]; exact h.ok j
  · have hwt : (askS S x n m).wt k = true ↔ S.wt k = true ∨ ((askQ (S.q n) x m S.turn).2.1 = false ∧ k = x) := by simp [askS]
    rw [hwt, h.wait k]
    constructor
    · rintro (⟨j, hj⟩ | h3)
      · exact ⟨j, (hw j k).2 (.inl hj)⟩
      · exact ⟨n, (hw n k).2 (.inr ⟨rfl, h3⟩)⟩
    · rintro ⟨j, hj⟩
      rcases (hw j k).1 hj with h3 | ⟨-, h3⟩
      · exact .inl ⟨j, h3⟩
      · exact .inr h3
  · rcases (hw j k).1 hj with h3 | ⟨rfl, -, h3⟩
    · rcases (hw j' k).1 hj' with h4 | ⟨rfl, -, h4⟩
      · exact h.once k j j' h3 h4
      · rw [h4] at h3; exact absurd h3 (hno j)
    · rcases (hw j' k).1 hj' with h4 | ⟨rfl, -, h4⟩
      · rw [h3] at h4; exact absurd h4 (hno j')
      · rfl
theorem OkS.rel {S S' : LS} (h : OkS S) {x : Int} (hr : RelS x S S') : OkS S' := by
  obtain ⟨-, ys, h1, h2, h3⟩ := hr
  have key : ∀ n, ∃ xs, RelQ x (S.q n) xs (S'.q n) ∧ (∀ y ∈ xs, waitsIn y (S.q n)) ∧ (∀ k, waitsIn k (S'.q n) ↔ waitsIn k (S.q n) ∧ k ≠ x ∧ k ∉ xs) ∧ Ok (S'.q n) ∧ ∀ k ∈ xs, k ∈ ys := fun n => by
    obtain ⟨xs, hx, hy⟩ := h1 n
    obtain ⟨a, b, c⟩ := hx.ok (h.ok n)
    exact ⟨xs, hx, b, c, a, hy⟩
  have hgiven : ∀ k n, waitsIn k (S.q n) → (k ∈ ys ↔ ∃ xs, RelQ x (S.q n) xs (S'.q n) ∧ k ∈ xs) := fun k n hk => by
    constructor
    · intro hy
      obtain ⟨j, xs, hx, hm⟩ := h2 k hy
      have hwj : waitsIn k (S.q j) := (hx.ok (h.ok j)).2.1 k hm
      have := h.once k n j hk hwj
      subst this
      exact ⟨xs, hx, hm⟩
    · rintro ⟨xs, hx, hm⟩
      obtain ⟨zs, hz, -, -, -, hy⟩ := key n
      rw [(hx.det hz).1] at hm
      exact hy k hm
  have hwn : ∀ k n, waitsIn k (S'.q n) ↔ waitsIn k (S.q n) ∧ k ≠ x ∧ k ∉ ys := fun k n => by
    obtain ⟨xs, hx, -, hc, -, hy⟩ := key n
    rw [hc k]
    constructor
    · rintro ⟨a, b, c⟩
      refine ⟨a, b, fun hk => ?_⟩
      obtain ⟨zs, hz, hm⟩ := (hgiven k n a).1 hk
      rw [(hz.det hx).1] at hm
      exact c hm
    · rintro ⟨a, b, c⟩
      exact ⟨a, b, fun hm => c (hy k hm)⟩
  refine ⟨fun n => by obtain ⟨xs, -, -, -, ho, -⟩ := key n; exact ho, fun k => ?_, fun k n n' hn hn' => h.once k n n' ((hwn k n).1 hn).1 ((hwn k n').1 hn').1⟩
  rw [h3 k, h.wait k]
  constructor
  · rintro ⟨⟨n, hn⟩, b, c⟩
    exact ⟨n, (hwn k n).2 ⟨hn, b, c⟩⟩
  · rintro ⟨n, hn⟩
    obtain ⟨a, b, c⟩ := (hwn k n).1 hn
    exact ⟨⟨n, a⟩, b, c⟩
end
end Go.Proofs.YtileamjmhhifaaaGreat
