/-
  Layer 9 (locks): the walk of LocksFair.
-/
import Derived.Test.YtileamjmhhifaaaLk27
namespace Go.Proofs.Ytileamjmhhifaaa
open Go.RowKit Go.Joins Go.Sort Go.Shelf
set_option linter.unusedVariables false
set_option linter.unusedSimpArgs false

/-- so much stands at these names, and nothing elsewhere -/
def Tot (S : LS) (g : Nat) : Prop := ∃ Ns : List Nm, (∀ n, sizeQ (S.q n) ≠ 0 → n ∈ Ns) ∧ (Ns.map fun n => sizeQ (S.q n)).sum ≤ g
theorem sum_le {f g : Nm → Nat} : ∀ (L : List Nm), (∀ n, f n ≤ g n) → (L.map f).sum ≤ (L.map g).sum
  | [], _ => Nat.le_refl _
  | x :: r, h => by
    have := sum_le r h
    have := h x
    simp only [List.map_cons, List.sum_cons]; omega
theorem sum_lt {f g : Nm → Nat} : ∀ (L : List Nm) (n : Nm), n ∈ L → f n < g n → (∀ n, f n ≤ g n) → (L.map f).sum < (L.map g).sum
  | x :: r, n, hn, hlt, h => by
    simp only [List.map_cons, List.sum_cons]
    have h1 := h x
    rcases List.mem_cons.1 hn with rfl | hn
    · have := sum_le r h; omega
    · have := sum_lt r n hn hlt h; omega
theorem RelQ.less {x : Int} {Q Q' : Qu} {xs : List Int} (h : RelQ x Q xs Q') (hx : hasQ x Q = true) : sizeQ Q' < sizeQ Q := by
  rcases h with ⟨_, h⟩ | ⟨h0, _⟩
  · rw [h.size]
    have := remQ_lt x Q
    rw [hx] at this
    simpa [sizeQ] using this
  · rw [hx] at h0; cases h0
theorem Tot.rel {S S' : LS} {x : Int} {g : Nat} (h : Tot S g) (hr : RelS x S S') {n : Nm} (hx : hasQ x (S.q n) = true) : ∃ g', g' < g ∧ Tot S' g' := by
  obtain ⟨Ns, h1, h2⟩ := h
  obtain ⟨-, ys, k1, -⟩ := hr
  have hle : ∀ n, sizeQ (S'.q n) ≤ sizeQ (S.q n) := fun n => by obtain ⟨xs, hq, -⟩ := k1 n; exact hq.size
  have hlt : sizeQ (S'.q n) < sizeQ (S.q n) := by obtain ⟨xs, hq, -⟩ := k1 n; exact hq.less hx
  have hn : n ∈ Ns := h1 n (by omega)
  refine ⟨(Ns.map fun n => sizeQ (S'.q n)).sum, Nat.lt_of_lt_of_le (sum_lt (f := fun n => sizeQ (S'.q n)) (g := fun n => sizeQ (S.q n)) Ns n hn hlt hle) h2, Ns, fun m hm => h1 m (by have := hle m; omega), Nat.le_refl _⟩
theorem LT.tot {w : World} {B t : Nat} {O : Nat → Prop} {S : LS} {N : Nat} (h : LT w B t O S N) : ∃ g, Tot S g := by
  obtain ⟨nb, wb, M, E, Wt, h1, h2, -⟩ := h
  refine ⟨_, keysM M, fun n hn => ?_, Nat.le_refl _⟩
  by_cases hk : n ∈ keysM M
  · exact hk
  · rw [← h2 n, qOf_out hk] at hn
    exact absurd rfl hn
theorem AllOf.has {q : Nm → Qu} {Ns : List Nm} {A : List Ho} (h : AllOf q Ns A) {r : Ho} (hr : r ∈ A) : hasQ r.x (q r.n) = true := by
  unfold hasQ
  rw [Bool.or_eq_true, List.any_eq_true, List.any_eq_true]
  rcases ((h.mem r).1 hr).2 with h1 | h1
  · obtain ⟨g, hg, he⟩ := List.mem_map.1 h1
    exact .inl ⟨g, hg, by rw [← he]; simp⟩
  · obtain ⟨y, hy, he⟩ := List.mem_map.1 h1
    exact .inr ⟨y, hy, by rw [← he]; simp⟩
theorem AllOf.there {q : Nm → Qu} {Ns : List Nm} {A : List Ho} (h : AllOf q Ns A) {n : Nm} (hn : n ∈ Ns) {k : Int} (hk : (∃ g ∈ (q n).H, g.x = k) ∨ ∃ y ∈ (q n).W, y.x = k) : ∃ r ∈ A, r.x = k := by
  rcases hk with ⟨g, hg, rfl⟩ | ⟨y, hy, rfl⟩
  · exact ⟨⟨n, g.x, g.m, g.w⟩, (h.mem _).2 ⟨hn, .inl (List.mem_map.2 ⟨g, hg, rfl⟩)⟩, rfl⟩
  · exact ⟨⟨n, y.x, 0, y.m⟩, (h.mem _).2 ⟨hn, .inr (List.mem_map.2 ⟨y, hy, rfl⟩)⟩, rfl⟩
theorem AllOf.nil_empty {q : Nm → Qu} {Ns : List Nm} (h : AllOf q Ns []) (hN : ∀ n, sizeQ (q n) ≠ 0 → n ∈ Ns) : ∀ n, q n = ⟨[], []⟩ := fun n => by
  by_cases h0 : sizeQ (q n) = 0
  · unfold sizeQ at h0
    have h1 : (q n).H = [] := List.length_eq_zero_iff.1 (by omega)
    have h2 : (q n).W = [] := List.length_eq_zero_iff.1 (by omega)
    cases hq : q n with
    | mk a b => rw [hq] at h1 h2; simp only at h1 h2; rw [h1, h2]
  · have hn := hN n h0
    exfalso
    unfold sizeQ at h0
    cases hH : (q n).H with
    | cons g r =>
      obtain ⟨x, hx, -⟩ := h.there hn (k := g.x) (.inl ⟨g, by rw [hH]; exact List.mem_cons_self .., rfl⟩)
      cases hx
    | nil =>
      cases hW : (q n).W with
      | cons y r =>
        obtain ⟨x, hx, -⟩ := h.there hn (k := y.x) (.inr ⟨y, by rw [hW]; exact List.mem_cons_self .., rfl⟩)
        cases hx
      | nil => rw [hH, hW] at h0; exact h0 rfl
end Go.Proofs.Ytileamjmhhifaaa
