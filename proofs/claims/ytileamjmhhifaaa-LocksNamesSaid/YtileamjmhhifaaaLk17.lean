/-
  Layer 9 (locks): Arcs: what it holds, plain; its parts in memory.
-/
import Derived.Test.YtileamjmhhifaaaLk16
import Derived.Laws.AppendOwnNone
namespace Go.Proofs.Ytileamjmhhifaaa
open Go.RowKit Go.Joins Go.Sort Go.Shelf
set_option linter.unusedVariables false
set_option linter.unusedSimpArgs false

/-- what is owned grows by what is owned, or by nothing -/
theorem app_pr {w : World} {ops : Array Oper} {rest : List Oper} {o : Oper} {a : Act} {Q : Exit → Act → World → Prop} (hgd : o.guard = none) (s x : Operand)
    (ho : o.op = .call { callee := .builtin .append, args := #[s, x], argTypes := #[44, 44] })
    (base base2 : Nat) (v v2 : Value) (L K : List Pr) (hs : a.eval s = v) (hown : w.ownsRow base 48 2 v L.length (arRow L)) (hx : a.eval x = v2) (hown2 : w.ownsRow base2 48 2 v2 K.length (arRow K))
    (hl : L.length ≤ 1000000000000) (hk : K.length ≤ 1000000000000) (hbase : base ≤ w.heap.size)
    (h : ∀ v' w', w'.ownsRow base 48 2 v' (L ++ K).length (arRow (L ++ K)) → w.grownBy w' v.ownBlock → wpList Try.prog ops Q rest (a.put o.dst v') w') : wpList Try.prog ops Q (o :: rest) a w := by
  obtain ⟨i0, hi, hz0, hz1, hz2⟩ := info_parts infoPr
  obtain ⟨al, cp, rfl, -, -, hal⟩ := own_cap hown2
  rcases hal with ⟨rfl, h0, rfl⟩ | ⟨g, rfl, -, -⟩
  · have hK : K = [] := List.length_eq_zero_iff.1 h0
    subst hK
    refine wpList_append_own_none hgd s x _ ho base 48 i0 2 Try.underlying44 hi v L.length (arRow L) hs hown hx (h v w ?_ ⟨rfl, rfl, rfl, Nat.le_refl _, fun _ _ _ => rfl⟩)
    simpa using hown
  · refine wpList_append_own w hgd s x _ ho base 48 i0 _ 2 16 Try.underlying44 hi hz0 hz1 hz2 rfl (by decide) v L.length (arRow L) hs hown ⟨g, 0, none⟩ K.length cp (arRow K) hx (arRow_len K) (fun j u hj => ?_) (arRow_one K) (by simp only [maxLen]; omega) (by omega) hbase fun v' w' h2 h3 _ => h v' w' (by rw [arRow_app, List.length_append]; exact h2) h3
    exact hown2.cells (g := g) rfl j u hj

theorem own_made1 (W : World) (a b : Int) : (W.alloc (.cells #[.int .i64 a, .int .i64 b] 48)).ownsRow W.heap.size 48 2 (.slice (some ⟨W.heap.size, 0, none⟩) 1 1) [((a, b) : Pr)].length (arRow [(a, b)]) :=
  ⟨rfl, .inr ⟨W.heap.size, 1, _, rfl, Nat.le_refl _, heap_alloc_new W _, Nat.le_refl _, by simp [maxLen], rfl, rfl⟩⟩

/-! ## who waits for whom -/
def wantX (x : Int) (H : List Hd) : List Pr := (H.filter fun h => h.w != 0).map fun h => (x, h.x)
def prevX (x : Int) (W : List Ws) : List Pr := W.map fun z => (x, z.x)
def hArcs (Q : Qu) : Nat → List Pr
  | 0 => []
  | k + 1 => hArcs Q k ++ match Q.H[k]? with
    | none => []
    | some h => if (h.w != 0) = true then agL h.x h.w Q.H else []
def wArcs (Q : Qu) : Nat → List Pr
  | 0 => []
  | i + 1 => wArcs Q i ++ match Q.W[i]? with
    | none => []
    | some y => (agL y.x y.m Q.H ++ wantX y.x Q.H) ++ prevX y.x (Q.W.take i)
def arcsQ (Q : Qu) : List Pr := hArcs Q Q.H.length ++ wArcs Q Q.W.length
theorem hArcs_succ (Q : Qu) (k : Nat) (hk : k < Q.H.length) : hArcs Q (k + 1) = hArcs Q k ++ if (Q.H[k].w != 0) = true then agL Q.H[k].x Q.H[k].w Q.H else [] := by
  rw [hArcs, List.getElem?_eq_getElem hk]
theorem wArcs_succ (Q : Qu) (i : Nat) (hi : i < Q.W.length) : wArcs Q (i + 1) = wArcs Q i ++ ((agL Q.W[i].x Q.W[i].m Q.H ++ wantX Q.W[i].x Q.H) ++ prevX Q.W[i].x (Q.W.take i)) := by
  rw [wArcs, List.getElem?_eq_getElem hi]
theorem wantX_len (x : Int) (H : List Hd) : (wantX x H).length ≤ H.length := by
  unfold wantX; rw [List.length_map]; exact List.length_filter_le ..
theorem wantX_succ (x : Int) (H : List Hd) (k : Nat) (hk : k < H.length) : wantX x (H.take (k + 1)) = wantX x (H.take k) ++ if (H[k].w != 0) = true then [(x, H[k].x)] else [] := by
  unfold wantX
  rw [List.take_succ_eq_append_getElem hk, List.filter_append, List.map_append]
  congr 1
  by_cases h : (H[k].w != 0) = true
  · rw [if_pos h]; simp only [List.filter_cons, List.filter_nil]; rw [if_pos h]; rfl
  · rw [if_neg h]; simp only [List.filter_cons, List.filter_nil]; rw [if_neg h]; rfl
theorem prevX_succ (x : Int) (W : List Ws) (k : Nat) (hk : k < W.length) : prevX x (W.take (k + 1)) = prevX x (W.take k) ++ [(x, W[k].x)] := by
  unfold prevX
  rw [List.take_succ_eq_append_getElem hk, List.map_append]; rfl
theorem hArcs_len (Q : Qu) (hN : Q.H.length ≤ 1000) : ∀ k, (hArcs Q k).length ≤ k * 1000
  | 0 => by simp [hArcs]
  | k + 1 => by
    have ih := hArcs_len Q hN k
    rw [hArcs, List.length_append, Nat.succ_mul]
    generalize k * 1000 = z at *
    cases hk : Q.H[k]? with
    | none => simp only [List.length_nil]; omega
    | some h =>
      have := agL_len h.x h.w Q.H
      simp only
      split
      · omega
      · simp only [List.length_nil]; omega
theorem wArcs_len (Q : Qu) (hN : Q.H.length + Q.W.length ≤ 1000) : ∀ k, (wArcs Q k).length ≤ k * 3000
  | 0 => by simp [wArcs]
  | k + 1 => by
    have ih := wArcs_len Q hN k
    rw [wArcs, List.length_append, Nat.succ_mul]
    generalize k * 3000 = z at *
    cases hk : Q.W[k]? with
    | none => simp only [List.length_nil]; omega
    | some y =>
      have h1 := agL_len y.x y.m Q.H
      have h2 := wantX_len y.x Q.H
      simp only [List.length_append, prevX, List.length_map, List.length_take]
      omega
theorem arcsQ_len (Q : Qu) (hN : Q.H.length + Q.W.length ≤ 1000) : (arcsQ Q).length ≤ 4000000 := by
  have h1 := hArcs_len Q (by omega) Q.H.length
  have h2 := wArcs_len Q hN Q.W.length
  unfold arcsQ
  rw [List.length_append]
  have : Q.H.length * 1000 ≤ 1000 * 1000 := Nat.mul_le_mul_right _ (by omega)
  have : Q.W.length * 3000 ≤ 1000 * 3000 := Nat.mul_le_mul_right _ (by omega)
  omega

/-! ## in the midst of Arcs -/
structure ArcAt (w : World) (nb ri : Nat) (M : List (Nm × Value)) (left : Nm → Prop) (cnt : Nat) (tl : Value) (L : List Pr) (wr : World) : Prop where
  own : wr.ownsRow w.heap.size 48 2 tl L.length (arRow L)
  rng : KRange Nm.v wr nb ri M left cnt
  low : Below w.heap.size w wr
  nbl : nb < w.heap.size
  ri : w.heap.size ≤ ri
section
variable {w : World} {nb ri : Nat} {M : List (Nm × Value)} {left : Nm → Prop} {cnt : Nat} {tl : Value} {L : List Pr} {wr : World}
theorem ArcAt.below (h : ArcAt w nb ri M left cnt tl L wr) {w2 : World} (hb : Below wr.heap.size wr w2) : ArcAt w nb ri M left cnt tl L w2 :=
  ⟨own_keep h.own fun g hg => hb.block g (h.own.lt g hg).2, h.rng.kept (hb.block nb (by have := h.low.size; have := h.nbl; omega)) (hb.block ri h.rng.lt), h.low.trans (hb.mono h.low.size), h.nbl, h.ri⟩
theorem ArcAt.alloc (h : ArcAt w nb ri M left cnt tl L wr) (o : Obj) : ArcAt w nb ri M left cnt tl L (wr.alloc o) := h.below ((Below.refl _ _).alloc (Nat.le_refl _) o)
theorem ArcAt.grown (h : ArcAt w nb ri M left cnt tl L wr) {w2 : World} {tl' : Value} {L' : List Pr} (hg : wr.grownBy w2 tl.ownBlock) (ho : w2.ownsRow w.heap.size 48 2 tl' L'.length (arRow L')) : ArcAt w nb ri M left cnt tl' L' w2 := by
  refine ⟨ho, h.rng.kept (hg.block nb (by have := h.low.size; have := h.nbl; omega) fun e => ?_) (hg.block ri h.rng.lt fun e => ?_), h.low.grown hg h.low.size fun q hq => (h.own.lt q hq).1, h.nbl, h.ri⟩
  · have := (h.own.lt nb e.symm).1
    have := h.nbl; omega
  · obtain ⟨c, hc⟩ := own_blkv h.own e.symm
    obtain ⟨s, se, c0, hi⟩ := h.rng.iter
    rw [hi] at hc; cases hc
end
end Go.Proofs.Ytileamjmhhifaaa
