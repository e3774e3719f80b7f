/-
  Layer 9 (locks): holds and wishes as values, rows of them, a queue in memory.
-/
import Derived.Test.YtileamjmhhifaaaGreatKMap
import Derived.Test.YtileamjmhhifaaaGreatModes3
import Derived.Below
import Derived.OneCell
import Derived.Laws.AppendOwn
namespace Go.Proofs.YtileamjmhhifaaaGreat
open Go.RowKit Go.Joins
set_option linter.unusedVariables false
set_option linter.unusedSimpArgs false

/-- a hold: transaction, mode, what it wants, when it began to want -/
structure Hd where
  x : Int
  m : Int
  w : Int
  t : Int
deriving DecidableEq
instance : Inhabited Hd := ⟨⟨0, 0, 0, 0⟩⟩
/-- a wish -/
structure Ws where
  x : Int
  m : Int
deriving DecidableEq
instance : Inhabited Ws := ⟨⟨0, 0⟩⟩
def Hd.l (h : Hd) : List Value := [.int .i64 h.x, .int .i64 h.m, .int .i64 h.w, .int .i64 h.t]
def Hd.v (h : Hd) : Value := .agg #[.int .i64 h.x, .int .i64 h.m, .int .i64 h.w, .int .i64 h.t]
def Ws.l (h : Ws) : List Value := [.int .i64 h.x, .int .i64 h.m]
def Ws.v (h : Ws) : Value := .agg #[.int .i64 h.x, .int .i64 h.m]
def hdRow (H : List Hd) : List Value := H.flatMap Hd.l
def wsRow (W : List Ws) : List Value := W.flatMap Ws.l

section
variable {α : Type} {f : α → List Value} {n : Nat}
theorem flat_len (hf : ∀ x, (f x).length = n) : ∀ L : List α, (L.flatMap f).length = L.length * n
  | [] => by simp
  | x :: r => by rw [List.flatMap_cons, List.length_append, flat_len hf r, hf, List.length_cons, Nat.add_mul, Nat.one_mul, Nat.add_comm]
theorem flat_get (hf : ∀ x, (f x).length = n) : ∀ (L : List α) (j k : Nat) (hj : j < L.length) (hk : k < n), (L.flatMap f)[j * n + k]? = (f L[j])[k]?
  | [], j, k, hj, hk => by simp at hj
  | x :: r, 0, k, hj, hk => by
    rw [List.flatMap_cons, List.getElem?_append_left (by rw [hf]; omega)]
    simp
  | x :: r, j + 1, k, hj, hk => by
    have e : (j + 1) * n + k - n = j * n + k := by rw [Nat.add_mul]; omega
    have e2 : n ≤ (j + 1) * n + k := by rw [Nat.add_mul]; omega
    rw [List.flatMap_cons, List.getElem?_append_right (by rw [hf]; exact e2), hf, e]
    exact flat_get hf r j k (by simpa using hj) hk
theorem flat_take (hf : ∀ x, (f x).length = n) : ∀ (L : List α) (k : Nat), (L.flatMap f).take (k * n) = (L.take k).flatMap f
  | L, 0 => by simp
  | [], k + 1 => by simp
  | x :: r, k + 1 => by
    have hx := hf x
    rw [List.take_succ_cons, List.flatMap_cons, List.flatMap_cons, ← flat_take hf r k, List.take_append, hx, List.take_of_length_le (by rw [hx, Nat.add_mul]; omega)]
    congr 2
    rw [Nat.add_mul]; omega
theorem flat_set (hf : ∀ x, (f x).length = n) : ∀ (L : List α) (j : Nat) (y : α), j < L.length → (L.set j y).flatMap f = (L.flatMap f).take (j * n) ++ f y ++ (L.flatMap f).drop (j * n + n)
  | [], j, y, h => by simp at h
  | x :: r, 0, y, h => by
    have hx := hf x
    simp only [List.set_cons_zero, List.flatMap_cons, Nat.zero_mul, List.take_zero, List.nil_append, Nat.zero_add]
    rw [List.drop_append, hx, List.drop_of_length_le (by omega)]
    simp
  | x :: r, j + 1, y, h => by
    have hx := hf x
    have ih := flat_set hf r j y (by simpa using h)
    rw [List.set_cons_succ, List.flatMap_cons, ih, List.flatMap_cons, List.take_append, List.drop_append, hx, List.take_of_length_le (l := f x) (by rw [hx, Nat.add_mul]; omega), List.drop_of_length_le (l := f x) (by rw [hx, Nat.add_mul]; omega)]
    have e1 : (j + 1) * n - n = j * n := by rw [Nat.add_mul]; omega
    have e2 : (j + 1) * n + n - n = j * n + n := by rw [Nat.add_mul]; omega
    rw [e1, e2]
    simp
end
theorem Hd.l_len (h : Hd) : h.l.length = 4 := rfl
theorem Ws.l_len (h : Ws) : h.l.length = 2 := rfl
theorem hdRow_len (H : List Hd) : (hdRow H).length = H.length * 4 := flat_len Hd.l_len H
theorem wsRow_len (W : List Ws) : (wsRow W).length = W.length * 2 := flat_len Ws.l_len W

/-! ## rows that are owned -/
theorem own_cap {w : World} {base n size : Nat} {e : TypeId} {v : Value} {xs : List Value} (h : w.ownsRow base e size v n xs) : ∃ a cap, v = .slice a n cap ∧ n ≤ cap ∧ cap ≤ maxLen ∧ (a = none ∧ n = 0 ∧ cap = 0 ∨ ∃ g, a = some ⟨g, 0, none⟩ ∧ base ≤ g ∧ g < w.heap.size) := by
  rcases h.2 with ⟨rfl, h0⟩ | ⟨g, cap, cur, rfl, hb, hg, hn, hm, -⟩
  · exact ⟨none, 0, by rw [h0], by omega, by simp [maxLen], .inl ⟨rfl, h0, rfl⟩⟩
  · exact ⟨_, _, rfl, hn, hm, .inr ⟨g, rfl, hb, (Array.getElem?_eq_some_iff.1 hg).1⟩⟩
theorem own_ne {w : World} {b b' s s' n n' : Nat} {e e' : TypeId} {v v' : Value} {xs xs' : List Value} (h : w.ownsRow b e s v n xs) (h' : w.ownsRow b' e' s' v' n' xs') (he : e ≠ e') : v.ownBlock = none ∨ v.ownBlock ≠ v'.ownBlock := by
  rcases h.2 with ⟨rfl, _⟩ | ⟨g, cap, cur, rfl, _, hg, _⟩
  · exact .inl rfl
  · right
    rcases h'.2 with ⟨rfl, _⟩ | ⟨g', cap', cur', rfl, _, hg', _⟩
    · simp [Value.ownBlock]
    · simp only [Value.ownBlock, ne_eq, Option.some.injEq]
      intro e1
      rw [e1, hg'] at hg
      simp at hg
      exact he hg.2.symm
theorem own_base {w : World} {b b' s n : Nat} {e : TypeId} {v : Value} {xs : List Value} (h : w.ownsRow b e s v n xs) (hb : ∀ g, v.ownBlock = some g → b' ≤ g) : w.ownsRow b' e s v n xs := by
  refine ⟨h.1, ?_⟩
  rcases h.2 with h0 | ⟨g, cap, cur, rfl, h1, h2, h3⟩
  · exact .inl h0
  · exact .inr ⟨g, cap, cur, rfl, hb g rfl, h2, h3⟩
/-- the row stays where its block stays -/
theorem own_keep {w w' : World} {b s n : Nat} {e : TypeId} {v : Value} {xs : List Value} (h : w.ownsRow b e s v n xs) (hk : ∀ g, v.ownBlock = some g → w'.heap[g]? = w.heap[g]?) : w'.ownsRow b e s v n xs := by
  refine ⟨h.1, ?_⟩
  rcases h.2 with h0 | ⟨g, cap, cur, rfl, h1, h2, h3⟩
  · exact .inl h0
  · exact .inr ⟨g, cap, cur, rfl, h1, (hk g rfl).trans h2, h3⟩
/-- one cell of the row is written -/
theorem own_set {w : World} {b s n g : Nat} {e : TypeId} {c : Nat} {xs : List Value} (h : w.ownsRow b e s (.slice (some ⟨g, 0, none⟩) n c) n xs) (i : Nat) (hi : i < n * s) (u : Value) :
    (w.setCell ⟨g, i, none⟩ u).ownsRow b e s (.slice (some ⟨g, 0, none⟩) n c) n (xs.set i u) := by
  refine ⟨by rw [List.length_set]; exact h.1, .inr ?_⟩
  rcases h.2 with ⟨h0, -⟩ | ⟨g', cap, cur, h0, h1, h2, h3, h4, h5, h6⟩
  · cases h0
  · cases h0
    refine ⟨g, c, cur.setIfInBounds i u, rfl, h1, ?_, h3, h4, by simpa using h5, ?_⟩
    · simp only [World.setCell, Array.getElem?_modify, if_true, h2, Option.map_some]
      simp
    · rw [← h6]
      simp only [Array.toList_setIfInBounds, List.take_set]

/-! ## a queue in memory -/
structure Qu where
  H : List Hd
  W : List Ws
deriving DecidableEq
instance : Inhabited Qu := ⟨⟨[], []⟩⟩
structure QAt (w : World) (B qb : Nat) (hv wv : Value) (Q : Qu) : Prop where
  blk : w.heap[qb]? = some (.cells #[hv, wv] 57)
  held : w.ownsRow B 60 4 hv Q.H.length (hdRow Q.H)
  wish : w.ownsRow B 64 2 wv Q.W.length (wsRow Q.W)
  le : B ≤ qb
/-- the blocks of a queue -/
def qBlk (qb : Nat) (hv wv : Value) (i : Nat) : Prop := i = qb ∨ hv.ownBlock = some i ∨ wv.ownBlock = some i
theorem QAt.keep {w w' : World} {B qb : Nat} {hv wv : Value} {Q : Qu} (h : QAt w B qb hv wv Q) (hk : ∀ i, qBlk qb hv wv i → w'.heap[i]? = w.heap[i]?) : QAt w' B qb hv wv Q :=
  ⟨(hk qb (.inl rfl)).trans h.blk, own_keep h.held fun g hg => hk g (.inr (.inl hg)), own_keep h.wish fun g hg => hk g (.inr (.inr hg)), h.le⟩
theorem QAt.lt {w : World} {B qb : Nat} {hv wv : Value} {Q : Qu} (h : QAt w B qb hv wv Q) {i : Nat} (hi : qBlk qb hv wv i) : B ≤ i ∧ i < w.heap.size := by
  rcases hi with rfl | hi | hi
  · exact ⟨h.le, (Array.getElem?_eq_some_iff.1 h.blk).1⟩
  · exact h.held.lt i hi
  · exact h.wish.lt i hi
theorem QAt.below {w w' : World} {B qb : Nat} {hv wv : Value} {Q : Qu} (h : QAt w B qb hv wv Q) (hb : Below w.heap.size w w') : QAt w' B qb hv wv Q :=
  h.keep fun i hi => hb.block i (h.lt hi).2
theorem QAt.cell0 {w : World} {B qb : Nat} {hv wv : Value} {Q : Qu} (h : QAt w B qb hv wv Q) : w.cell? ⟨qb, 0, none⟩ = some hv := by
  have := cell_of_row w qb 0 _ _ _ h.blk
  simpa using this
theorem QAt.cell1 {w : World} {B qb : Nat} {hv wv : Value} {Q : Qu} (h : QAt w B qb hv wv Q) : w.cell? ⟨qb, 1, none⟩ = some wv := by
  have := cell_of_row w qb 1 _ _ _ h.blk
  simpa using this
/-- the cells of a hold -/
theorem hd_cells {w : World} {B g n c : Nat} {H : List Hd} (h : w.ownsRow B 60 4 (.slice (some ⟨g, 0, none⟩) n c) n (hdRow H)) (j : Nat) (hj : j < H.length) :
    w.cell? ⟨g, j * 4, none⟩ = some (.int .i64 H[j].x) ∧ w.cell? ⟨g, j * 4 + 1, none⟩ = some (.int .i64 H[j].m) ∧ w.cell? ⟨g, j * 4 + 2, none⟩ = some (.int .i64 H[j].w) ∧ w.cell? ⟨g, j * 4 + 3, none⟩ = some (.int .i64 H[j].t) := by
  have hc := h.cells (g := g) rfl
  have hf := flat_get Hd.l_len H j
  refine ⟨?_, ?_, ?_, ?_⟩
  · have := hc (j * 4 + 0) _ ((hf 0 hj (by omega)).trans rfl); simpa [Addr.add_lit] using this
  · have := hc (j * 4 + 1) _ ((hf 1 hj (by omega)).trans rfl); simpa [Addr.add_lit] using this
  · have := hc (j * 4 + 2) _ ((hf 2 hj (by omega)).trans rfl); simpa [Addr.add_lit] using this
  · have := hc (j * 4 + 3) _ ((hf 3 hj (by omega)).trans rfl); simpa [Addr.add_lit] using this
theorem ws_cells {w : World} {B g n c : Nat} {W : List Ws} (h : w.ownsRow B 64 2 (.slice (some ⟨g, 0, none⟩) n c) n (wsRow W)) (j : Nat) (hj : j < W.length) :
    w.cell? ⟨g, j * 2, none⟩ = some (.int .i64 W[j].x) ∧ w.cell? ⟨g, j * 2 + 1, none⟩ = some (.int .i64 W[j].m) := by
  have hc := h.cells (g := g) rfl
  have hf := flat_get Ws.l_len W j
  refine ⟨?_, ?_⟩
  · have := hc (j * 2 + 0) _ ((hf 0 hj (by omega)).trans rfl); simpa [Addr.add_lit] using this
  · have := hc (j * 2 + 1) _ ((hf 1 hj (by omega)).trans rfl); simpa [Addr.add_lit] using this

/-! ## what the functions of a queue compute -/
/-- the place of a transaction's hold -/
def atL (x : Int) : List Hd → Nat → Int
  | [], _ => -1
  | h :: r, i => if h.x = x then i else atL x r (i + 1)
def freeL (x m : Int) (H : List Hd) : Bool := H.all fun h => h.x == x || compatL m h.m
def wantL (H : List Hd) : Bool := H.any fun h => h.w != 0
end Go.Proofs.YtileamjmhhifaaaGreat
