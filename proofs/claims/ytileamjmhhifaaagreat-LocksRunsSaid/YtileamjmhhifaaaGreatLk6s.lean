/-
  Layer 9 (locks): a queue whose holds or wishes are stored anew.
-/
import Derived.Test.YtileamjmhhifaaaGreatLk6c
import Derived.Deep.AppendLies
import Derived.Deep.DeepCutAuto
import Derived.Deep.CutBlock
namespace Go.Proofs.YtileamjmhhifaaaGreat
open Go.RowKit Go.Joins
set_option linter.unusedVariables false
set_option linter.unusedSimpArgs false

theorem heap_ne_ty {w : World} {a b : Nat} {ca cb : Array Value} {ta tb : TypeId} (ha : w.heap[a]? = some (.cells ca ta)) (hb : w.heap[b]? = some (.cells cb tb)) (ht : ta ≠ tb) : a ≠ b := by
  intro e
  rw [e, hb] at ha
  simp at ha
  exact ht ha.2.symm
theorem own_blkv {w : World} {B s n : Nat} {e : TypeId} {v : Value} {xs : List Value} (h : w.ownsRow B e s v n xs) {g : Nat} (hg : v.ownBlock = some g) : ∃ cur, w.heap[g]? = some (.cells cur e) := by
  rcases h.2 with ⟨h0, -⟩ | ⟨g', cap, cur, h0, h1, h2, -⟩
  · rw [h0] at hg; cases hg
  · rw [h0] at hg
    simp only [Value.ownBlock, Option.some.injEq] at hg
    subst hg
    exact ⟨cur, h2⟩
theorem QAt.frozen {w : World} {B qb : Nat} {hv wv : Value} {Q : Qu} (h : QAt w B qb hv wv Q) (i : Nat) : w.frozen? ⟨qb, i, none⟩ = false := by
  simp [World.frozen?, h.blk]
theorem heap_far (w : World) (p : Addr) (v : Value) (k : Nat) (hk : k ≠ p.block) : (w.setCell p v).heap[k]? = w.heap[k]? := Below.heap_setCell _ _ _ _ hk
theorem heap_blk {w : World} {b : Nat} {c : Array Value} {t : TypeId} (h : w.heap[b]? = some (.cells c t)) (i : Nat) (v : Value) : (w.setCell ⟨b, i, none⟩ v).heap[b]? = some (.cells (c.setIfInBounds i v) t) := by
  simp [World.setCell, Array.getElem?_modify, h]
theorem store_wishes {w : World} {B B' qb : Nat} {hv wv v : Value} {H : List Hd} {W' : List Ws} (hblk : w.heap[qb]? = some (.cells #[hv, wv] 57)) (hh : w.ownsRow B 60 4 hv H.length (hdRow H)) (hle : B ≤ qb) (hB : B ≤ B') (hw : w.ownsRow B' 64 2 v W'.length (wsRow W')) :
    QAt (w.setCell ⟨qb, 1, none⟩ v) B qb hv v ⟨H, W'⟩ := by
  refine ⟨(heap_blk hblk 1 v).trans rfl, own_keep hh fun g hg => heap_far _ _ _ _ ?_, own_keep (own_base hw fun g hg => Nat.le_trans hB (hw.lt g hg).1) fun g hg => heap_far _ _ _ _ ?_, hle⟩
  · obtain ⟨c, hc⟩ := own_blkv hh hg
    exact heap_ne_ty hc hblk (by decide)
  · obtain ⟨c, hc⟩ := own_blkv hw hg
    exact heap_ne_ty hc hblk (by decide)
theorem store_holds {w : World} {B B' qb : Nat} {hv wv v : Value} {H' : List Hd} {W : List Ws} (hblk : w.heap[qb]? = some (.cells #[hv, wv] 57)) (hw : w.ownsRow B 64 2 wv W.length (wsRow W)) (hle : B ≤ qb) (hB : B ≤ B') (hh : w.ownsRow B' 60 4 v H'.length (hdRow H')) :
    QAt (w.setCell ⟨qb, 0, none⟩ v) B qb v wv ⟨H', W⟩ := by
  refine ⟨(heap_blk hblk 0 v).trans rfl, own_keep (own_base hh fun g hg => Nat.le_trans hB (hh.lt g hg).1) fun g hg => heap_far _ _ _ _ ?_, own_keep hw fun g hg => heap_far _ _ _ _ ?_, hle⟩
  · obtain ⟨c, hc⟩ := own_blkv hh hg
    exact heap_ne_ty hc hblk (by decide)
  · obtain ⟨c, hc⟩ := own_blkv hw hg
    exact heap_ne_ty hc hblk (by decide)
/-- the holds grew by one, in place or in a new block, and the queue's cell is not written yet -/
theorem push_holds {w w1 : World} {B qb : Nat} {hv wv v : Value} {Q : Qu} (h : QAt w B qb hv wv Q) (hg : w.grownBy w1 hv.ownBlock) {H' : List Hd} (hown : w1.ownsRow B 60 4 v H'.length (hdRow H')) :
    w1.heap[qb]? = some (.cells #[hv, wv] 57) ∧ QAt (w1.setCell ⟨qb, 0, none⟩ v) B qb v wv ⟨H', Q.W⟩ := by
  have hq : w1.heap[qb]? = some (.cells #[hv, wv] 57) := by
    refine (hg.block qb (h.lt (.inl rfl)).2 fun e => ?_).trans h.blk
    obtain ⟨c, hc⟩ := own_blkv h.held e.symm
    exact heap_ne_ty hc h.blk (by decide) rfl
  refine ⟨hq, store_holds hq (own_keep h.wish fun g hgg => hg.block g (h.wish.lt g hgg).2 fun e => ?_) h.le (Nat.le_refl _) hown⟩
  obtain ⟨c, hc⟩ := own_blkv h.held e.symm
  obtain ⟨c', hc'⟩ := own_blkv h.wish hgg
  exact heap_ne_ty hc hc' (by decide) rfl
theorem push_wishes {w w1 : World} {B qb : Nat} {hv wv v : Value} {Q : Qu} (h : QAt w B qb hv wv Q) (hg : w.grownBy w1 wv.ownBlock) {W' : List Ws} (hown : w1.ownsRow B 64 2 v W'.length (wsRow W')) :
    w1.heap[qb]? = some (.cells #[hv, wv] 57) ∧ QAt (w1.setCell ⟨qb, 1, none⟩ v) B qb hv v ⟨Q.H, W'⟩ := by
  have hq : w1.heap[qb]? = some (.cells #[hv, wv] 57) := by
    refine (hg.block qb (h.lt (.inl rfl)).2 fun e => ?_).trans h.blk
    obtain ⟨c, hc⟩ := own_blkv h.wish e.symm
    exact heap_ne_ty hc h.blk (by decide) rfl
  refine ⟨hq, store_wishes hq (own_keep h.held fun g hgg => hg.block g (h.held.lt g hgg).2 fun e => ?_) h.le (Nat.le_refl _) hown⟩
  obtain ⟨c, hc⟩ := own_blkv h.wish e.symm
  obtain ⟨c', hc'⟩ := own_blkv h.held hgg
  exact heap_ne_ty hc hc' (by decide) rfl
theorem own_ne_bl {w : World} {B s n k : Nat} {e t : TypeId} {v : Value} {xs : List Value} {c : Array Value} (h : w.ownsRow B e s v n xs) (hk : w.heap[k]? = some (.cells c t)) (hne : e ≠ t) : v.ownBlock ≠ some k := fun hg => by
  obtain ⟨cur, hc⟩ := own_blkv h hg
  exact heap_ne_ty hc hk hne rfl
theorem own_ne_map {w : World} {B s n k : Nat} {e : TypeId} {v : Value} {xs : List Value} {es : Array MapEntry} {c : Nat} (h : w.ownsRow B e s v n xs) (hk : w.heap[k]? = some (.map es c)) : v.ownBlock ≠ some k := fun hg => by
  obtain ⟨cur, hc⟩ := own_blkv h hg
  rw [hk] at hc; cases hc
theorem push_far {w w1 : World} {qb i : Nat} {v hv : Value} (hg : w.grownBy w1 hv.ownBlock) (k : Nat) (hk : k < w.heap.size) (h1 : k ≠ qb) (h2 : hv.ownBlock ≠ some k) : (w1.setCell ⟨qb, i, none⟩ v).heap[k]? = w.heap[k]? :=
  (heap_far _ _ _ _ h1).trans (hg.block k hk fun e => h2 e.symm)
theorem hdRow_snoc (H : List Hd) (h : Hd) : hdRow (H ++ [h]) = hdRow H ++ h.l := by simp [hdRow]
theorem wsRow_snoc (W : List Ws) (x : Ws) : wsRow (W ++ [x]) = wsRow W ++ x.l := by simp [wsRow]
end Go.Proofs.YtileamjmhhifaaaGreat
