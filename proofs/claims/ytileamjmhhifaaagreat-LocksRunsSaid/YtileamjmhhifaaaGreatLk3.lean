/-
  Layer 9 (locks): slices.DeleteFunc on holds.
-/
import Derived.Test.YtileamjmhhifaaaGreatLk2
import Derived.Laws.CopyRow
namespace Go.Proofs.YtileamjmhhifaaaGreat
open Go.RowKit Go.Joins
set_option linter.unusedVariables false
set_option linter.unusedSimpArgs false
set_option maxRecDepth 10000

/-- only blocks of this class have turned -/
structure Moved (F : Nat → Prop) (w w' : World) : Prop where
  os : w'.os = w.os
  tape : w'.tape = w.tape
  output : w'.output = w.output
  size : w.heap.size ≤ w'.heap.size
  block : ∀ k, k < w.heap.size → ¬ F k → w'.heap[k]? = w.heap[k]?
theorem Moved.refl (F : Nat → Prop) (w : World) : Moved F w w := ⟨rfl, rfl, rfl, Nat.le_refl _, fun _ _ _ => rfl⟩
theorem Moved.trans {F : Nat → Prop} {a b c : World} (h : Moved F a b) (k : Moved (fun i => F i ∨ a.heap.size ≤ i) b c) : Moved F a c :=
  ⟨k.os.trans h.os, k.tape.trans h.tape, k.output.trans h.output, Nat.le_trans h.size k.size, fun i hi hF => (k.block i (Nat.lt_of_lt_of_le hi h.size) fun e => e.elim hF fun e => by omega).trans (h.block i hi hF)⟩
theorem Moved.of_below {F : Nat → Prop} {w w' : World} (h : Below w.heap.size w w') : Moved F w w' := ⟨h.os, h.tape, h.output, h.size, fun k hk _ => h.block k hk⟩
theorem Moved.mono {F G : Nat → Prop} {w w' : World} (h : Moved F w w') (hFG : ∀ i, i < w.heap.size → F i → G i) : Moved G w w' := ⟨h.os, h.tape, h.output, h.size, fun k hk hG => h.block k hk fun hF => hG (hFG k hk hF)⟩
theorem Moved.setCell {F : Nat → Prop} {a w : World} (h : Moved F a w) {p : Addr} (hp : F p.block ∨ a.heap.size ≤ p.block) (u : Value) : Moved F a (w.setCell p u) :=
  h.trans ⟨rfl, rfl, rfl, by simp [World.setCell], fun k hk hF => Below.heap_setCell _ _ _ _ fun e => hF (e ▸ hp)⟩
theorem Moved.setRow {F : Nat → Prop} {a w : World} (h : Moved F a w) {n : Nat} (hp : F n ∨ a.heap.size ≤ n) (c : Array Value) : Moved F a (w.setRow n c) :=
  h.trans ⟨rfl, rfl, rfl, by simp [World.setRow], fun k hk hF => by
    simp only [World.setRow, Array.getElem?_modify]
    by_cases e : n = k
    · subst e; exact absurd hp hF
    · rw [if_neg e]⟩
theorem Moved.alloc {F : Nat → Prop} {a w : World} (h : Moved F a w) (o : Obj) : Moved F a (w.alloc o) :=
  h.trans (.of_below ((Below.refl _ _).alloc (Nat.le_refl _) o))
theorem Moved.below {F : Nat → Prop} {a b c : World} (h : Moved F a b) (k : Below b.heap.size b c) : Moved F a c := h.trans (.of_below k)
theorem Moved.drew {F : Nat → Prop} {a w : World} (h : Moved F a w) : Moved F a w.drew := ⟨h.os, h.tape, h.output, h.size, h.block⟩
theorem Moved.grown {F : Nat → Prop} {a w w' : World} {r : Option Nat} (h : Moved F a w) (hg : w.grownBy w' r) (hr : ∀ k, r = some k → F k ∨ a.heap.size ≤ k) : Moved F a w' :=
  h.trans ⟨hg.os, hg.tape, hg.output, hg.size, fun k hk hF => hg.block k hk fun e => hF (hr k e.symm)⟩
theorem Moved.setBlock {F : Nat → Prop} {a w : World} (h : Moved F a w) {n : Nat} (hn : n < w.heap.size) (hp : F n ∨ a.heap.size ≤ n) (o : Obj) : Moved F a (ChangeMaps.setBlock w n o) :=
  h.trans ⟨rfl, rfl, rfl, by simp [ChangeMaps.setBlock], fun k hk hF => by
    have e : n ≠ k := fun e => hF (e ▸ hp)
    simp [ChangeMaps.setBlock, Array.getElem?_setIfInBounds, e]⟩
/-- what is below all that may turn stays -/
theorem Moved.toBelow {F : Nat → Prop} {B : Nat} {w w' : World} (h : Moved F w w') (hB : B ≤ w.heap.size) (hF : ∀ i, F i → B ≤ i) : Below B w w' :=
  ⟨h.os, h.tape, h.output, h.size, fun k hk => h.block k (by omega) fun e => by have := hF k e; omega⟩

theorem own_frozen {w : World} {b s n g : Nat} {e : TypeId} {c : Nat} {xs : List Value} (h : w.ownsRow b e s (.slice (some ⟨g, 0, none⟩) n c) n xs) (i : Nat) : w.frozen? ⟨g, i, none⟩ = false := by
  rcases h.2 with ⟨h0, -⟩ | ⟨g', cap, cur, h0, h1, h2, -⟩
  · cases h0
  · cases h0
    simp [World.frozen?, h2]
theorem hdRow_set : ∀ (L : List Hd) (i : Nat) (h : Hd), i < L.length → hdRow (L.set i h) = ((((hdRow L).set (i * 4) (.int .i64 h.x)).set (i * 4 + 1) (.int .i64 h.m)).set (i * 4 + 2) (.int .i64 h.w)).set (i * 4 + 3) (.int .i64 h.t)
  | [], i, h, hi => by simp at hi
  | x :: r, 0, h, _ => by simp [hdRow, Hd.l]
  | x :: r, i + 1, h, hi => by
    have ih := hdRow_set r i h (by simpa using hi)
    have e : ∀ (l : List Value) (k : Nat) (v : Value), (x.l ++ l).set (4 + k) v = x.l ++ l.set k v := fun l k v => by
      rw [List.set_append_right _ _ (by rw [Hd.l_len]; omega), Hd.l_len, show 4 + k - 4 = k from by omega]
    show hdRow (x :: r.set i h) = _
    rw [show hdRow (x :: r.set i h) = x.l ++ hdRow (r.set i h) from rfl, ih, show hdRow (x :: r) = x.l ++ hdRow r from rfl, show (i + 1) * 4 = 4 + i * 4 from by omega, show 4 + i * 4 + 1 = 4 + (i * 4 + 1) from by omega, show 4 + i * 4 + 2 = 4 + (i * 4 + 2) from by omega, show 4 + i * 4 + 3 = 4 + (i * 4 + 3) from by omega, e, e, e, e]
theorem wsRow_set : ∀ (L : List Ws) (i : Nat) (h : Ws), i < L.length → wsRow (L.set i h) = ((wsRow L).set (i * 2) (.int .i64 h.x)).set (i * 2 + 1) (.int .i64 h.m)
  | [], i, h, hi => by simp at hi
  | x :: r, 0, h, _ => by simp [wsRow, Ws.l]
  | x :: r, i + 1, h, hi => by
    have ih := wsRow_set r i h (by simpa using hi)
    have e : ∀ (l : List Value) (k : Nat) (v : Value), (x.l ++ l).set (2 + k) v = x.l ++ l.set k v := fun l k v => by
      rw [List.set_append_right _ _ (by rw [Ws.l_len]; omega), Ws.l_len, show 2 + k - 2 = k from by omega]
    show wsRow (x :: r.set i h) = _
    rw [show wsRow (x :: r.set i h) = x.l ++ wsRow (r.set i h) from rfl, ih, show wsRow (x :: r) = x.l ++ wsRow r from rfl, show (i + 1) * 2 = 2 + i * 2 from by omega, show 2 + i * 2 + 1 = 2 + (i * 2 + 1) from by omega, e, e]

/-- clear(s[i:]) of a row whose elements are of ints -/
theorem run_clear_row {t e : TypeId} (w : World) (s : Nat) (ht : Tryz.prog.underlying t = some (.slice e)) (z : Value) (hv : ∀ w, (zeroValue e).run Tryz.prog w = .ok z w) (hzs : z.cells.size = s) (h1 : ∀ v ∈ z.cells.toList, v.oneCell' = true) (ty : TypeId) (B g n cap : Nat) (et : TypeId) (xs : List Value)
    (ho : w.ownsRow B et s (.slice (some ⟨g, 0, none⟩) n cap) n xs) (i : Nat) (hi : i ≤ n) (hs : 0 < s) (c' : Nat) :
    ∃ w', (Builtin.clear_ #[t] ty #[.slice (some ⟨g, i * s, none⟩) (n - i) c']).run Tryz.prog w = .ok (.tuple #[]) w' ∧ w'.ownsRow B et s (.slice (some ⟨g, 0, none⟩) i cap) i (xs.take (i * s)) ∧ Moved (· = g) w w' := by
  obtain ⟨hl, ho⟩ := ho
  rcases ho with ⟨h0, -⟩ | ⟨g', cap', cur, h0, q1, q2, q3, q4, q5, q6⟩
  · cases h0
  · cases h0
    have hle : i * s ≤ n * s := Nat.mul_le_mul_right s hi
    have hle2 : n * s ≤ cap * s := Nat.mul_le_mul_right s q3
    have htk : cur.toList.take (i * s) = xs.take (i * s) := by rw [← q6, List.take_take, Nat.min_eq_left hle]
    have hxl : (xs.take (i * s)).length = i * s := by rw [List.length_take, hl]; omega
    by_cases hn : n - i = 0
    · refine ⟨w, ?_, ⟨hxl, .inr ⟨g, cap, cur, rfl, q1, q2, by omega, q4, q5, htk⟩⟩, .refl _ _⟩
      rw [hn]
      simp [Builtin.clear_, run_underlying ht]
    · obtain ⟨m, hm⟩ : ∃ m, n - i = m + 1 := ⟨n - i - 1, by omega⟩
      have hzl : (Builtin.zeroCells z.cells (n - i)).toList.length = (n - i) * s := by simp [Builtin.zeroCells, hzs]
      have hsum : i * s + (n - i) * s = n * s := by rw [← Nat.add_mul]; congr 1; omega
      have hone : ∀ v ∈ (Builtin.zeroCells z.cells (n - i)).toList, v.oneCell' = true := by
        intro v hv'
        simp only [Builtin.zeroCells, Array.toList_map, List.mem_map, Array.toList_range] at hv'
        obtain ⟨a, -, rfl⟩ := hv'
        have hlt : a % z.cells.size < z.cells.size := Nat.mod_lt _ (by omega)
        rw [getElem!_pos z.cells _ hlt]
        exact h1 _ (by simp)
      have hst := run_storeCells_at Tryz.prog g (i * s) et (Builtin.zeroCells z.cells (n - i)).toList 0 cur w q2 (by rw [hzl, q5]; omega) hone
      generalize hC : (cur.toList.take (i * s + 0) ++ (Builtin.zeroCells z.cells (n - i)).toList ++ cur.toList.drop (i * s + 0 + (Builtin.zeroCells z.cells (n - i)).toList.length)).toArray = C at hst
      refine ⟨w.setRow g C, ?_, ⟨hxl, .inr ⟨g, cap, C, rfl, q1, setRow_heap w g cur C et _ q2, by omega, q4, ?_, ?_⟩⟩, (Moved.refl (· = g) w).setRow (n := g) (.inl rfl) _⟩
      · rw [hm] at hst ⊢
        simp [Builtin.clear_, run_underlying ht, hv, hst]
      · rw [← hC]
        simp only [List.size_toArray, List.length_append, List.length_take, List.length_drop, hzl, Array.length_toList, q5]
        rw [Nat.add_zero, hsum, Nat.min_eq_left (by omega)]
        omega
      · rw [← hC]
        simp only [List.append_assoc, Nat.add_zero]
        rw [List.take_append_of_le_length (by rw [List.length_take, Array.length_toList, q5]; omega), List.take_take, Nat.min_self, htk]

theorem filt_len {α : Type} (p : α → Bool) : ∀ (L : List α) (j : Nat), ((L.take j).filter p).length ≤ j := fun L j => Nat.le_trans (List.length_filter_le ..) (by rw [List.length_take]; omega)
/-- the row in the midst of DeleteFunc -/
def midL {α : Type} (p : α → Bool) (L : List α) (j : Nat) : List α := (L.take j).filter p ++ L.drop ((L.take j).filter p).length
theorem midL_len {α : Type} (p : α → Bool) (L : List α) (j : Nat) (hj : j ≤ L.length) : (midL p L j).length = L.length := by
  have := filt_len p L j
  unfold midL
  rw [List.length_append, List.length_drop]; omega
theorem midL_get {α : Type} (p : α → Bool) (L : List α) (j : Nat) (hj : j < L.length) : (midL p L j)[j]? = some L[j] := by
  have := filt_len p L j
  unfold midL
  rw [List.getElem?_append_right this, List.getElem?_drop, show ((L.take j).filter p).length + (j - ((L.take j).filter p).length) = j from by omega, List.getElem?_eq_getElem hj]
theorem midL_drop {α : Type} (p : α → Bool) (L : List α) (j : Nat) (hj : j < L.length) (h : p L[j] = false) : midL p L (j + 1) = midL p L j ∧ ((L.take (j + 1)).filter p).length = ((L.take j).filter p).length := by
  have e : (L.take (j + 1)).filter p = (L.take j).filter p := by rw [List.take_succ_eq_append_getElem hj, List.filter_append]; simp [h]
  unfold midL
  rw [e]; exact ⟨rfl, rfl⟩
theorem midL_keep {α : Type} (p : α → Bool) (L : List α) (j : Nat) (hj : j < L.length) (h : p L[j] = true) : midL p L (j + 1) = (midL p L j).set ((L.take j).filter p).length L[j] ∧ ((L.take (j + 1)).filter p).length = ((L.take j).filter p).length + 1 := by
  have hf := filt_len p L j
  have e : (L.take (j + 1)).filter p = (L.take j).filter p ++ [L[j]] := by rw [List.take_succ_eq_append_getElem hj, List.filter_append]; simp [h]
  unfold midL
  rw [e]
  refine ⟨?_, by simp⟩
  rw [List.set_append_right _ _ (Nat.le_refl _), Nat.sub_self, List.length_append, List.length_singleton, List.append_assoc]
  congr 1
  rw [List.drop_eq_getElem_cons (i := ((L.take j).filter p).length) (by omega)]
  rfl
theorem midL_all {α : Type} (p : α → Bool) (L : List α) : (midL p L L.length).take (L.filter p).length = L.filter p := by
  unfold midL
  rw [List.take_length, List.take_append_of_le_length (Nat.le_refl _), List.take_length]
theorem midL_start {α : Type} (p : α → Bool) (L : List α) (i : Nat) (hi : i < L.length) (h : ∀ j (hj : j < i) (hl : j < L.length), p L[j] = true) (hp : p L[i] = false) : midL p L (i + 1) = L ∧ ((L.take (i + 1)).filter p).length = i := by
  have e : (L.take i).filter p = L.take i := by
    rw [List.filter_eq_self]
    intro x hx
    obtain ⟨j, hj, rfl⟩ := List.mem_iff_getElem.1 hx
    rw [List.length_take] at hj
    rw [List.getElem_take]
    exact h j (by omega) (by omega)
  obtain ⟨h1, h2⟩ := midL_drop p L i hi hp
  rw [h1, h2]
  unfold midL
  rw [e, List.length_take, Nat.min_eq_left (by omega), List.take_append_drop]
  exact ⟨rfl, rfl⟩
end Go.Proofs.YtileamjmhhifaaaGreat
