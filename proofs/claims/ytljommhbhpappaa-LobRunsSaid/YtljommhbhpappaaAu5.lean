/-
  Layer 22 (audit): node: a node that is one, its kids given.
-/
import Derived.Test.YtljommhbhpappaaAu4
namespace Go.Proofs.Ytljommhbhpappaa
open Go.RowKit Go.Joins
set_option linter.unusedVariables false
set_option linter.unusedSimpArgs false

/-- a page that is no node of that level -/
def BadNode (S : Vol) (st lv x : Int) : Prop := ¬ (stPg S x).s = st ∨ (stE S x = 0 ∧ (stPg S x).s = st ∧ (stPg S x).k = 4 ∧ (¬ (stPg S x).l = lv ∨ ((stPg S x).l = lv ∧ ∀ w, Calls Try.prog 106 #[(stPg S x).v] w fun e w' => ∃ er, er ≠ 0 ∧ e = .returned (.int .i64 er) ∧ Below w.heap.size w w')))
set_option maxHeartbeats 4000000 in
set_option maxRecDepth 100000 in
theorem node_bad {S : Vol} {st lv x : Int} (hb : BadNode S st lv x) {B : Nat} {w : World} {lb q b mb hb' pb : Nat} {seen : List (Int × Int)} {lvs : List Int} (h : AuAt B w lb q b mb hb' pb S seen lvs) (hf : ¬ x ∈ seen.map (·.1)) (lo hi : ByteArray) :
    Calls Try.prog 99 #[.pointer (some ⟨lb, 0, none⟩), .int .i64 st, .int .i64 x, .int .i64 lv, .string lo, .string hi] w fun e w' => ∃ er, e = .returned (.int .i64 er) ∧ er ≠ 0 ∧ AuK B lb q w w' := by
  obtain ⟨p, hp⟩ : ∃ p, stPg S x = p := ⟨_, rfl⟩
  have hsz := h.lo.2.2
  unfold BadNode at hb
  rw [hp] at hb
  rcases hb with hs | ⟨he, hs, hk, hb⟩
  · have hc := Lib.hid (page_bad h st x 4 p hp (.inr (.inr (.inl (by rw [hp]; exact hs)))))
    clear h hf hs hp
    go_enter Try.func99, Try.ntmps99
    go_wp2_with fail
    with_reducible refine hc.out.mono ?_; rintro e w1 ⟨er, her, rfl, hb1⟩
    have he1 : (er == 0) = false := by simpa using her
    have BF := Lib.hid (AuK.of_below (lb := lb) (q := q) (hb1.alloc hb1.size (.cells p.cs 112)) hsz)
    clear hb1 hc
    go_wp2_with fail
    go_ret
    exact ⟨er, rfl, her, BF.out⟩
  · have hc := Lib.hid (page_ok h st x 4 p hp he hs hk hf)
    clear h hf hs hp he hk
    rcases hb with hl | ⟨hl, hck⟩
    · go_enter Try.func99, Try.ntmps99
      go_wp2_with fail
      with_reducible refine hc.out.mono ?_; rintro e w1 ⟨rfl, hA1, hK1⟩
      have R1 := rowAt_at w1 p.cs 112 _ rfl
      have k1 := (cell_row R1 1).trans (show p.cs[1]? = some (.int .i64 p.l) from rfl)
      have x1 : (p.l == lv) = false := by simpa using hl
      have BF := Lib.hid (hK1.trans (AuK.of_below ((Below.refl _ _).alloc (Nat.le_refl _) (.cells p.cs 112)) hA1.lo.2.2))
      generalize p.l = pl at *
      clear hA1 hK1 hc
      go_wp2_with fail
      go_ret
      exact ⟨_, rfl, by decide, BF.out⟩
    · have HCk := Lib.hid hck
      clear hck
      go_enter Try.func99, Try.ntmps99
      go_wp2_with fail
      with_reducible refine hc.out.mono ?_; rintro e w1 ⟨rfl, hA1, hK1⟩
      have R1 := rowAt_at w1 p.cs 112 _ rfl
      have k1 := (cell_row R1 1).trans (show p.cs[1]? = some (.int .i64 lv) by rw [← hl]; rfl)
      have BF := Lib.hid (hK1.trans (AuK.of_below ((Below.refl _ _).alloc (Nat.le_refl _) (.cells p.cs 112)) hA1.lo.2.2))
      have hz := hA1.lo.2.2
      clear hA1 hK1 hc
      go_wp2_with fail
      with_reducible refine (HCk.out _).mono ?_; rintro e w2 ⟨er, her, rfl, hb2⟩
      have he1 : (er == 0) = false := by simpa using her
      have B2 := Lib.hid (BF.out.trans (AuK.of_below hb2 (by rw [World.size_alloc]; omega)))
      clear hb2
      go_wp2_with fail
      go_ret
      exact ⟨_, rfl, by decide, B2.out⟩

/-- a node's keys as a look gathers them -/
def keyVals (L : List NC) : List Value := L.map fun c => .string c.key
theorem keyVals_take (L : List NC) (k : Nat) (h : k < L.length) : keyVals (L.take (k + 1)) = keyVals (L.take k) ++ [.string L[k].key] := by
  unfold keyVals
  rw [List.take_add_one, List.getElem?_eq_getElem h, List.map_append]
  rfl
theorem keyVals_get (L : List NC) (k : Nat) (h : k < L.length) : (keyVals L)[k]? = some (.string L[k].key) := by
  simp [keyVals, h]
theorem own_form22 {w : World} {base n size : Nat} {e : TypeId} {v : Value} {xs : List Value} (h : w.ownsRow base e size v n xs) : ∃ a cap, v = .slice a n cap ∧ (0 < n → ∃ g, a = some ⟨g, 0, none⟩ ∧ base ≤ g ∧ ∃ cur, w.heap[g]? = some (.cells cur e)) := by
  rcases h.2 with ⟨e1, e2⟩ | ⟨g, cap, cur, e1, e2, e3, -⟩
  · exact ⟨none, 0, by rw [e1, e2], fun hn => by omega⟩
  · exact ⟨_, cap, e1, fun _ => ⟨g, rfl, e2, cur, e3⟩⟩
/-- an element of one's own row is stored -/
theorem own_set22 {w : World} {b s n g : Nat} {e : TypeId} {c : Nat} {xs : List Value} (h : w.ownsRow b e s (.slice (some ⟨g, 0, none⟩) n c) n xs) (i : Nat) (hi : i < n * s) (u : Value) :
    (w.setCell ⟨g, i, none⟩ u).ownsRow b e s (.slice (some ⟨g, 0, none⟩) n c) n (xs.set i u) := by
  refine ⟨by rw [List.length_set]; exact h.1, .inr ?_⟩
  rcases h.2 with ⟨e1, -⟩ | ⟨g', cap, cur, e1, e2, e3, e4, e5, e6, e7⟩
  · cases e1
  · cases e1
    refine ⟨g, c, cur.setIfInBounds i u, rfl, e2, setCell_block e3 i u, e4, e5, by simpa using e6, ?_⟩
    rw [Array.toList_setIfInBounds, List.take_set, e7]
theorem own_row22 {w : World} {b s n g : Nat} {e : TypeId} {c : Nat} {xs : List Value} (h : w.ownsRow b e s (.slice (some ⟨g, 0, none⟩) n c) n xs) : ∃ cur, rowAt w g = some cur := by
  rcases h.2 with ⟨e1, -⟩ | ⟨g', cap, cur, e1, e2, e3, e4⟩
  · cases e1
  · cases e1; exact ⟨cur, rowAt_of e3⟩
theorem own_heap22 {w : World} {b s n g : Nat} {e : TypeId} {c : Nat} {xs : List Value} (h : w.ownsRow b e s (.slice (some ⟨g, 0, none⟩) n c) n xs) : ∃ cur, w.heap[g]? = some (.cells cur e) := by
  rcases h.2 with ⟨e1, -⟩ | ⟨g', cap, cur, e1, e2, e3, e4⟩
  · cases e1
  · cases e1; exact ⟨cur, e3⟩
theorem own_cell22 {w : World} {b s n g : Nat} {e : TypeId} {c : Nat} {xs : List Value} (h : w.ownsRow b e s (.slice (some ⟨g, 0, none⟩) n c) n xs) (j : Nat) (u : Value) (hu : xs[j]? = some u) : w.cell? ⟨g, j, none⟩ = some u := by
  have := @World.ownsRow.cells _ _ _ _ _ _ _ h (g := g) rfl j u hu
  rwa [add_at] at this
end Go.Proofs.Ytljommhbhpappaa
