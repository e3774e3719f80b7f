/-
  Layer 15 (heap): what an insert says of its record's number.
-/
import Derived.Test.YthehglhbgplfhaaHeap16
import Derived.Test.YthehglhbgplfhaaHeap17
namespace Go.Proofs.Ythehglhbgplfhaa
open Go.RowKit Go.Joins
set_option linter.unusedVariables false
set_option linter.unusedSimpArgs false

theorem read_cell {S : Vol} {n : Nat} {C : List Pg} (hh : HeapOk S n C) (b mb hb pb : Nat) (k i : Nat) (hk : k < C.length) (hi : i < 6) (ha : C[k].a i = 1) (w : World) (hs : StageAt w b mb hb pb S) :
    Calls Try.prog 33 #[.pointer (some ⟨b, 0, none⟩), .int .i64 1, .int .i64 (((2 + k : Nat) : Int) * 8 + (i : Int))] w fun e w' => e = .returned (.tuple #[.string (C[k].d i), .int .i64 0]) ∧ Below w.heap.size w w' := by
  have hn := hh.n1024
  have ht := hh.top
  have hid : ((2 + k : Nat) : Int) * 8 + (i : Int) = (((2 + k) * 8 + i : Nat) : Int) := by omega
  have hhit := hit_at (2 + k) i C[k] hi ha
  rw [hid]
  refine (read_any hh b mb hb pb _ (by omega) w hs).mono ?_
  rintro e w' ⟨hb1, ⟨k', hk', h', rfl⟩ | ⟨hno, rfl⟩⟩
  · have e1 : k' = k := by
      have := (hit_facts h').2.1
      have := (hit_facts hhit).2.1
      omega
    subst e1
    have e2 : ((((2 + k') * 8 + i : Nat) : Int) % 8).toNat = i := by omega
    rw [e2]
    exact ⟨rfl, hb1⟩
  · have := hno k hk
    rw [hhit] at this; cases this

/-- what an insert leaves -/
structure InsPost (S : Vol) (n N : Nat) (C C' : List Pg) (zs : List Int) (len : Nat) (val : ByteArray) (u : Un) (b mb hb pb : Nat) (S5 : Vol) (k i : Nat) (w w1 : World) : Prop where
  grown : w.grownBy w1 (some mb)
  stage : StageAt w1 b mb hb pb S5
  fit : S5.Fit N
  clean : Clean (S5.after 0) n N C'
  step : DoStep C C' u 0
  keep : inRow zs len (((2 + k : Nat) : Int) * 8 + (i : Int)) = false
  fresh : cellA C k i ≠ 1
  lt : k < C'.length
  six : i < 6
  cells : ∀ k' i', i' < 6 → cellA C' k' i' = (if k' = k ∧ i' = i then 1 else cellA C k' i') ∧ cellD C' k' i' = (if k' = k ∧ i' = i then val else cellD C k' i')

theorem insert_kept {S : Vol} {n N : Nat} {C : List Pg} (hc : Clean S n N C) (b mb hb pb : Nat) (val : ByteArray) (vp : Option Addr) (len cap : Nat) (zs : List Int) (w : World) (hs : StageAt w b mb hb pb S) (hR : RowOk w vp len zs) :
    Calls Try.prog 17 #[.pointer (some ⟨b, 0, none⟩), .int .i64 1, .string val, .slice vp len cap] w fun r w1 =>
      (∃ (u : Un) (S5 : Vol) (C' : List Pg) (k i : Nat), r = .returned (.tuple #[.int .i64 (((2 + k : Nat) : Int) * 8 + (i : Int)), u.v, .int .i64 0]) ∧ InsPost S n N C C' zs len val u b mb hb pb S5 k i w w1) ∨
      (∃ (u : Un) (e : Int) (S5 : Vol), (e = 2 ∨ e = 140) ∧ r = .returned (.tuple #[.int .i64 0, u.v, .int .i64 e]) ∧ OpPost S n N C C u e b mb hb pb S5 w w1) := by
  by_cases hv : 32 < val.size
  · refine (insert_long val _ _ vp len cap hv w).mono ?_
    rintro r w1 ⟨rfl, hb1⟩
    exact .inr ⟨Un.zero, 2, S, .inl rfl, rfl, OpPost.none' hc (by omega) (grown_of_below hb1 _) (hs.below hb1 hs.lt) rfl hc.fit⟩
  · refine (insert_any hc.heap b mb hb pb val (by omega) vp len cap zs w hs hR).mono ?_
    rintro r w1 (⟨g, k, i, S1, q, rfl, ho⟩ | ⟨S1, rfl, hbd⟩)
    · have hA := ho.at'
      have hq := hA.pg hA.lt
      have hlen := growN_len g C
      have hsame := SameC.growN C hc.heap.pos g
      have hst := ho.stage
      rw [← hq] at hst
      have hP := OpPost.set (C := C) (S := S) (u := { kind := 1, page := ((2 + k : Nat) : Int), slot := (i : Int), st := q.a i, d := q.d i }) hA.heap (hA.fit N hc.le hc.fit) hc.le hsame (by omega) k hA.lt i ho.six 1 val (by simp [okC]; omega) rfl rfl rfl (by rw [hq]) (by rw [hq]) ho.grown hst
      have hfree : freeAt zs len ((2 + k : Nat) : Int) q i = true := by
        rcases placeI_cases zs len ((2 + k : Nat) : Int) q with ⟨h3, -⟩ | ⟨i', -, h3, h4, -⟩
        · rw [ho.place] at h3; omega
        · have : i' = i := by rw [ho.place] at h3; omega
          subst this; exact h4
      simp only [freeAt, Bool.and_eq_true, Bool.not_eq_true', decide_eq_false_iff_not] at hfree
      refine .inl ⟨_, _, _, k, i, rfl, hP.grown, hP.stage, hP.fit, hP.clean, hP.step, hfree.2, ?_, by rw [List.length_set]; exact hA.lt, ho.six, fun k' i' hi' => ?_⟩
      · have h1 := (hsame k i ho.six).1
        rw [cellA_lt hA.lt, hq] at h1
        rw [← h1]; exact hfree.1
      · have h2 := cell_set hA.lt i ho.six 1 val k' i' hi'
        have h3 := hsame k' i' hi'
        rw [h3.1, h3.2] at h2
        exact h2
    · exact .inr ⟨Un.zero, 140, S1, .inr rfl, rfl, OpPost.none' hc (by omega) hbd.grown hbd.stage hbd.base (hbd.fit N hc.le hc.fit)⟩

/-- no record had that number before -/
theorem InsPost.new {S S5 : Vol} {n N : Nat} {C C' : List Pg} {zs : List Int} {len : Nat} {val : ByteArray} {u : Un} {b mb hb pb k i : Nat} {w w1 : World} (h : InsPost S n N C C' zs len val u b mb hb pb S5 k i w w1) : ∀ x ∈ recs 2 C, x.1 ≠ ((2 + k : Nat) : Int) * 8 + (i : Int) := by
  intro x hx e
  obtain ⟨k', hk', i', hi', ha, rfl⟩ := recs_mem hx
  have hi := h.six
  have e' : (((2 + k') * 8 + i' : Nat) : Int) = ((2 + k : Nat) : Int) * 8 + (i : Int) := e
  have h1 : k' = k := by omega
  have h2 : i' = i := by omega
  subst h1 h2
  have := h.fresh
  rw [cellA_lt hk'] at this
  exact this ha
theorem InsPost.read {S S5 : Vol} {n N : Nat} {C C' : List Pg} {zs : List Int} {len : Nat} {val : ByteArray} {u : Un} {b mb hb pb k i : Nat} {w w1 : World} (h : InsPost S n N C C' zs len val u b mb hb pb S5 k i w w1) : ∃ hk : k < C'.length, C'[k].a i = 1 ∧ C'[k].d i = val := by
  have hc := h.cells k i h.six
  rw [if_pos ⟨rfl, rfl⟩, if_pos ⟨rfl, rfl⟩, cellA_lt h.lt, cellD_lt h.lt] at hc
  exact ⟨h.lt, hc.1, hc.2⟩
theorem own_poked {w w' : World} {B n s : Nat} {e : TypeId} {v : Value} {xs : List Value} {cs : List Nat} (h : w.ownsRow B e s v n xs) (hp : Poked cs w w') (hc : ∀ q ∈ cs, v.ownBlock ≠ some q) : w'.ownsRow B e s v n xs := by
  refine ⟨h.1, ?_⟩
  rcases h.2 with h0 | ⟨g, cap, cur, rfl, h1, h2, h3⟩
  · exact .inl h0
  · exact .inr ⟨g, cap, cur, rfl, h1, (hp.block g (Array.getElem?_eq_some_iff.1 h2).1 (fun hm => hc g hm rfl)).trans h2, h3⟩
/-- a row of pairs lies apart from a stage -/
theorem own_stage {w : World} {B n : Nat} {v : Value} {xs : List Value} {b mb hb pb : Nat} {S : Vol} (h : w.ownsRow B 90 3 v n xs) (hs : StageAt w b mb hb pb S) : ∀ q ∈ [mb, pb], v.ownBlock ≠ some q := by
  intro q hq e
  obtain ⟨-, ⟨es, c, hm, -⟩, hsh, -⟩ := hs
  rcases h.2 with ⟨rfl, _⟩ | ⟨g, cap, cur, rfl, _, hg, _⟩
  · cases e
  · simp only [Value.ownBlock, Option.some.injEq] at e
    subst e
    simp only [List.mem_cons, List.not_mem_nil, or_false] at hq
    rcases hq with rfl | rfl
    · rw [hg] at hm; cases hm
    · have := hsh.2.1
      rw [hg] at this
      simp only [Option.some.injEq, Obj.cells.injEq] at this
      exact absurd this.2.1 (by decide)
end Go.Proofs.Ythehglhbgplfhaa
