/-
  Layer 15 (heap), for any chain of pages: Insert, with nothing to be kept.
-/
import Derived.Test.YtljommhbhpappaaGreatHg5
namespace Go.Proofs.YtljommhbhpappaaGreat
open Go.RowKit Go.Joins
set_option linter.unusedVariables false
set_option linter.unusedSimpArgs false

/-- its variables -/
structure InsMem (w wr : World) (b mb hb pb : Nat) (v : Value) (S1 : Vol) (at' slot : Int) (q : Pg) : Prop where
  grown : w.grownBy wr (some mb)
  stage : StageAt wr b mb hb pb S1
  c7 : wr.heap[w.heap.size]? = some (.cells #[v] 45)
  c9 : wr.heap[w.heap.size + 1]? = some (.cells Un.zero.cs 74)
  c11 : wr.heap[w.heap.size + 1 + 1]? = some (.cells #[.int .i64 at'] 3)
  c12 : wr.heap[w.heap.size + 1 + 1 + 1]? = some (.cells #[.int .i64 slot] 3)
  c13 : wr.heap[w.heap.size + 1 + 1 + 1 + 1]? = some (.cells q.cs 38)
theorem InsMem.below {w wr w2 : World} {b mb hb pb : Nat} {v : Value} {S1 : Vol} {a s : Int} {q : Pg} (h : InsMem w wr b mb hb pb v S1 a s q) (hb2 : Below wr.heap.size wr w2) : InsMem w w2 b mb hb pb v S1 a s q :=
  ⟨grown_below' h.grown (hb2.mono (by have := h.grown.size; omega)), h.stage.below hb2 h.stage.lt, (hb2.block _ (Array.getElem?_eq_some_iff.1 h.c7).1).trans h.c7, (hb2.block _ (Array.getElem?_eq_some_iff.1 h.c9).1).trans h.c9, (hb2.block _ (Array.getElem?_eq_some_iff.1 h.c11).1).trans h.c11, (hb2.block _ (Array.getElem?_eq_some_iff.1 h.c12).1).trans h.c12, (hb2.block _ (Array.getElem?_eq_some_iff.1 h.c13).1).trans h.c13⟩
theorem InsMem.poked {w wr w2 : World} {b mb hb pb : Nat} {v : Value} {S1 : Vol} {a s a' s' : Int} {q q' : Pg} (h : InsMem w wr b mb hb pb v S1 a s q) (hl : b < w.heap.size ∧ mb < w.heap.size ∧ hb < w.heap.size ∧ pb < w.heap.size) (hp : Poked [w.heap.size + 1 + 1, w.heap.size + 1 + 1 + 1, w.heap.size + 1 + 1 + 1 + 1] wr w2)
    (h11 : w2.heap[w.heap.size + 1 + 1]? = some (.cells #[.int .i64 a'] 3)) (h12 : w2.heap[w.heap.size + 1 + 1 + 1]? = some (.cells #[.int .i64 s'] 3)) (h13 : w2.heap[w.heap.size + 1 + 1 + 1 + 1]? = some (.cells q'.cs 38)) : InsMem w w2 b mb hb pb v S1 a' s' q' := by
  have hz := h.grown.size
  have hB : Below w.heap.size wr w2 := ⟨hp.os, hp.tape, hp.output, hp.size, fun i hi => hp.block i (by omega) (by simp; omega)⟩
  exact ⟨grown_below' h.grown hB, h.stage.below hB hl, (hp.block _ (Array.getElem?_eq_some_iff.1 h.c7).1 (by simp; omega)).trans h.c7, (hp.block _ (Array.getElem?_eq_some_iff.1 h.c9).1 (by simp)).trans h.c9, h11, h12, h13⟩
theorem InsMem.grow {w wr w2 : World} {b mb hb pb : Nat} {v : Value} {S1 S2 : Vol} {a s : Int} {q : Pg} (h : InsMem w wr b mb hb pb v S1 a s q) (hl : mb < w.heap.size) (hg : wr.grownBy w2 (some mb)) (hs : StageAt w2 b mb hb pb S2) : InsMem w w2 b mb hb pb v S2 a s q :=
  ⟨h.grown.trans hg, hs, (hg.block _ (Array.getElem?_eq_some_iff.1 h.c7).1 (by simp; omega)).trans h.c7, (hg.block _ (Array.getElem?_eq_some_iff.1 h.c9).1 (by simp; omega)).trans h.c9, (hg.block _ (Array.getElem?_eq_some_iff.1 h.c11).1 (by simp; omega)).trans h.c11, (hg.block _ (Array.getElem?_eq_some_iff.1 h.c12).1 (by simp; omega)).trans h.c12, (hg.block _ (Array.getElem?_eq_some_iff.1 h.c13).1 (by simp; omega)).trans h.c13⟩
set_option maxHeartbeats 2000000 in
set_option maxRecDepth 100000 in
theorem insert_long (val : ByteArray) (a b : Value) (vp : Option Addr) (len cap : Nat) (hl : 32 < val.size) (w : World) :
    Calls Tryz.prog 23 #[a, b, .string val, .slice vp len cap] w fun e w' => e = .returned (.tuple #[.int .i64 0, Un.zero.v, .int .i64 2]) ∧ Below w.heap.size w w' := by
  go_enter Tryz.func23, Tryz.ntmps23
  go_wp2_with fail
  exact ret_tut rfl rfl (w.heap.size + 1) Un.zero rfl (by simp [go_sem]) ⟨rfl, ((Below.refl _ _).alloc (Nat.le_refl _) _).alloc (by simp) _⟩
theorem cf45 (args : Array Value) (w : World) : (callFunc 42 args).run Tryz.prog w = .ok (.enter 42 args) w := by kernel_rfl
def insStart (w : World) (v : Value) : World := ((((w.alloc (.cells #[v] 45)).alloc (.cells Un.zero.cs 74)).alloc (.cells #[.int .i64 0] 3)).alloc (.cells #[.int .i64 (-1)] 3)).alloc (.cells Pg.zero.cs 38)
theorem insStart_mem (w : World) (v : Value) (b mb hb pb : Nat) (S : Vol) (hs : StageAt w b mb hb pb S) : InsMem w (insStart w v) b mb hb pb v S 0 (-1) Pg.zero ∧ Below w.heap.size w (insStart w v) := by
  have hB : Below w.heap.size w (insStart w v) := ((((((Below.refl _ _).alloc (Nat.le_refl _) _).alloc (by simp) _).alloc (by simp only [World.size_alloc]; omega) _).alloc (by simp only [World.size_alloc]; omega) _).alloc (by simp only [World.size_alloc]; omega) _)
  refine ⟨⟨grown_of_below hB _, hs.below hB hs.lt, ?_, ?_, ?_, ?_, ?_⟩, hB⟩
  · exact (Below.heap_alloc _ _ _ (by simp only [World.size_alloc]; omega)).trans ((Below.heap_alloc _ _ _ (by simp only [World.size_alloc]; omega)).trans ((Below.heap_alloc _ _ _ (by simp only [World.size_alloc]; omega)).trans ((Below.heap_alloc _ _ _ (by simp)).trans (heap_alloc_new _ _))))
  · refine (Below.heap_alloc _ _ _ (by simp only [World.size_alloc]; omega)).trans ((Below.heap_alloc _ _ _ (by simp only [World.size_alloc]; omega)).trans ((Below.heap_alloc _ _ _ (by simp)).trans ?_))
    have := heap_alloc_new (w.alloc (.cells #[v] 45)) (.cells Un.zero.cs 74)
    simpa only [World.size_alloc] using this
  · refine (Below.heap_alloc _ _ _ (by simp only [World.size_alloc]; omega)).trans ((Below.heap_alloc _ _ _ (by simp)).trans ?_)
    have := heap_alloc_new ((w.alloc (.cells #[v] 45)).alloc (.cells Un.zero.cs 74)) (.cells #[.int .i64 0] 3)
    simpa only [World.size_alloc] using this
  · refine (Below.heap_alloc _ _ _ (by simp)).trans ?_
    have := heap_alloc_new (((w.alloc (.cells #[v] 45)).alloc (.cells Un.zero.cs 74)).alloc (.cells #[.int .i64 0] 3)) (.cells #[.int .i64 (-1)] 3)
    simpa only [World.size_alloc] using this
  · have := heap_alloc_new ((((w.alloc (.cells #[v] 45)).alloc (.cells Un.zero.cs 74)).alloc (.cells #[.int .i64 0] 3)).alloc (.cells #[.int .i64 (-1)] 3)) (.cells Pg.zero.cs 38)
    simp only [World.size_alloc] at this
    exact this
theorem insStart_size (w : World) (v : Value) : (insStart w v).heap.size = w.heap.size + 1 + 1 + 1 + 1 + 1 := by simp [insStart]

/-- while Insert walks -/
def GInsWalk (w : World) (I : List Nat) (C : List Pg) (v : Value) (b mb hb pb : Nat) (S : Vol) (k : Nat) (wr : World) : Prop :=
  ∃ (a s : Int) (q : Pg), InsMem w wr b mb hb pb v S a s q ∧ Below w.heap.size w wr ∧ ∀ j, k = j + 1 → a = ((I.getD j 0 : Nat) : Int) ∧ s = placeI [] 0 ((I.getD j 0 : Nat) : Int) q ∧ ∀ h : j < C.length, q = C[j]
/-- no page has a place -/
def NoPlace (I : List Nat) (C : List Pg) : Prop := ∀ j (h : j < C.length), placeI [] 0 ((I.getD j 0 : Nat) : Int) C[j] = -1
/-- where a record is laid: on a page of the chain, or on a new one -/
def GPlace (S : Vol) (m : Pg) (n : Nat) (st : Int) (I : List Nat) (C : List Pg) (g : Nat) (S1 : Vol) (a : Nat) (q : Pg) : Prop :=
  (g = 0 ∧ S1 = S ∧ ∃ k, ∃ h : k < C.length, a = I.getD k 0 ∧ q = C[k] ∧ (placeI [] 0 (a : Int) q = -1 → k + 1 = C.length ∧ NoPlace I C)) ∨
  (g = 1 ∧ NoPlace I C ∧ q = freshG st ∧ ∃ S0 m0, takeV n S m = some (a, S0, m0) ∧ S1 = (S0.put ((I.getD (C.length - 1) 0 : Nat) : Int) ((C.getD (C.length - 1) Pg.zero).link (a : Int))).put (a : Int) (freshG st))
theorem RowOk.nil0 (w : World) : RowOk w none 0 [] := ⟨by omega, .inl rfl⟩
theorem placeI_fresh (id : Int) (st : Int) : placeI [] 0 id (freshG st) = 0 := placeI_at 0 (by omega) rfl (fun j hj => by omega)

set_option maxHeartbeats 2000000 in
/-- the pages of a heap, till a place is found -/
theorem ginsert_walk {S : Vol} {d m : Pg} {n : Nat} {st : Int} {I : List Nat} {C : List Pg} (hh : GH S d m n st I C) (b mb hb pb : Nat) (w : World) (hs : StageAt w b mb hb pb S) :
    Calls Tryz.prog 41 #[.pointer (some ⟨b, 0, none⟩), .int .i64 st, .func (.func 42) #[] #[.pointer (some ⟨w.heap.size, 0, none⟩), .pointer (some ⟨w.heap.size + 1 + 1, 0, none⟩), .pointer (some ⟨w.heap.size + 1 + 1 + 1, 0, none⟩), .pointer (some ⟨w.heap.size + 1 + 1 + 1 + 1, 0, none⟩)]] (insStart w (.slice none 0 0)) fun e w' =>
      e = .returned (.int .i64 0) ∧ ∃ a q, GPlace S m n st I C 0 S a q ∧ InsMem w w' b mb hb pb (.slice none 0 0) S (a : Int) (placeI [] 0 (a : Int) q) q := by
  obtain ⟨hm, hB⟩ := insStart_mem w (.slice none 0 0) b mb hb pb S hs
  have hn := hh.n1024
  refine (gwalk_any 42 _ cf45 hh b (fun k => decide (0 ≤ placeI [] 0 ((I.getD k 0 : Nat) : Int) (C.getD k Pg.zero))) (GInsWalk w I C (.slice none 0 0) b mb hb pb S) _ ?_ ?_ ?_ ?_).mono ?_
  · rintro k w' ⟨a, s, q, h1, -⟩
    exact ⟨mb, hb, pb, h1.stage⟩
  · rintro k w' w'' ⟨a, s, q, h1, h2, h3⟩ hb2
    exact ⟨a, s, q, h1.below hb2, h2.trans (hb2.mono h2.size), h3⟩
  · rintro k hk w' hz ⟨a, s, q, h1, h2, h3⟩
    rw [insStart_size] at hz
    have hown := hh.own k hk
    refine (visit_ins ((I.getD k 0 : Nat) : Int) C[k] w.heap.size (w.heap.size + 1 + 1) (w.heap.size + 1 + 1 + 1) (w.heap.size + 1 + 1 + 1 + 1) none 0 0 [] w' (by omega) (by omega) (RowOk.nil0 _) h1.c7 _ _ q h1.c11 h1.c12 h1.c13 (by omega)).mono ?_
    rintro e w'' ⟨rfl, hp, g1, g2, g3⟩
    refine ⟨by rw [getD_get hk], ⟨_, _, C[k], h1.poked hs.lt hp g1 g2 g3, h2.trans ⟨hp.os, hp.tape, hp.output, hp.size, fun i hi => hp.block i (by omega) (by simp; omega)⟩, ?_⟩, hp.size, fun q c hq hc => ?_⟩
    · intro j hj
      obtain rfl : k = j := by omega
      exact ⟨rfl, rfl, fun _ => rfl⟩
    · rw [insStart_size] at hq
      exact (hp.block q (Array.getElem?_eq_some_iff.1 hc).1 (by simp; omega)).trans hc
  · exact ⟨0, -1, Pg.zero, hm, hB, fun j hj => by omega⟩
  · rintro e w' ⟨rfl, -, k, hk, ⟨a, s, q, h1, h2, h3⟩, hno, hst⟩
    obtain ⟨rfl, rfl, hq⟩ := h3 k rfl
    have hqk := hq hk
    have hall : placeI [] 0 ((I.getD k 0 : Nat) : Int) q = -1 → k + 1 = C.length ∧ NoPlace I C := by
      intro hp
      have hl : k + 1 = C.length := by
        rcases hst with h | h
        · rw [getD_get hk, ← hqk, hp] at h; cases h
        · exact h
      refine ⟨hl, fun j hj => ?_⟩
      by_cases e : j = k
      · subst e; rw [← hqk]; exact hp
      · have := hno j (by omega)
        rw [getD_get hj] at this
        rcases placeI_cases [] 0 ((I.getD j 0 : Nat) : Int) C[j] with h | ⟨i, -, h, -⟩
        · exact h.1
        · rw [h] at this; simp at this
    exact ⟨rfl, I.getD k 0, q, .inl ⟨rfl, rfl, k, hk, rfl, hqk, hall⟩, h1⟩

set_option maxHeartbeats 8000000 in
set_option maxRecDepth 100000 in
theorem ginsert_any {S : Vol} {d m : Pg} {n : Nat} {st : Int} {I : List Nat} {C : List Pg} (hh : GH S d m n st I C) (b mb hb pb : Nat) (val : ByteArray) (hval : val.size ≤ 32) (w : World) (hs : StageAt w b mb hb pb S) :
    Calls Tryz.prog 23 #[.pointer (some ⟨b, 0, none⟩), .int .i64 st, .string val, .slice none 0 0] w fun e w' =>
      (∃ (g a i : Nat) (S1 : Vol) (q : Pg), e = .returned (.tuple #[.int .i64 ((a : Int) * 8 + (i : Int)), Un.v { kind := 1, page := (a : Int), slot := (i : Int), st := q.a i, d := q.d i }, .int .i64 0]) ∧ GPlace S m n st I C g S1 a q ∧ i < 6 ∧ placeI [] 0 (a : Int) q = (i : Int) ∧ w.grownBy w' (some mb) ∧ StageAt w' b mb hb pb (S1.put (a : Int) (q.setC i 1 val))) ∨
      (e = .returned (.tuple #[.int .i64 0, Un.zero.v, .int .i64 140]) ∧ takeV n S m = none ∧ w.grownBy w' (some mb) ∧ StageAt w' b mb hb pb S) := by
  have hl := hs.lt
  have hv : ¬ 32 < val.size := by omega
  have hn := hh.n1024
  have HH := Lib.hid hh
  have HS := Lib.hid hs
  have hst6 : 1 ≤ st ∧ st ≤ 6 := by obtain ⟨k, h1, h2, -⟩ := hh.slot; omega
  go_enter Tryz.func23, Tryz.ntmps23
  go_wp2_with fail
  refine Calls.mono (ginsert_walk HH.out b mb hb pb w HS.out) ?_
  rintro e w1 ⟨rfl, a0, q0, hA0, hM0⟩
  have HA0 := Lib.hid hA0
  have HM0 := Lib.hid hM0
  have HC := Lib.hid (fun (id : Int) (p : Pg) (w' : World) (h0 : 0 ≤ id) (h1 : id < 1024) => place_any id p none 0 0 [] w' h0 h1 (RowOk.nil0 _))
  clear hA0 hM0 hs hh
  go_wp2_with fail
  go_loopw [14, 15] (fun e mm wr =>
      (∃ (g a : Nat) (S1 : Vol) (q : Pg), g ≤ 1 ∧ e = .int .i64 0 ∧ mm = .int .i64 g ∧ GPlace S m n st I C g S1 a q ∧ InsMem w wr b mb hb pb (.slice none 0 0) S1 (a : Int) (placeI [] 0 (a : Int) q) q) ∨
      (∃ (a s : Int) (q : Pg), e = .int .i64 140 ∧ mm = .int .i64 1 ∧ takeV n S m = none ∧ InsMem w wr b mb hb pb (.slice none 0 0) S a s q)) (fun _ mm _ => 6 - (intOf mm).toNat)
  case atStart => exact .inl ⟨0, a0, S, q0, by omega, rfl, rfl, HA0.out, HM0.out⟩
  case round =>
    rcases hrel with ⟨g, a, S1, q, hg1, rfl, rfl, hA, hM⟩ | ⟨a, s, q, rfl, rfl, htk, hM⟩
    · have HA := Lib.hid hA
      have HM := Lib.hid hM
      have hfacts : okPg q = true ∧ 2 ≤ a ∧ a < n := by
        rcases hA with ⟨-, -, k, hk, rfl, rfl, -⟩ | ⟨-, -, rfl, S0, m0, ht, -⟩
        · exact ⟨HH.out.ok k hk, HH.out.own k hk⟩
        · obtain ⟨-, -, h2, h3, -⟩ := takeV_some HH.out.vol ht
          exact ⟨freshG_ok st hst6, h2, h3⟩
      obtain ⟨hokq0, ha2, han⟩ := hfacts
      have HOk := Lib.hid hokq0
      have cc11 := (cell_of_block hM.c11 0).trans rfl
      have cc12 := (cell_of_block hM.c12 0).trans rfl
      have cc7 := (cell_of_block hM.c7 0).trans rfl
      have ff11 : wr.frozen? ⟨w.heap.size + 1 + 1, 0, none⟩ = false := by simp [World.frozen?, hM.c11]
      have R13 := rowAt_of hM.c13
      have hwr := (Array.getElem?_eq_some_iff.1 hM.c13).1
      have hz := hM.grown.size
      clear hokq0
      rcases placeI_cases [] 0 (a : Int) q with ⟨hp, -⟩ | ⟨i, hi, hp, hfree, -⟩
      · rw [hp] at cc12
        have e1 : decide ((-1 : Int) < 0) = true := rfl
        have hA2 := hA
        rcases hA2 with ⟨rfl, rfl, k, hk, hak, hqk, hnp⟩ | ⟨-, -, hq, -⟩
        · obtain ⟨hkl, hfull⟩ := hnp hp
          have HFull := Lib.hid hfull
          have hla : I.getD (C.length - 1) 0 = a := by rw [hak]; congr 1; omega
          have hlq : C.getD (C.length - 1) Pg.zero = q := by rw [hqk, show C.length - 1 = k from by omega, getD_get hk]
          cases htk : takeV n S1 m with
          | none =>
            have HC2 := Lib.hid (ggrow_none HH.out.vol st htk b mb hb pb wr hM.stage (a : Int) q)
            have HTk := Lib.hid htk
            clear hp hA hM htk hnp hfull hak hqk hla hlq
            go_wp2_with fail
            with_reducible refine HC2.out.mono ?_; rintro e w2 ⟨rfl, hb2⟩
            have hM2 := HM.out.below hb2
            have dd11 := (cell_of_block hM2.c11 0).trans rfl
            have df11 : w2.frozen? ⟨w.heap.size + 1 + 1, 0, none⟩ = false := by simp [World.frozen?, hM2.c11]
            have dR13 := (rowAt_setCell_far w2 ⟨w.heap.size + 1 + 1, 0, none⟩ (.int .i64 0) (w.heap.size + 1 + 1 + 1 + 1) (by show w.heap.size + 1 + 1 ≠ _; omega)).trans (rowAt_of hM2.c13)
            have hP3 : Poked [w.heap.size + 1 + 1, w.heap.size + 1 + 1 + 1, w.heap.size + 1 + 1 + 1 + 1] w2 ((w2.setCell ⟨w.heap.size + 1 + 1, 0, none⟩ (.int .i64 0)).setRow (w.heap.size + 1 + 1 + 1 + 1) Pg.zero.cs) :=
              ((Poked.of_below (Below.refl _ _)).setCell _ _ (by simp)).setRow _ _ (by simp)
            have t11 := (heap_setRow_far (w2.setCell ⟨w.heap.size + 1 + 1, 0, none⟩ (.int .i64 0)) (w.heap.size + 1 + 1 + 1 + 1) (w.heap.size + 1 + 1) Pg.zero.cs (by omega)).trans (setCell_block hM2.c11 0 (.int .i64 0))
            have t12 := (heap_setRow_far (w2.setCell ⟨w.heap.size + 1 + 1, 0, none⟩ (.int .i64 0)) (w.heap.size + 1 + 1 + 1 + 1) (w.heap.size + 1 + 1 + 1) Pg.zero.cs (by omega)).trans ((heap_setCell_far w2 ⟨w.heap.size + 1 + 1, 0, none⟩ (.int .i64 0) (w.heap.size + 1 + 1 + 1) (by show w.heap.size + 1 + 1 ≠ _; omega)).trans hM2.c12)
            have t13 := setRow_heap (w2.setCell ⟨w.heap.size + 1 + 1, 0, none⟩ (.int .i64 0)) (w.heap.size + 1 + 1 + 1 + 1) _ Pg.zero.cs _ _ ((heap_setCell_far w2 ⟨w.heap.size + 1 + 1, 0, none⟩ (.int .i64 0) (w.heap.size + 1 + 1 + 1 + 1) (by show w.heap.size + 1 + 1 ≠ _; omega)).trans hM2.c13)
            have hM3 := hM2.poked (a' := 0) (s' := placeI [] 0 (a : Int) q) (q' := Pg.zero) hl hP3 t11 t12 t13
            have HM3 := Lib.hid hM3
            clear hb2 hM2 hP3 t11 t12 t13 hM3
            go_wp2_with fail
            go_roundw
            case rel => exact .inr ⟨0, _, Pg.zero, rfl, by go_num, by first | exact HTk.out | trivial, HM3.out⟩
            case measure => simp [intOf]
          | some y =>
            obtain ⟨r, S0, m0⟩ := y
            obtain ⟨-, -, hr2, hrn, -⟩ := takeV_some HH.out.vol htk
            have HC2 := Lib.hid (ggrow_ok HH.out.vol st hst6 a q HOk.out ⟨ha2, han⟩ htk b mb hb pb wr hM.stage)
            obtain ⟨S2, hS2⟩ : ∃ S2, ((S0.put (a : Int) (q.link (r : Int))).put (r : Int) (freshG st)) = S2 := ⟨_, rfl⟩
            rw [hS2] at HC2
            have HA' : Hid (GPlace S1 m n st I C 1 S2 r (freshG st)) := Lib.hid (.inr ⟨rfl, hfull, rfl, S0, m0, htk, by rw [hla, hlq]; exact hS2.symm⟩)
            have hr4 : (0 : Int) ≤ (r : Int) ∧ (r : Int) < 1024 := by omega
            have hpf := placeI_fresh (r : Int) st
            clear hp hA hM htk hnp hfull hak hqk hla hlq hS2
            go_wp2_with fail
            with_reducible refine HC2.out.mono ?_; rintro e w2 ⟨rfl, hg2', hs2⟩
            have hM2 := HM.out.grow hl.2.1 hg2' hs2
            have hz2 := hg2'.size
            have dd11 := (cell_of_block hM2.c11 0).trans rfl
            have df11 : w2.frozen? ⟨w.heap.size + 1 + 1, 0, none⟩ = false := by simp [World.frozen?, hM2.c11]
            have dR13 := (rowAt_setCell_far w2 ⟨w.heap.size + 1 + 1, 0, none⟩ (.int .i64 (r : Int)) (w.heap.size + 1 + 1 + 1 + 1) (by show w.heap.size + 1 + 1 ≠ _; omega)).trans (rowAt_of hM2.c13)
            have hP3 : Poked [w.heap.size + 1 + 1, w.heap.size + 1 + 1 + 1, w.heap.size + 1 + 1 + 1 + 1] w2 ((w2.setCell ⟨w.heap.size + 1 + 1, 0, none⟩ (.int .i64 (r : Int))).setRow (w.heap.size + 1 + 1 + 1 + 1) (freshG st).cs) :=
              ((Poked.of_below (Below.refl _ _)).setCell _ _ (by simp)).setRow _ _ (by simp)
            have t11 := (heap_setRow_far (w2.setCell ⟨w.heap.size + 1 + 1, 0, none⟩ (.int .i64 (r : Int))) (w.heap.size + 1 + 1 + 1 + 1) (w.heap.size + 1 + 1) (freshG st).cs (by omega)).trans (setCell_block hM2.c11 0 (.int .i64 (r : Int)))
            have t12 := (heap_setRow_far (w2.setCell ⟨w.heap.size + 1 + 1, 0, none⟩ (.int .i64 (r : Int))) (w.heap.size + 1 + 1 + 1 + 1) (w.heap.size + 1 + 1 + 1) (freshG st).cs (by omega)).trans ((heap_setCell_far w2 ⟨w.heap.size + 1 + 1, 0, none⟩ (.int .i64 (r : Int)) (w.heap.size + 1 + 1 + 1) (by show w.heap.size + 1 + 1 ≠ _; omega)).trans hM2.c12)
            have t13 := setRow_heap (w2.setCell ⟨w.heap.size + 1 + 1, 0, none⟩ (.int .i64 (r : Int))) (w.heap.size + 1 + 1 + 1 + 1) _ (freshG st).cs _ _ ((heap_setCell_far w2 ⟨w.heap.size + 1 + 1, 0, none⟩ (.int .i64 (r : Int)) (w.heap.size + 1 + 1 + 1 + 1) (by show w.heap.size + 1 + 1 ≠ _; omega)).trans hM2.c13)
            have hM3 := hM2.poked hl hP3 t11 t12 t13
            have ee11 := (cell_of_block hM3.c11 0).trans rfl
            have ee7 := (cell_of_block hM3.c7 0).trans rfl
            have eR13 := rowAt_of hM3.c13
            have HM3 := Lib.hid hM3
            clear hg2' hs2 hM2 hP3 t11 t12 t13 hM3
            go_wp2_with fail
            clear dd11 df11 dR13 ee11 ee7 eR13
            generalize (w2.setCell ⟨w.heap.size + 1 + 1, 0, none⟩ (.int .i64 (r : Int))).setRow (w.heap.size + 1 + 1 + 1 + 1) (freshG st).cs = W3 at *
            refine (HC.out (r : Int) (freshG st) _ hr4.1 hr4.2).mono ?_; rintro e w4 ⟨rfl, hb4⟩
            have hM4 := HM3.out.below hb4
            have gg12 := (cell_of_block hM4.c12 0).trans rfl
            have gf12 : w4.frozen? ⟨w.heap.size + 1 + 1 + 1, 0, none⟩ = false := by simp [World.frozen?, hM4.c12]
            have hM5 := hM4.poked (a' := (r : Int)) (s' := placeI [] 0 (r : Int) (freshG st)) (q' := freshG st) hl ((Poked.of_below (Below.refl _ _)).setCell ⟨w.heap.size + 1 + 1 + 1, 0, none⟩ (.int .i64 (placeI [] 0 (r : Int) (freshG st))) (by simp))
              ((heap_setCell_far _ _ _ _ (by show w.heap.size + 1 + 1 + 1 ≠ _; omega)).trans hM4.c11) (setCell_block hM4.c12 0 _) ((heap_setCell_far _ _ _ _ (by show w.heap.size + 1 + 1 + 1 ≠ _; omega)).trans hM4.c13)
            have HM5 := Lib.hid hM5
            have HPf := Lib.hid hpf
            clear hb4 hM4 hM5 hpf
            go_wp2_with fail
            go_roundw
            case rel => exact .inl ⟨1, r, S2, freshG st, by omega, rfl, by go_num, HA'.out, HM5.out⟩
            case measure => simp [intOf]
        · rw [hq, placeI_fresh] at hp; cases hp
      · rw [hp] at cc12
        have HP := Lib.hid hp
        have e1 : decide ((i : Int) < 0) = false := by simp
        have cA := (cell_row R13 (4 + i * 2)).trans (cs_a q i hi)
        have cD := (cell_row R13 (4 + i * 2 + 1)).trans (cs_d q i hi)
        have hi6 : (i : Int) < 6 := by omega
        have hM1 := hM.below (((Below.refl wr.heap.size wr).alloc (Nat.le_refl _) (.cells Un.zero.cs 74)).drew)
        have dc11 := (cell_of_block hM1.c11 0).trans rfl
        have dc12 := (cell_of_block hM1.c12 0).trans rfl
        rw [hp] at dc12
        have dR13 := rowAt_of hM1.c13
        have dA := (cell_row dR13 (4 + i * 2)).trans (cs_a q i hi)
        have dD := (cell_row dR13 (4 + i * 2 + 1)).trans (cs_d q i hi)
        have dR16 : rowAt (wr.alloc (.cells Un.zero.cs 74)).drew wr.heap.size = some Un.zero.cs := rowAt_at _ _ _ _ rfl
        clear hA hM hM1 hp hfree ff11 cc7
        go_wp2_with fail
        go_region
        obtain ⟨u, hu⟩ : ∃ u : Un, u = { kind := 1, page := (a : Int), slot := (i : Int), st := q.a i, d := q.d i } := ⟨_, rfl⟩
        have hu' : ({ kind := 1, page := (a : Int), slot := (i : Int), st := q.a i, d := q.d i } : Un) = u := hu.symm
        rw [hu']
        have hB1 : Below wr.heap.size wr ((wr.alloc (.cells Un.zero.cs 74)).drew.setRow wr.heap.size u.cs) := below_setRow (((Below.refl wr.heap.size wr).alloc (Nat.le_refl _) (.cells Un.zero.cs 74)).drew) _ (Nat.le_refl _)
        have hM2 := HM.out.below hB1
        have R16 := rowAt_setRow (wr.alloc (.cells Un.zero.cs 74)).drew wr.heap.size _ u.cs dR16
        have hz2 := hB1.size
        have hz3 : wr.heap.size < ((wr.alloc (.cells Un.zero.cs 74)).drew.setRow wr.heap.size u.cs).heap.size := by simp
        have HU := Lib.hid hu
        clear hB1 dc11 dc12 dR13 dA dD dR16 cc11 cc12 cA cD R13 hu' hu
        generalize (wr.alloc (.cells Un.zero.cs 74)).drew.setRow wr.heap.size u.cs = W1 at *
        have dc11 := (cell_of_block hM2.c11 0).trans rfl
        have dc12 := (cell_of_block hM2.c12 0).trans rfl
        rw [HP.out] at dc12
        have dR13 := rowAt_of hM2.c13
        have dA := (cell_row dR13 (4 + i * 2)).trans (cs_a q i hi)
        have dD := (cell_row dR13 (4 + i * 2 + 1)).trans (cs_d q i hi)
        have fA := frozen_row dR13 (4 + i * 2)
        have fD := frozen_row dR13 (4 + i * 2 + 1)
        have t13 := setCell_block hM2.c13 (4 + i * 2) (.int .i64 1)
        have t13b := setCell_block t13 (4 + i * 2 + 1) (.string val)
        rw [cs_setC q i hi 1 val] at t13b
        have hP2 : Poked [w.heap.size + 1 + 1, w.heap.size + 1 + 1 + 1, w.heap.size + 1 + 1 + 1 + 1] W1 ((W1.setCell ⟨w.heap.size + 1 + 1 + 1 + 1, 4 + i * 2, none⟩ (.int .i64 1)).setCell ⟨w.heap.size + 1 + 1 + 1 + 1, 4 + i * 2 + 1, none⟩ (.string val)) :=
          ((Poked.of_below (Below.refl _ _)).setCell _ _ (by simp)).setCell _ _ (by simp)
        have t11 := (heap_setCell_far (W1.setCell ⟨w.heap.size + 1 + 1 + 1 + 1, 4 + i * 2, none⟩ (.int .i64 1)) ⟨w.heap.size + 1 + 1 + 1 + 1, 4 + i * 2 + 1, none⟩ (.string val) (w.heap.size + 1 + 1) (by show w.heap.size + 1 + 1 + 1 + 1 ≠ _; omega)).trans ((heap_setCell_far W1 ⟨w.heap.size + 1 + 1 + 1 + 1, 4 + i * 2, none⟩ (.int .i64 1) (w.heap.size + 1 + 1) (by show w.heap.size + 1 + 1 + 1 + 1 ≠ _; omega)).trans hM2.c11)
        have t12 := (heap_setCell_far (W1.setCell ⟨w.heap.size + 1 + 1 + 1 + 1, 4 + i * 2, none⟩ (.int .i64 1)) ⟨w.heap.size + 1 + 1 + 1 + 1, 4 + i * 2 + 1, none⟩ (.string val) (w.heap.size + 1 + 1 + 1) (by show w.heap.size + 1 + 1 + 1 + 1 ≠ _; omega)).trans ((heap_setCell_far W1 ⟨w.heap.size + 1 + 1 + 1 + 1, 4 + i * 2, none⟩ (.int .i64 1) (w.heap.size + 1 + 1 + 1) (by show w.heap.size + 1 + 1 + 1 + 1 ≠ _; omega)).trans hM2.c12)
        have hM3 := hM2.poked hl hP2 t11 t12 t13b
        have R16b := (rowAt_setCell_far (W1.setCell ⟨w.heap.size + 1 + 1 + 1 + 1, 4 + i * 2, none⟩ (.int .i64 1)) ⟨w.heap.size + 1 + 1 + 1 + 1, 4 + i * 2 + 1, none⟩ (.string val) wr.heap.size (by have := (Array.getElem?_eq_some_iff.1 HM.out.c13).1; simp; omega)).trans ((rowAt_setCell_far W1 ⟨w.heap.size + 1 + 1 + 1 + 1, 4 + i * 2, none⟩ (.int .i64 1) wr.heap.size (by have := (Array.getElem?_eq_some_iff.1 HM.out.c13).1; simp; omega)).trans R16)
        have hz4 : wr.heap.size < ((W1.setCell ⟨w.heap.size + 1 + 1 + 1 + 1, 4 + i * 2, none⟩ (.int .i64 1)).setCell ⟨w.heap.size + 1 + 1 + 1 + 1, 4 + i * 2 + 1, none⟩ (.string val)).heap.size := by simp only [World.size_setCell]; omega
        have HM3 := Lib.hid hM3
        have HR16 := Lib.hid R16b
        clear hM2 t13 t13b hP2 t11 t12 hM3 R16 R16b
        go_wp2_with fail
        clear dc11 dc12 dR13 dA dD fA fD hz2 hz3
        generalize (W1.setCell ⟨w.heap.size + 1 + 1 + 1 + 1, 4 + i * 2, none⟩ (.int .i64 1)).setCell ⟨w.heap.size + 1 + 1 + 1 + 1, 4 + i * 2 + 1, none⟩ (.string val) = W2 at *
        have hM3 := HM3.out.below (Below.refl W2.heap.size W2).drew
        have hokq : okPg q = true := HOk.out
        have hoc : okC 1 val = true := by simp [okC]; omega
        have hset := set_any S1 b mb hb pb (a : Int) (q.setC i 1 val) _ hM3.stage
        have o1 : okSet (a : Int) (q.setC i 1 val) = true := okSet_one (ok_setC hokq i hi 1 val hoc) _ (by omega) (by omega)
        have e0 : chkE true = 0 := rfl
        rw [o1, e0] at hset
        simp only [if_true] at hset
        have HSet := Lib.hid hset
        have HId := Lib.hid (fun (w' : World) => id_any (a : Int) (i : Int) w' (by omega) (by omega) (by omega) (by omega))
        have mkS : ∀ W S', InsMem w W b mb hb pb (.slice none 0 0) S' (a : Int) (placeI [] 0 (a : Int) q) (q.setC i 1 val) → W.cell? ⟨w.heap.size + 1 + 1, 0, none⟩ = some (.int .i64 (a : Int)) ∧ W.cell? ⟨w.heap.size + 1 + 1 + 1, 0, none⟩ = some (.int .i64 (i : Int)) ∧ rowAt W (w.heap.size + 1 + 1 + 1 + 1) = some (q.setC i 1 val).cs := fun W S' h =>
          ⟨(cell_of_block h.c11 0).trans rfl, by rw [← HP.out]; exact (cell_of_block h.c12 0).trans rfl, rowAt_of h.c13⟩
        have U0 := mkS _ _ hM3
        have HMk := Lib.hid mkS
        have R0 : rowAt W2.drew wr.heap.size = some u.cs := HR16.out
        clear hM3 hokq hoc hset o1 mkS
        go_region_held3 (fun W => W.cell? ⟨w.heap.size + 1 + 1, 0, none⟩ = some (.int .i64 (a : Int)) ∧ W.cell? ⟨w.heap.size + 1 + 1 + 1, 0, none⟩ = some (.int .i64 (i : Int)) ∧ rowAt W (w.heap.size + 1 + 1 + 1 + 1) = some (q.setC i 1 val).cs ∧ rowAt W wr.heap.size = some u.cs)
          (first
            | exact ⟨U0.1, U0.2.1, U0.2.2, R0⟩
            | exact ⟨U1.1, U1.2.1, U1.2.2, R1⟩
            | exact ⟨(cell?_setRow_far _ _ _ _ (by show w.heap.size + 1 ≠ w.heap.size + 1 + 1; omega)).trans U1.1, (cell?_setRow_far _ _ _ _ (by show w.heap.size + 1 ≠ w.heap.size + 1 + 1 + 1; omega)).trans U1.2.1, (rowAt_setRow_far _ _ _ _ (by omega)).trans U1.2.2, (rowAt_setRow_far _ _ _ _ (by omega)).trans R1⟩)
          (first
            | ((go_at_call 45; refine (HId.out _).mono ?_; rintro e w4 ⟨rfl, rfl⟩))
            | ((go_at_call 16; refine HSet.out.mono ?_; rintro e w5 ⟨rfl, hg5, hs5⟩; have hM5 := (HM3.out.below (Below.refl W2.heap.size W2).drew).grow hl.2.1 hg5 hs5; have U1 := HMk.out _ _ hM5; have hz5 := hg5.size; have R1 := (rowAt_grown hg5 hz4 (by omega)).trans R0; have R9 := rowAt_of hM5.c9)))
        all_goals
          have RF := rowAt_setRow w5 (w.heap.size + 1) _ u.cs R9
          have BF : Below w.heap.size w5 (w5.setRow (w.heap.size + 1) u.cs) := below_setRow (Below.refl _ _) _ (by omega)
          have GF := grown_below' hM5.grown BF
          have SF := hM5.stage.below BF hl
          have HGF := Lib.hid GF
          have HSF := Lib.hid SF
          clear BF GF SF hg5 hs5 hM5 U1 R1 R9 U0 R0
          generalize w5.setRow (w.heap.size + 1) u.cs = W at *
          go_wp2
          refine ret_tut rfl rfl (w.heap.size + 1) u rfl RF (.inl ⟨g, a, i, S1, q, ?_, HA.out, hi, HP.out, HGF.out, HSF.out⟩)
          rw [HU.out]; rfl
    · have HTk := Lib.hid htk
      have R9 := rowAt_of hM.c9
      have hz := hM.grown.size
      have RF := rowAt_setRow wr (w.heap.size + 1) _ Un.zero.cs R9
      have BF : Below w.heap.size wr (wr.setRow (w.heap.size + 1) Un.zero.cs) := below_setRow (Below.refl _ _) _ (by omega)
      have HG := Lib.hid (grown_below' hM.grown BF)
      have HSt := Lib.hid (hM.stage.below BF hl)
      clear hM BF htk
      go_wp2_with fail
      exact ret_tut rfl rfl (w.heap.size + 1) Un.zero rfl RF (.inr ⟨rfl, HTk.out, HG.out, HSt.out⟩)
end Go.Proofs.YtljommhbhpappaaGreat
