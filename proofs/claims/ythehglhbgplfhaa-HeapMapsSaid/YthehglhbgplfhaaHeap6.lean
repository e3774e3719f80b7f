/-
  Layer 15 (heap): Insert.
-/
import Derived.Test.YthehglhbgplfhaaHeap5
namespace Go.Proofs.Ythehglhbgplfhaa
open Go.RowKit Go.Joins
set_option linter.unusedVariables false
set_option linter.unusedSimpArgs false

set_option maxHeartbeats 2000000 in
set_option maxRecDepth 100000 in
theorem grow_none {S : Vol} {n : Nat} {C : List Pg} (hh : HeapOk S n C) (hr : 2 + C.length = n) (b mb hb pb : Nat) (w : World) (hs : StageAt w b mb hb pb S) (la : Int) (q : Pg) :
    Calls Try.prog 47 #[.pointer (some ⟨b, 0, none⟩), .int .i64 1, .int .i64 la, q.v] w fun e w' => e = .returned (.tuple #[.int .i64 0, Pg.zero.v, .int .i64 140]) ∧ Below w.heap.size w w' := by
  obtain ⟨m, hv, hbits⟩ := hh.vol
  obtain ⟨l1, l2, l3, l4⟩ := hs.lt
  have B1 : Below w.heap.size w ((w.alloc (.cells q.cs 41)).alloc (.cells Pg.zero.cs 41)) := ((Below.refl _ _).alloc (Nat.le_refl _) _).alloc (by simp) _
  have HT := Lib.hid (take_none S b mb hb pb m n _ (hs.below B1 ⟨l1, l2, l3, l4⟩) hv.map (fun j hj => by rw [hbits _ hj]; simp; omega))
  have HB1 := Lib.hid B1
  clear hh hv hbits hs B1
  go_enter Try.func47, Try.ntmps47
  go_wp2_with fail
  refine HT.out.mono ?_; rintro e w2 ⟨rfl, hb2⟩
  have hz2 := hb2.size
  simp only [World.size_alloc] at hz2
  have R9 : rowAt w2 (w.heap.size + 1) = some Pg.zero.cs := (rowAt_below hb2 (by simp)).trans (rowAt_at _ _ _ _ (by simp))
  have RF := rowAt_setRow w2 (w.heap.size + 1) _ Pg.zero.cs R9
  have BF : Below w.heap.size w (w2.setRow (w.heap.size + 1) Pg.zero.cs) := below_setRow (HB1.out.trans (hb2.mono (by simp; omega))) _ (by omega)
  have HBF := Lib.hid BF
  clear hb2 BF
  go_wp2_with fail
  exact ret_tpt rfl rfl (w.heap.size + 1) Pg.zero rfl RF ⟨rfl, HBF.out⟩

/-- a chain grown some times -/
def growN : Nat → List Pg → List Pg
  | 0, C => C
  | g + 1, C => grownC (growN g C)
theorem growN_len (g : Nat) (C : List Pg) : (growN g C).length = C.length + g := by
  induction g with
  | zero => rfl
  | succ g ih => rw [growN, grownC_len, ih]; omega

/-- where Insert stands: a heap grown g times, the k-th page looked at -/
structure InsAt (S : Vol) (n : Nat) (C : List Pg) (zs : List Int) (len : Nat) (g k : Nat) (S1 : Vol) (q : Pg) : Prop where
  heap : HeapOk S1 n (growN g C)
  lt : k < (growN g C).length
  pg : ∀ h : k < (growN g C).length, (growN g C)[k] = q
  fresh : 0 < g → k + 1 = (growN g C).length ∧ q = freshH ∧ ∀ j (h : j < C.length), placeI zs len ((2 + j : Nat) : Int) C[j] = -1
  more : 1 < g → ∃ id, placeI zs len id freshH = -1
  none' : placeI zs len ((2 + k : Nat) : Int) q = -1 → k + 1 = (growN g C).length ∧ ∀ j (h : j < C.length), placeI zs len ((2 + j : Nat) : Int) C[j] = -1
  base : S1.base = S.base
  fit : ∀ N, n ≤ N → S.Fit N → S1.Fit N
/-- its variables -/
structure InsMem (w wr : World) (b mb hb pb : Nat) (v : Value) (S1 : Vol) (at' slot : Int) (q : Pg) : Prop where
  grown : w.grownBy wr (some mb)
  stage : StageAt wr b mb hb pb S1
  c7 : wr.heap[w.heap.size]? = some (.cells #[v] 77)
  c9 : wr.heap[w.heap.size + 1]? = some (.cells Un.zero.cs 36)
  c11 : wr.heap[w.heap.size + 1 + 1]? = some (.cells #[.int .i64 at'] 3)
  c12 : wr.heap[w.heap.size + 1 + 1 + 1]? = some (.cells #[.int .i64 slot] 3)
  c13 : wr.heap[w.heap.size + 1 + 1 + 1 + 1]? = some (.cells q.cs 41)
theorem InsMem.below {w wr w2 : World} {b mb hb pb : Nat} {v : Value} {S1 : Vol} {a s : Int} {q : Pg} (h : InsMem w wr b mb hb pb v S1 a s q) (hb2 : Below wr.heap.size wr w2) : InsMem w w2 b mb hb pb v S1 a s q :=
  ⟨grown_below' h.grown (hb2.mono (by have := h.grown.size; omega)), h.stage.below hb2 h.stage.lt, (hb2.block _ (Array.getElem?_eq_some_iff.1 h.c7).1).trans h.c7, (hb2.block _ (Array.getElem?_eq_some_iff.1 h.c9).1).trans h.c9, (hb2.block _ (Array.getElem?_eq_some_iff.1 h.c11).1).trans h.c11, (hb2.block _ (Array.getElem?_eq_some_iff.1 h.c12).1).trans h.c12, (hb2.block _ (Array.getElem?_eq_some_iff.1 h.c13).1).trans h.c13⟩
theorem InsMem.poked {w wr w2 : World} {b mb hb pb : Nat} {v : Value} {S1 : Vol} {a s a' s' : Int} {q q' : Pg} (h : InsMem w wr b mb hb pb v S1 a s q) (hl : b < w.heap.size ∧ mb < w.heap.size ∧ hb < w.heap.size ∧ pb < w.heap.size) (hp : Poked [w.heap.size + 1 + 1, w.heap.size + 1 + 1 + 1, w.heap.size + 1 + 1 + 1 + 1] wr w2)
    (h11 : w2.heap[w.heap.size + 1 + 1]? = some (.cells #[.int .i64 a'] 3)) (h12 : w2.heap[w.heap.size + 1 + 1 + 1]? = some (.cells #[.int .i64 s'] 3)) (h13 : w2.heap[w.heap.size + 1 + 1 + 1 + 1]? = some (.cells q'.cs 41)) : InsMem w w2 b mb hb pb v S1 a' s' q' := by
  have hz := h.grown.size
  have hB : Below w.heap.size wr w2 := ⟨hp.os, hp.tape, hp.output, hp.size, fun i hi => hp.block i (by omega) (by simp; omega)⟩
  exact ⟨grown_below' h.grown hB, h.stage.below hB hl, (hp.block _ (Array.getElem?_eq_some_iff.1 h.c7).1 (by simp; omega)).trans h.c7, (hp.block _ (Array.getElem?_eq_some_iff.1 h.c9).1 (by simp)).trans h.c9, h11, h12, h13⟩
theorem InsMem.grow {w wr w2 : World} {b mb hb pb : Nat} {v : Value} {S1 S2 : Vol} {a s : Int} {q : Pg} (h : InsMem w wr b mb hb pb v S1 a s q) (hl : mb < w.heap.size) (hg : wr.grownBy w2 (some mb)) (hs : StageAt w2 b mb hb pb S2) : InsMem w w2 b mb hb pb v S2 a s q :=
  ⟨h.grown.trans hg, hs, (hg.block _ (Array.getElem?_eq_some_iff.1 h.c7).1 (by simp; omega)).trans h.c7, (hg.block _ (Array.getElem?_eq_some_iff.1 h.c9).1 (by simp; omega)).trans h.c9, (hg.block _ (Array.getElem?_eq_some_iff.1 h.c11).1 (by simp; omega)).trans h.c11, (hg.block _ (Array.getElem?_eq_some_iff.1 h.c12).1 (by simp; omega)).trans h.c12, (hg.block _ (Array.getElem?_eq_some_iff.1 h.c13).1 (by simp; omega)).trans h.c13⟩

set_option maxHeartbeats 2000000 in
set_option maxRecDepth 100000 in
theorem insert_long (val : ByteArray) (a b : Value) (vp : Option Addr) (len cap : Nat) (hl : 32 < val.size) (w : World) :
    Calls Try.prog 17 #[a, b, .string val, .slice vp len cap] w fun e w' => e = .returned (.tuple #[.int .i64 0, Un.zero.v, .int .i64 2]) ∧ Below w.heap.size w w' := by
  go_enter Try.func17, Try.ntmps17
  go_wp2_with fail
  exact ret_tut rfl rfl (w.heap.size + 1) Un.zero rfl (by simp [go_sem]) ⟨rfl, ((Below.refl _ _).alloc (Nat.le_refl _) _).alloc (by simp) _⟩

theorem RowOk.grown {w w' : World} {vp : Option Addr} {len b mb hb pb : Nat} {zs : List Int} {S : Vol} (h : RowOk w vp len zs) (hg : w.grownBy w' (some mb)) (hs : StageAt w b mb hb pb S) : RowOk w' vp len zs := by
  refine ⟨h.1, ?_⟩
  rcases h.2 with h0 | ⟨g, off, rfl, h1, h2⟩
  · exact .inl h0
  · by_cases h0 : len = 0
    · exact .inl h0
    obtain ⟨-, ⟨es, c, hm, -⟩, -⟩ := hs
    have hne : g ≠ mb := by
      rintro rfl
      have := h2 0 (by omega)
      simp [World.cell?, hm] at this
    have hbk := hg.block g h1 (by simpa using hne)
    exact .inr ⟨g, off, rfl, Nat.lt_of_lt_of_le h1 hg.size, fun i hi => by
      have := h2 i hi
      simp only [World.cell?, hbk] at this ⊢
      exact this⟩
/-- Insert that found no room -/
structure InsBad (w : World) (S : Vol) (n : Nat) (C : List Pg) (zs : List Int) (len : Nat) (b mb hb pb : Nat) (S1 : Vol) (wr : World) : Prop where
  grown : w.grownBy wr (some mb)
  stage : StageAt wr b mb hb pb S1
  base : S1.base = S.base
  fit : ∀ N, n ≤ N → S.Fit N → S1.Fit N
  full : ∀ j (h : j < C.length), placeI zs len ((2 + j : Nat) : Int) C[j] = -1
  why : 2 + C.length = n ∨ ∃ id, placeI zs len id freshH = -1
theorem InsBad.below {w wr w2 : World} {S S1 : Vol} {n : Nat} {C : List Pg} {zs : List Int} {len b mb hb pb : Nat} (h : InsBad w S n C zs len b mb hb pb S1 wr) (hl : b < w.heap.size ∧ mb < w.heap.size ∧ hb < w.heap.size ∧ pb < w.heap.size) (hb2 : Below w.heap.size wr w2) : InsBad w S n C zs len b mb hb pb S1 w2 :=
  ⟨grown_below' h.grown hb2, h.stage.below hb2 hl, h.base, h.fit, h.full, h.why⟩
/-- Insert that found a place -/
structure InsOk (w : World) (S : Vol) (n : Nat) (C : List Pg) (zs : List Int) (len : Nat) (val : ByteArray) (b mb hb pb : Nat) (g k i : Nat) (S1 : Vol) (q : Pg) (wr : World) : Prop where
  at' : InsAt S n C zs len g k S1 q
  six : i < 6
  place : placeI zs len ((2 + k : Nat) : Int) q = (i : Int)
  grown : w.grownBy wr (some mb)
  stage : StageAt wr b mb hb pb (S1.put ((2 + k : Nat) : Int) (q.setC i 1 val))
/-- while Insert walks -/
def InsWalk (w : World) (C : List Pg) (zs : List Int) (len : Nat) (v : Value) (b mb hb pb : Nat) (S : Vol) (k : Nat) (wr : World) : Prop :=
  ∃ (a s : Int) (q : Pg), InsMem w wr b mb hb pb v S a s q ∧ Below w.heap.size w wr ∧ ∀ j, k = j + 1 → a = ((2 + j : Nat) : Int) ∧ s = placeI zs len ((2 + j : Nat) : Int) q ∧ ∀ h : j < C.length, q = C[j]

theorem cf45 (args : Array Value) (w : World) : (callFunc 45 args).run Try.prog w = .ok (.enter 45 args) w := by kernel_rfl
def insStart (w : World) (v : Value) : World := ((((w.alloc (.cells #[v] 77)).alloc (.cells Un.zero.cs 36)).alloc (.cells #[.int .i64 0] 3)).alloc (.cells #[.int .i64 (-1)] 3)).alloc (.cells Pg.zero.cs 41)
theorem insStart_mem (w : World) (v : Value) (b mb hb pb : Nat) (S : Vol) (hs : StageAt w b mb hb pb S) : InsMem w (insStart w v) b mb hb pb v S 0 (-1) Pg.zero ∧ Below w.heap.size w (insStart w v) := by
  have hB : Below w.heap.size w (insStart w v) := ((((((Below.refl _ _).alloc (Nat.le_refl _) _).alloc (by simp) _).alloc (by simp only [World.size_alloc]; omega) _).alloc (by simp only [World.size_alloc]; omega) _).alloc (by simp only [World.size_alloc]; omega) _)
  refine ⟨⟨grown_of_below hB _, hs.below hB hs.lt, ?_, ?_, ?_, ?_, ?_⟩, hB⟩
  · exact (Below.heap_alloc _ _ _ (by simp only [World.size_alloc]; omega)).trans ((Below.heap_alloc _ _ _ (by simp only [World.size_alloc]; omega)).trans ((Below.heap_alloc _ _ _ (by simp only [World.size_alloc]; omega)).trans ((Below.heap_alloc _ _ _ (by simp)).trans (heap_alloc_new _ _))))
  · refine (Below.heap_alloc _ _ _ (by simp only [World.size_alloc]; omega)).trans ((Below.heap_alloc _ _ _ (by simp only [World.size_alloc]; omega)).trans ((Below.heap_alloc _ _ _ (by simp)).trans ?_))
    have := heap_alloc_new (w.alloc (.cells #[v] 77)) (.cells Un.zero.cs 36)
    simpa only [World.size_alloc] using this
  · refine (Below.heap_alloc _ _ _ (by simp only [World.size_alloc]; omega)).trans ((Below.heap_alloc _ _ _ (by simp)).trans ?_)
    have := heap_alloc_new ((w.alloc (.cells #[v] 77)).alloc (.cells Un.zero.cs 36)) (.cells #[.int .i64 0] 3)
    simpa only [World.size_alloc] using this
  · refine (Below.heap_alloc _ _ _ (by simp)).trans ?_
    have := heap_alloc_new (((w.alloc (.cells #[v] 77)).alloc (.cells Un.zero.cs 36)).alloc (.cells #[.int .i64 0] 3)) (.cells #[.int .i64 (-1)] 3)
    simpa only [World.size_alloc] using this
  · have := heap_alloc_new ((((w.alloc (.cells #[v] 77)).alloc (.cells Un.zero.cs 36)).alloc (.cells #[.int .i64 0] 3)).alloc (.cells #[.int .i64 (-1)] 3)) (.cells Pg.zero.cs 41)
    simp only [World.size_alloc] at this
    exact this
theorem insStart_size (w : World) (v : Value) : (insStart w v).heap.size = w.heap.size + 1 + 1 + 1 + 1 + 1 := by simp [insStart]
theorem getD_get {C : List Pg} {k : Nat} (h : k < C.length) : C.getD k Pg.zero = C[k] := by
  rw [List.getD_eq_getElem?_getD, List.getElem?_eq_getElem h]; rfl

set_option maxHeartbeats 2000000 in
/-- the pages of a heap, till a place is found -/
theorem insert_walk {S : Vol} {n : Nat} {C : List Pg} (hh : HeapOk S n C) (b mb hb pb : Nat) (vp : Option Addr) (len cap : Nat) (zs : List Int) (w : World) (hs : StageAt w b mb hb pb S) (hR : RowOk w vp len zs) :
    Calls Try.prog 44 #[.pointer (some ⟨b, 0, none⟩), .int .i64 1, .func (.func 45) #[] #[.pointer (some ⟨w.heap.size, 0, none⟩), .pointer (some ⟨w.heap.size + 1 + 1, 0, none⟩), .pointer (some ⟨w.heap.size + 1 + 1 + 1, 0, none⟩), .pointer (some ⟨w.heap.size + 1 + 1 + 1 + 1, 0, none⟩)]] (insStart w (.slice vp len cap)) fun e w' =>
      e = .returned (.int .i64 0) ∧ ∃ k q, InsAt S n C zs len 0 k S q ∧ InsMem w w' b mb hb pb (.slice vp len cap) S ((2 + k : Nat) : Int) (placeI zs len ((2 + k : Nat) : Int) q) q := by
  obtain ⟨hm, hB⟩ := insStart_mem w (.slice vp len cap) b mb hb pb S hs
  have hn := hh.n1024
  have ht := hh.top
  refine (walk_any 45 _ cf45 hh b (fun k => decide (0 ≤ placeI zs len ((2 + k : Nat) : Int) (C.getD k Pg.zero))) (InsWalk w C zs len (.slice vp len cap) b mb hb pb S) _ ?_ ?_ ?_ ?_).mono ?_
  · rintro k w' ⟨a, s, q, h1, -⟩
    exact ⟨mb, hb, pb, h1.stage⟩
  · rintro k w' w'' ⟨a, s, q, h1, h2, h3⟩ hb2
    exact ⟨a, s, q, h1.below hb2, h2.trans (hb2.mono h2.size), h3⟩
  · rintro k hk w' hz ⟨a, s, q, h1, h2, h3⟩
    rw [insStart_size] at hz
    refine (visit_ins ((2 + k : Nat) : Int) C[k] w.heap.size (w.heap.size + 1 + 1) (w.heap.size + 1 + 1 + 1) (w.heap.size + 1 + 1 + 1 + 1) vp len cap zs w' (by omega) (by omega) (hR.below h2) h1.c7 _ _ q h1.c11 h1.c12 h1.c13 (by omega)).mono ?_
    rintro e w'' ⟨rfl, hp, g1, g2, g3⟩
    refine ⟨by rw [getD_get hk], ⟨_, _, C[k], h1.poked hs.lt hp g1 g2 g3, h2.trans ⟨hp.os, hp.tape, hp.output, hp.size, fun i hi => hp.block i (by omega) (by simp; omega)⟩, ?_⟩, hp.size, fun q c hq hc => ?_⟩
    · intro j hj
      obtain rfl : k = j := by omega
      exact ⟨rfl, rfl, fun _ => rfl⟩
    · rw [insStart_size] at hq
      exact (hp.block q (Array.getElem?_eq_some_iff.1 hc).1 (by simp; omega)).trans hc
  · exact ⟨0, -1, Pg.zero, hm, hB, fun j hj => by omega⟩
  · rintro e w' ⟨rfl, -, k, hk, ⟨a, s, q, h1, h2, h3⟩, hno, hst⟩
    obtain ⟨rfl, rfl, hq⟩ := h3 k rfl
    have hqk := hq hk
    have hall : placeI zs len ((2 + k : Nat) : Int) q = -1 → k + 1 = C.length ∧ ∀ j (h : j < C.length), placeI zs len ((2 + j : Nat) : Int) C[j] = -1 := by
      intro hp
      have hl : k + 1 = C.length := by
        rcases hst with h | h
        · rw [getD_get hk, ← hqk, hp] at h; cases h
        · exact h
      refine ⟨hl, fun j hj => ?_⟩
      by_cases e : j = k
      · subst e; rw [← hqk]; exact hp
      · have := hno j (by omega)
        rw [getD_get hj] at this
        rcases placeI_cases zs len ((2 + j : Nat) : Int) C[j] with h | ⟨i, -, h, -⟩
        · exact h.1
        · rw [h] at this; simp at this
    exact ⟨rfl, k, q, ⟨hh, hk, fun h => hqk.symm, fun h => by omega, fun h => by omega, hall, rfl, fun N _ h => h⟩, h1⟩

set_option maxHeartbeats 8000000 in
set_option maxRecDepth 100000 in
theorem insert_any {S : Vol} {n : Nat} {C : List Pg} (hh : HeapOk S n C) (b mb hb pb : Nat) (val : ByteArray) (hval : val.size ≤ 32) (vp : Option Addr) (len cap : Nat) (zs : List Int) (w : World) (hs : StageAt w b mb hb pb S) (hR : RowOk w vp len zs) :
    Calls Try.prog 17 #[.pointer (some ⟨b, 0, none⟩), .int .i64 1, .string val, .slice vp len cap] w fun e w' =>
      (∃ (g k i : Nat) (S1 : Vol) (q : Pg), e = .returned (.tuple #[.int .i64 (((2 + k : Nat) : Int) * 8 + (i : Int)), Un.v { kind := 1, page := ((2 + k : Nat) : Int), slot := (i : Int), st := q.a i, d := q.d i }, .int .i64 0]) ∧ InsOk w S n C zs len val b mb hb pb g k i S1 q w') ∨
      (∃ S1 : Vol, e = .returned (.tuple #[.int .i64 0, Un.zero.v, .int .i64 140]) ∧ InsBad w S n C zs len b mb hb pb S1 w') := by
  have hl := hs.lt
  have hv : ¬ 32 < val.size := by omega
  have hn := hh.n1024
  have HH := Lib.hid hh
  have HR := Lib.hid hR
  have HS := Lib.hid hs
  go_enter Try.func17, Try.ntmps17
  go_wp2_with fail
  refine Calls.mono (insert_walk HH.out b mb hb pb vp len cap zs w HS.out HR.out) ?_
  rintro e w1 ⟨rfl, k0, q0, hA0, hM0⟩
  have HA0 := Lib.hid hA0
  have HM0 := Lib.hid hM0
  have HC := Lib.hid (fun (id : Int) (p : Pg) (w' : World) (h0 : 0 ≤ id) (h1 : id < 1024) (h : RowOk w' vp len zs) => place_any id p vp len cap zs w' h0 h1 h)
  clear hA0 hM0 hs hR hh
  go_wp2_with fail
  go_loopw [14, 15] (fun e m wr =>
      (∃ (g k : Nat) (S1 : Vol) (q : Pg), g ≤ 4 ∧ e = .int .i64 0 ∧ m = .int .i64 g ∧ InsAt S n C zs len g k S1 q ∧ InsMem w wr b mb hb pb (.slice vp len cap) S1 ((2 + k : Nat) : Int) (placeI zs len ((2 + k : Nat) : Int) q) q) ∨
      (∃ (g : Nat) (S1 : Vol) (a s : Int) (q : Pg), g ≤ 5 ∧ e = .int .i64 140 ∧ m = .int .i64 g ∧ InsMem w wr b mb hb pb (.slice vp len cap) S1 a s q ∧ InsBad w S n C zs len b mb hb pb S1 wr)) (fun _ m _ => 6 - (intOf m).toNat)
  case atStart => exact .inl ⟨0, k0, S, q0, by omega, rfl, rfl, HA0.out, HM0.out⟩
  case round =>
    rcases hrel with ⟨g, k, S1, q, hg4, rfl, rfl, hA, hM⟩ | ⟨g, S1, a, s, q, hg5, rfl, rfl, hM, hB⟩
    · have HA := Lib.hid hA
      have HM := Lib.hid hM
      have cc11 := (cell_of_block hM.c11 0).trans rfl
      have cc12 := (cell_of_block hM.c12 0).trans rfl
      have cc7 := (cell_of_block hM.c7 0).trans rfl
      have ff11 : wr.frozen? ⟨w.heap.size + 1 + 1, 0, none⟩ = false := by simp [World.frozen?, hM.c11]
      have R13 := rowAt_of hM.c13
      have hwr := (Array.getElem?_eq_some_iff.1 hM.c13).1
      have hz := hM.grown.size
      have hk := hA.lt
      have htop := hA.heap.top
      have hlen := growN_len g C
      rcases placeI_cases zs len ((2 + k : Nat) : Int) q with ⟨hp, -⟩ | ⟨i, hi, hp, hfree, -⟩
      · rw [hp] at cc12
        obtain ⟨hkl, hfull⟩ := hA.none' hp
        have e1 : decide ((-1 : Int) < 0) = true := rfl
        have HFull := Lib.hid hfull
        by_cases hg : g = 4
        · have hwhy : ∃ id, placeI zs len id freshH = -1 := ⟨_, by rw [← (hA.fresh (by omega)).2.1]; exact hp⟩
          have hB : InsBad w S n C zs len b mb hb pb S1 wr := ⟨hM.grown, hM.stage, hA.base, hA.fit, hfull, .inr hwhy⟩
          have R9 := rowAt_of hM.c9
          have RF := rowAt_setRow wr (w.heap.size + 1) _ Un.zero.cs R9
          have BF : Below w.heap.size wr (wr.setRow (w.heap.size + 1) Un.zero.cs) := below_setRow (Below.refl _ _) _ (by omega)
          have HF := Lib.hid (hB.below hl BF)
          subst hg
          clear hM hB BF hA hwhy hfull hp ff11 cc7 R13
          go_wp2_with fail
          exact ret_tut rfl rfl (w.heap.size + 1) Un.zero rfl RF (.inr ⟨S1, rfl, HF.out⟩)
        · have hg2 : ((g : Int) == 4) = false := by simp; omega
          have eq1 : ((1 + (growN g C).length : Nat) : Int) = ((2 + k : Nat) : Int) := by omega
          have eq2 : (growN g C).getD ((growN g C).length - 1) Pg.zero = q := by
            have : (growN g C).length - 1 = k := by omega
            rw [this, getD_get hk]; exact hA.pg hk
          have HP := Lib.hid hp
          by_cases hr : 2 + (growN g C).length < n
          · obtain ⟨m, hv', hbits, hh'⟩ := hA.heap.grow hr
            have hc := grow_ok hA.heap hv' hbits hr b mb hb pb wr hM.stage
            rw [eq1, eq2] at hc
            have hA' : InsAt S n C zs len (g + 1) (growN g C).length (S1.grow m (growN g C)) freshH :=
              ⟨hh', by rw [growN_len, growN_len]; omega, fun h => by
                  have := grownC_get (growN g C) (by omega) (growN g C).length h
                  rw [if_pos rfl] at this; exact this,
                fun _ => ⟨by rw [growN_len, growN_len]; omega, rfl, hfull⟩, fun h => ⟨_, by rw [← (hA.fresh (by omega)).2.1]; exact hp⟩,
                fun _ => ⟨by rw [growN_len, growN_len]; omega, hfull⟩, hA.base, fun N hN hf => grow_fit hA.heap hv' hr (hA.fit N hN hf) hN⟩
            have HA' := Lib.hid hA'
            have HC2 := Lib.hid hc
            have hid4 : (0 : Int) ≤ ((2 + (growN g C).length : Nat) : Int) ∧ ((2 + (growN g C).length : Nat) : Int) < 1024 := by omega
            clear hc hA' hh' hv' hbits hA hM hp hfull eq1 eq2
            obtain ⟨S2, hS2⟩ : ∃ S2, S1.grow m (growN g C) = S2 := ⟨_, rfl⟩
            obtain ⟨id, hid⟩ : ∃ id : Nat, 2 + (growN g C).length = id := ⟨_, rfl⟩
            rw [hS2] at HC2 HA'
            rw [hid] at HC2 hid4
            go_wp2_with fail
            refine HC2.out.mono ?_; rintro e w2 ⟨rfl, hg2', hs2⟩
            have hM2 := HM.out.grow hl.2.1 hg2' hs2
            have hz2 := hg2'.size
            have dd11 := (cell_of_block hM2.c11 0).trans rfl
            have df11 : w2.frozen? ⟨w.heap.size + 1 + 1, 0, none⟩ = false := by simp [World.frozen?, hM2.c11]
            have dR13 := (rowAt_setCell_far w2 ⟨w.heap.size + 1 + 1, 0, none⟩ (.int .i64 (id : Int)) (w.heap.size + 1 + 1 + 1 + 1) (by show w.heap.size + 1 + 1 ≠ _; omega)).trans (rowAt_of hM2.c13)
            have hP3 : Poked [w.heap.size + 1 + 1, w.heap.size + 1 + 1 + 1, w.heap.size + 1 + 1 + 1 + 1] w2 ((w2.setCell ⟨w.heap.size + 1 + 1, 0, none⟩ (.int .i64 (id : Int))).setRow (w.heap.size + 1 + 1 + 1 + 1) freshH.cs) :=
              ((Poked.of_below (Below.refl _ _)).setCell _ _ (by simp)).setRow _ _ (by simp)
            have t11 := (heap_setRow_far (w2.setCell ⟨w.heap.size + 1 + 1, 0, none⟩ (.int .i64 (id : Int))) (w.heap.size + 1 + 1 + 1 + 1) (w.heap.size + 1 + 1) freshH.cs (by omega)).trans (setCell_block hM2.c11 0 (.int .i64 (id : Int)))
            have t12 := (heap_setRow_far (w2.setCell ⟨w.heap.size + 1 + 1, 0, none⟩ (.int .i64 (id : Int))) (w.heap.size + 1 + 1 + 1 + 1) (w.heap.size + 1 + 1 + 1) freshH.cs (by omega)).trans ((heap_setCell_far w2 ⟨w.heap.size + 1 + 1, 0, none⟩ (.int .i64 (id : Int)) (w.heap.size + 1 + 1 + 1) (by show w.heap.size + 1 + 1 ≠ _; omega)).trans hM2.c12)
            have t13 := setRow_heap (w2.setCell ⟨w.heap.size + 1 + 1, 0, none⟩ (.int .i64 (id : Int))) (w.heap.size + 1 + 1 + 1 + 1) _ freshH.cs _ _ ((heap_setCell_far w2 ⟨w.heap.size + 1 + 1, 0, none⟩ (.int .i64 (id : Int)) (w.heap.size + 1 + 1 + 1 + 1) (by show w.heap.size + 1 + 1 ≠ _; omega)).trans hM2.c13)
            have hM3 := hM2.poked hl hP3 t11 t12 t13
            have ee11 := (cell_of_block hM3.c11 0).trans rfl
            have ee7 := (cell_of_block hM3.c7 0).trans rfl
            have eR13 := rowAt_of hM3.c13
            have HM3 := Lib.hid hM3
            clear hg2' hs2 hM2 hP3 t11 t12 t13 hM3
            go_wp2_with fail
            clear dd11 df11 dR13 ee11 ee7 eR13
            generalize (w2.setCell ⟨w.heap.size + 1 + 1, 0, none⟩ (.int .i64 (id : Int))).setRow (w.heap.size + 1 + 1 + 1 + 1) freshH.cs = W3 at *
            refine (HC.out (id : Int) freshH _ hid4.1 hid4.2 (HR.out.grown HM3.out.grown HS.out)).mono ?_; rintro e w4 ⟨rfl, hb4⟩
            have hM4 := HM3.out.below hb4
            have gg12 := (cell_of_block hM4.c12 0).trans rfl
            have gf12 : w4.frozen? ⟨w.heap.size + 1 + 1 + 1, 0, none⟩ = false := by simp [World.frozen?, hM4.c12]
            have hM5 := hM4.poked (a' := ((2 + (growN g C).length : Nat) : Int)) (s' := placeI zs len (id : Int) freshH) (q' := freshH) hl ((Poked.of_below (Below.refl _ _)).setCell ⟨w.heap.size + 1 + 1 + 1, 0, none⟩ (.int .i64 (placeI zs len (id : Int) freshH)) (by simp))
              (by rw [hid]; exact (heap_setCell_far _ _ _ _ (by show w.heap.size + 1 + 1 + 1 ≠ _; omega)).trans hM4.c11) (setCell_block hM4.c12 0 _) ((heap_setCell_far _ _ _ _ (by show w.heap.size + 1 + 1 + 1 ≠ _; omega)).trans hM4.c13)
            have HM5 := Lib.hid hM5
            clear hb4 hM4 hM5
            go_wp2_with fail
            go_roundw
            case rel => exact .inl ⟨g + 1, _, S2, freshH, by omega, rfl, by go_num, HA'.out, by rw [hid]; rw [hid] at HM5; exact HM5.out⟩
            case measure => simp [intOf]; omega
          · have hr2 : 2 + (growN g C).length = n := by omega
            have hc := grow_none hA.heap hr2 b mb hb pb wr hM.stage ((2 + k : Nat) : Int) q
            have hwhy : 2 + C.length = n ∨ ∃ id, placeI zs len id freshH = -1 := by
              by_cases h0 : g = 0
              · left; omega
              · exact .inr ⟨_, by rw [← (hA.fresh (by omega)).2.1]; exact hp⟩
            have HC2 := Lib.hid hc
            clear hc hp hfull eq1 eq2 hA hM
            go_wp2_with fail
            refine HC2.out.mono ?_; rintro e w2 ⟨rfl, hb2⟩
            have hM2 := HM.out.below hb2
            have dd11 := (cell_of_block hM2.c11 0).trans rfl
            have df11 : w2.frozen? ⟨w.heap.size + 1 + 1, 0, none⟩ = false := by simp [World.frozen?, hM2.c11]
            have dR13 := (rowAt_setCell_far w2 ⟨w.heap.size + 1 + 1, 0, none⟩ (.int .i64 0) (w.heap.size + 1 + 1 + 1 + 1) (by show w.heap.size + 1 + 1 ≠ _; omega)).trans (rowAt_of hM2.c13)
            have hP3 : Poked [w.heap.size + 1 + 1, w.heap.size + 1 + 1 + 1, w.heap.size + 1 + 1 + 1 + 1] w2 ((w2.setCell ⟨w.heap.size + 1 + 1, 0, none⟩ (.int .i64 0)).setRow (w.heap.size + 1 + 1 + 1 + 1) Pg.zero.cs) :=
              ((Poked.of_below (Below.refl _ _)).setCell _ _ (by simp)).setRow _ _ (by simp)
            have t11 := (heap_setRow_far (w2.setCell ⟨w.heap.size + 1 + 1, 0, none⟩ (.int .i64 0)) (w.heap.size + 1 + 1 + 1 + 1) (w.heap.size + 1 + 1) Pg.zero.cs (by omega)).trans (setCell_block hM2.c11 0 (.int .i64 0))
            have t12 := (heap_setRow_far (w2.setCell ⟨w.heap.size + 1 + 1, 0, none⟩ (.int .i64 0)) (w.heap.size + 1 + 1 + 1 + 1) (w.heap.size + 1 + 1 + 1) Pg.zero.cs (by omega)).trans ((heap_setCell_far w2 ⟨w.heap.size + 1 + 1, 0, none⟩ (.int .i64 0) (w.heap.size + 1 + 1 + 1) (by show w.heap.size + 1 + 1 ≠ _; omega)).trans hM2.c12)
            have t13 := setRow_heap (w2.setCell ⟨w.heap.size + 1 + 1, 0, none⟩ (.int .i64 0)) (w.heap.size + 1 + 1 + 1 + 1) _ Pg.zero.cs _ _ ((heap_setCell_far w2 ⟨w.heap.size + 1 + 1, 0, none⟩ (.int .i64 0) (w.heap.size + 1 + 1 + 1 + 1) (by show w.heap.size + 1 + 1 ≠ _; omega)).trans hM2.c13)
            have hM3 := hM2.poked (a' := 0) (s' := placeI zs len ((2 + k : Nat) : Int) q) (q' := Pg.zero) hl hP3 t11 t12 t13
            have HM3 := Lib.hid hM3
            have HB3 : Hid (InsBad w S n C zs len b mb hb pb S1 ((w2.setCell ⟨w.heap.size + 1 + 1, 0, none⟩ (.int .i64 0)).setRow (w.heap.size + 1 + 1 + 1 + 1) Pg.zero.cs)) := Lib.hid ⟨hM3.grown, hM3.stage, HA.out.base, HA.out.fit, HFull.out, hwhy⟩
            clear hb2 hM2 hP3 t11 t12 t13 hM3 hwhy
            go_wp2_with fail
            go_roundw
            case rel => exact .inr ⟨g + 1, S1, 0, _, Pg.zero, by omega, rfl, by go_num, HM3.out, HB3.out⟩
            case measure => simp [intOf]; omega
      · rw [hp] at cc12
        have HP := Lib.hid hp
        have e1 : decide ((i : Int) < 0) = false := by simp
        have cA := (cell_row R13 (4 + i * 2)).trans (cs_a q i hi)
        have cD := (cell_row R13 (4 + i * 2 + 1)).trans (cs_d q i hi)
        have hi6 : (i : Int) < 6 := by omega
        have hM1 := hM.below (((Below.refl wr.heap.size wr).alloc (Nat.le_refl _) (.cells Un.zero.cs 36)).drew)
        have dc11 := (cell_of_block hM1.c11 0).trans rfl
        have dc12 := (cell_of_block hM1.c12 0).trans rfl
        rw [hp] at dc12
        have dR13 := rowAt_of hM1.c13
        have dA := (cell_row dR13 (4 + i * 2)).trans (cs_a q i hi)
        have dD := (cell_row dR13 (4 + i * 2 + 1)).trans (cs_d q i hi)
        have dR16 : rowAt (wr.alloc (.cells Un.zero.cs 36)).drew wr.heap.size = some Un.zero.cs := rowAt_at _ _ _ _ rfl
        clear hA hM hM1 hp hfree ff11 cc7
        go_wp2_with fail
        go_region
        obtain ⟨u, hu⟩ : ∃ u : Un, u = { kind := 1, page := ((2 + k : Nat) : Int), slot := (i : Int), st := q.a i, d := q.d i } := ⟨_, rfl⟩
        have hu' : ({ kind := 1, page := 2 + (k : Int), slot := (i : Int), st := q.a i, d := q.d i } : Un) = u := hu.symm
        rw [hu']
        have hB1 : Below wr.heap.size wr ((wr.alloc (.cells Un.zero.cs 36)).drew.setRow wr.heap.size u.cs) := below_setRow (((Below.refl wr.heap.size wr).alloc (Nat.le_refl _) (.cells Un.zero.cs 36)).drew) _ (Nat.le_refl _)
        have hM2 := HM.out.below hB1
        have R16 := rowAt_setRow (wr.alloc (.cells Un.zero.cs 36)).drew wr.heap.size _ u.cs dR16
        have hz2 := hB1.size
        have hz3 : wr.heap.size < ((wr.alloc (.cells Un.zero.cs 36)).drew.setRow wr.heap.size u.cs).heap.size := by simp
        have HU := Lib.hid hu
        clear hB1 dc11 dc12 dR13 dA dD dR16 cc11 cc12 cA cD R13 hu' hu
        generalize (wr.alloc (.cells Un.zero.cs 36)).drew.setRow wr.heap.size u.cs = W1 at *
        have dc11 := (cell_of_block hM2.c11 0).trans rfl
        have dc12 := (cell_of_block hM2.c12 0).trans rfl
        rw [HP.out] at dc12
        have dR13 := rowAt_of hM2.c13
        have dA := (cell_row dR13 (4 + i * 2)).trans (cs_a q i hi)
        have dD := (cell_row dR13 (4 + i * 2 + 1)).trans (cs_d q i hi)
        have fA := frozen_row dR13 (4 + i * 2)
        have fD := frozen_row dR13 (4 + i * 2 + 1)
        have t13 := setCell_block hM2.c13 (4 + i * 2) (.int .i64 1)
        have t13b := setCell_block t13 (4 + i * 2 + 1) (.string val)
        rw [cs_setC q i hi 1 val] at t13b
        have hP2 : Poked [w.heap.size + 1 + 1, w.heap.size + 1 + 1 + 1, w.heap.size + 1 + 1 + 1 + 1] W1 ((W1.setCell ⟨w.heap.size + 1 + 1 + 1 + 1, 4 + i * 2, none⟩ (.int .i64 1)).setCell ⟨w.heap.size + 1 + 1 + 1 + 1, 4 + i * 2 + 1, none⟩ (.string val)) :=
          ((Poked.of_below (Below.refl _ _)).setCell _ _ (by simp)).setCell _ _ (by simp)
        have t11 := (heap_setCell_far (W1.setCell ⟨w.heap.size + 1 + 1 + 1 + 1, 4 + i * 2, none⟩ (.int .i64 1)) ⟨w.heap.size + 1 + 1 + 1 + 1, 4 + i * 2 + 1, none⟩ (.string val) (w.heap.size + 1 + 1) (by show w.heap.size + 1 + 1 + 1 + 1 ≠ _; omega)).trans ((heap_setCell_far W1 ⟨w.heap.size + 1 + 1 + 1 + 1, 4 + i * 2, none⟩ (.int .i64 1) (w.heap.size + 1 + 1) (by show w.heap.size + 1 + 1 + 1 + 1 ≠ _; omega)).trans hM2.c11)
        have t12 := (heap_setCell_far (W1.setCell ⟨w.heap.size + 1 + 1 + 1 + 1, 4 + i * 2, none⟩ (.int .i64 1)) ⟨w.heap.size + 1 + 1 + 1 + 1, 4 + i * 2 + 1, none⟩ (.string val) (w.heap.size + 1 + 1 + 1) (by show w.heap.size + 1 + 1 + 1 + 1 ≠ _; omega)).trans ((heap_setCell_far W1 ⟨w.heap.size + 1 + 1 + 1 + 1, 4 + i * 2, none⟩ (.int .i64 1) (w.heap.size + 1 + 1 + 1) (by show w.heap.size + 1 + 1 + 1 + 1 ≠ _; omega)).trans hM2.c12)
        have hM3 := hM2.poked hl hP2 t11 t12 t13b
        have R16b := (rowAt_setCell_far (W1.setCell ⟨w.heap.size + 1 + 1 + 1 + 1, 4 + i * 2, none⟩ (.int .i64 1)) ⟨w.heap.size + 1 + 1 + 1 + 1, 4 + i * 2 + 1, none⟩ (.string val) wr.heap.size (by have := (Array.getElem?_eq_some_iff.1 HM.out.c13).1; simp; omega)).trans ((rowAt_setCell_far W1 ⟨w.heap.size + 1 + 1 + 1 + 1, 4 + i * 2, none⟩ (.int .i64 1) wr.heap.size (by have := (Array.getElem?_eq_some_iff.1 HM.out.c13).1; simp; omega)).trans R16)
        have hz4 : wr.heap.size < ((W1.setCell ⟨w.heap.size + 1 + 1 + 1 + 1, 4 + i * 2, none⟩ (.int .i64 1)).setCell ⟨w.heap.size + 1 + 1 + 1 + 1, 4 + i * 2 + 1, none⟩ (.string val)).heap.size := by simp only [World.size_setCell]; omega
        have HM3 := Lib.hid hM3
        have HR16 := Lib.hid R16b
        clear hM2 t13 t13b hP2 t11 t12 hM3 R16 R16b
        go_wp2_with fail
        clear dc11 dc12 dR13 dA dD fA fD hz2 hz3
        generalize (W1.setCell ⟨w.heap.size + 1 + 1 + 1 + 1, 4 + i * 2, none⟩ (.int .i64 1)).setCell ⟨w.heap.size + 1 + 1 + 1 + 1, 4 + i * 2 + 1, none⟩ (.string val) = W2 at *
        have hM3 := HM3.out.below (Below.refl W2.heap.size W2).drew
        have hqk := HA.out.pg hk
        have hokq : okPg q = true := by rw [← hqk]; exact HA.out.heap.ok k hk
        have hoc : okC 1 val = true := by simp [okC]; omega
        have hset := set_any S1 b mb hb pb ((2 + k : Nat) : Int) (q.setC i 1 val) _ hM3.stage
        have o1 : okSet ((2 + k : Nat) : Int) (q.setC i 1 val) = true := okSet_one (ok_setC hokq i hi 1 val hoc) _ (by omega) (by omega)
        have e0 : chkE true = 0 := rfl
        rw [o1, e0] at hset
        simp only [if_true] at hset
        have HSet := Lib.hid hset
        have HId := Lib.hid (fun (w' : World) => id_any ((2 + k : Nat) : Int) (i : Int) w' (by omega) (by omega) (by omega) (by omega))
        have mkS : ∀ W S', InsMem w W b mb hb pb (.slice vp len cap) S' ((2 + k : Nat) : Int) (placeI zs len ((2 + k : Nat) : Int) q) (q.setC i 1 val) → W.cell? ⟨w.heap.size + 1 + 1, 0, none⟩ = some (.int .i64 ((2 + k : Nat) : Int)) ∧ W.cell? ⟨w.heap.size + 1 + 1 + 1, 0, none⟩ = some (.int .i64 (i : Int)) ∧ rowAt W (w.heap.size + 1 + 1 + 1 + 1) = some (q.setC i 1 val).cs := fun W S' h =>
          ⟨(cell_of_block h.c11 0).trans rfl, by rw [← HP.out]; exact (cell_of_block h.c12 0).trans rfl, rowAt_of h.c13⟩
        have U0 := mkS _ _ hM3
        have HMk := Lib.hid mkS
        have R0 : rowAt W2.drew wr.heap.size = some u.cs := HR16.out
        clear hM3 hqk hokq hoc hset o1 mkS
        go_region_held3 (fun W => W.cell? ⟨w.heap.size + 1 + 1, 0, none⟩ = some (.int .i64 ((2 + k : Nat) : Int)) ∧ W.cell? ⟨w.heap.size + 1 + 1 + 1, 0, none⟩ = some (.int .i64 (i : Int)) ∧ rowAt W (w.heap.size + 1 + 1 + 1 + 1) = some (q.setC i 1 val).cs ∧ rowAt W wr.heap.size = some u.cs)
          (first
            | exact ⟨U0.1, U0.2.1, U0.2.2, R0⟩
            | exact ⟨U1.1, U1.2.1, U1.2.2, R1⟩
            | exact ⟨(cell?_setRow_far _ _ _ _ (by show w.heap.size + 1 ≠ w.heap.size + 1 + 1; omega)).trans U1.1, (cell?_setRow_far _ _ _ _ (by show w.heap.size + 1 ≠ w.heap.size + 1 + 1 + 1; omega)).trans U1.2.1, (rowAt_setRow_far _ _ _ _ (by omega)).trans U1.2.2, (rowAt_setRow_far _ _ _ _ (by omega)).trans R1⟩)
          (first
            | ((go_at_call 19; refine (HId.out _).mono ?_; rintro e w4 ⟨rfl, rfl⟩))
            | ((go_at_call 21; refine HSet.out.mono ?_; rintro e w5 ⟨rfl, hg5, hs5⟩; have hM5 := (HM3.out.below (Below.refl W2.heap.size W2).drew).grow hl.2.1 hg5 hs5; have U1 := HMk.out _ _ hM5; have hz5 := hg5.size; have R1 := (rowAt_grown hg5 hz4 (by omega)).trans R0; have R9 := rowAt_of hM5.c9)))
        all_goals
          have RF := rowAt_setRow w5 (w.heap.size + 1) _ u.cs R9
          have BF : Below w.heap.size w5 (w5.setRow (w.heap.size + 1) u.cs) := below_setRow (Below.refl _ _) _ (by omega)
          have GF := grown_below' hM5.grown BF
          have SF := hM5.stage.below BF hl
          have HGF := Lib.hid GF
          have HSF := Lib.hid SF
          clear BF GF SF hg5 hs5 hM5 U1 R1 R9 U0 R0
          generalize w5.setRow (w.heap.size + 1) u.cs = W at *
          go_wp2
          refine ret_tut rfl rfl (w.heap.size + 1) u rfl RF (.inl ⟨g, k, i, S1, q, ?_, HA.out, hi, HP.out, HGF.out, HSF.out⟩)
          rw [HU.out]; rfl
    · have HB := Lib.hid hB
      have R9 := rowAt_of hM.c9
      have hz := hM.grown.size
      have RF := rowAt_setRow wr (w.heap.size + 1) _ Un.zero.cs R9
      have BF : Below w.heap.size wr (wr.setRow (w.heap.size + 1) Un.zero.cs) := below_setRow (Below.refl _ _) _ (by omega)
      have HF := Lib.hid (hB.below hl BF)
      clear hM hB BF
      go_wp2_with fail
      exact ret_tut rfl rfl (w.heap.size + 1) Un.zero rfl RF (.inr ⟨S1, rfl, HF.out⟩)
end Go.Proofs.Ythehglhbgplfhaa
