/-
  Layer 15 (heap): the walk through a heap's pages, whatever visits them.
-/
import Derived.Test.YthehglhbgplfhaaHeap2
namespace Go.Proofs.Ythehglhbgplfhaa
open Go.RowKit Go.Joins
set_option linter.unusedVariables false
set_option linter.unusedSimpArgs false

/-- some blocks are written, new ones are laid, all else is as it was -/
structure Poked (cs : List Nat) (w w' : World) : Prop where
  os : w'.os = w.os
  tape : w'.tape = w.tape
  output : w'.output = w.output
  size : w.heap.size ≤ w'.heap.size
  block : ∀ q, q < w.heap.size → q ∉ cs → w'.heap[q]? = w.heap[q]?
theorem Poked.of_below {cs : List Nat} {w w' : World} (h : Below w.heap.size w w') : Poked cs w w' := ⟨h.os, h.tape, h.output, h.size, fun q hq _ => h.block q hq⟩
theorem Poked.trans {cs : List Nat} {w w' w2 : World} (h : Poked cs w w') (k : Poked cs w' w2) : Poked cs w w2 :=
  ⟨k.os.trans h.os, k.tape.trans h.tape, k.output.trans h.output, Nat.le_trans h.size k.size, fun q hq hc => (k.block q (Nat.lt_of_lt_of_le hq h.size) hc).trans (h.block q hq hc)⟩
theorem Poked.keep {cs : List Nat} {w w' : World} (h : Poked cs w w') {P : Nat → Prop} (hd : ∀ k, P k → k < w.heap.size) (hc : ∀ q ∈ cs, ¬ P q) : Keep P w w' :=
  ⟨h.os, h.tape, h.output, h.size, fun k hk => h.block k (hd k hk) fun hm => hc k hm hk⟩
theorem Lay.poked {P : Nat → Prop} {w0 w w' : World} {b hb : Nat} {S : Vol} {cs : List Nat} (L : Lay P w0 w b hb S) (h : Poked cs w w') (hc : ∀ q ∈ cs, P q) : Lay P w' w' b hb S := by
  obtain ⟨h1, h2, mb, pb, h3, h4⟩ := L
  obtain ⟨q1, q2, q3, q4⟩ := h3.lt
  obtain ⟨t1, ⟨es', c', t2, t3⟩, ⟨t4, t5, t6⟩, t7⟩ := h3
  have hb1 : b ∉ cs := fun hm => h4.1 (hc _ hm)
  have hb2 : mb ∉ cs := fun hm => h4.2.1 (hc _ hm)
  have hb3 : hb ∉ cs := fun hm => h4.2.2.1 (hc _ hm)
  have hb4 : pb ∉ cs := fun hm => h4.2.2.2 (hc _ hm)
  exact ⟨Keep.refl _ _, fun k hk => Nat.lt_of_lt_of_le (h2 k hk) (Nat.le_trans h1.size h.size), mb, pb, ⟨(h.block b q1 hb1).trans t1, ⟨es', c', (h.block mb q2 hb2).trans t2, t3⟩, ⟨(h.block hb q3 hb3).trans t4, (h.block pb q4 hb4).trans t5, t6⟩, t7⟩, h4⟩
theorem Lay.weak {P Q : Nat → Prop} {w0 w1 w : World} {b hb : Nat} {S : Vol} (L : Lay Q w1 w b hb S) (hK : Keep P w0 w) (hd : ∀ k, P k → k < w0.heap.size) (hPQ : ∀ k, P k → Q k) : Lay P w0 w b hb S := by
  obtain ⟨h1, h2, mb, pb, h3, h4⟩ := L
  exact ⟨hK, hd, mb, pb, h3, fun h => h4.1 (hPQ _ h), fun h => h4.2.1 (hPQ _ h), fun h => h4.2.2.1 (hPQ _ h), fun h => h4.2.2.2 (hPQ _ h)⟩

theorem blk_ne {w : World} {a b : Nat} {ca cb : Array Value} {ta tb : TypeId} (ha : w.heap[a]? = some (.cells ca ta)) (hb : w.heap[b]? = some (.cells cb tb)) (ht : ta ≠ tb) : a ≠ b := by
  rintro rfl
  rw [ha] at hb
  simp only [Option.some.injEq, Obj.cells.injEq] at hb
  exact ht hb.2.1
theorem rowAt_setRow_far (W : World) (n k : Nat) (c : Array Value) (h : n ≠ k) : rowAt (W.setRow n c) k = rowAt W k := by
  unfold rowAt World.setRow
  simp only [Array.getElem?_modify, h, if_false]

theorem heap_setCell_far (W : World) (a : Addr) (v : Value) (k : Nat) (h : a.block ≠ k) : (W.setCell a v).heap[k]? = W.heap[k]? := by
  simp only [World.setCell, Array.getElem?_modify, h, if_false]
theorem heap_setRow_far (W : World) (n k : Nat) (c : Array Value) (h : n ≠ k) : (W.setRow n c).heap[k]? = W.heap[k]? := by
  simp only [World.setRow, Array.getElem?_modify, h, if_false]
theorem Poked.setCell {cs : List Nat} {w w' : World} (h : Poked cs w w') (a : Addr) (v : Value) (ha : a.block ∈ cs) : Poked cs w (w'.setCell a v) :=
  ⟨h.os, h.tape, h.output, by simpa [World.setCell] using h.size, fun q hq hc => (heap_setCell_far w' a v q (fun e => hc (by rw [← e]; exact ha))).trans (h.block q hq hc)⟩
theorem Poked.setRow {cs : List Nat} {w w' : World} (h : Poked cs w w') (n : Nat) (c : Array Value) (ha : n ∈ cs) : Poked cs w (w'.setRow n c) :=
  ⟨h.os, h.tape, h.output, by simpa [World.setRow] using h.size, fun q hq hc => (heap_setRow_far w' n q c (fun e => hc (by rw [← e]; exact ha))).trans (h.block q hq hc)⟩

/-- the root of the one heap -/
theorem root_any {S : Vol} {n : Nat} {C : List Pg} (hh : HeapOk S n C) (b mb hb pb : Nat) (w : World) (hs : StageAt w b mb hb pb S) :
    Calls Try.prog 62 #[.pointer (some ⟨b, 0, none⟩), .int .i64 1] w fun e w' => e = .returned (.tuple #[.int .i64 2, .int .i64 0]) ∧ Below w.heap.size w w' := by
  obtain ⟨m, hv, -⟩ := hh.vol
  obtain ⟨b0, b1, b2, b3, b4, e1, e2, e3⟩ := five_of 1 2 (by omega) (by omega) (by omega) (by omega)
  have hc := find_ok S b mb hb pb dirH w hs hv.dir 0 (by omega) (by rw [dirH_a]; decide) b0 b1 b2 b3 b4 (dirH_d.trans e1)
  rw [e2, e3, dirH_a] at hc
  have HC := Lib.hid hc
  clear hc hv hs e1 e2 e3
  go_enter Try.func62, Try.ntmps62
  go_wp2_with fail
  refine HC.out.mono ?_; rintro e w1 ⟨rfl, hb1⟩
  have HB := Lib.hid hb1
  clear hb1
  go_wp2_with fail
  go_ret2
  exact ⟨rfl, HB.out⟩

set_option maxHeartbeats 4000000 in
set_option maxRecDepth 100000 in
theorem walk_any (f : Nat) (cap : Array Value) (hf : ∀ (args : Array Value) (w : World), (callFunc f args).run Try.prog w = .ok (.enter f args) w) {S : Vol} {n : Nat} {C : List Pg} (hh : HeapOk S n C) (b : Nat) (stop : Nat → Bool) (Inv : Nat → World → Prop) (w : World)
    (hst : ∀ k w', Inv k w' → ∃ mb hb pb, StageAt w' b mb hb pb S)
    (hbel : ∀ k w' w'', Inv k w' → Below w'.heap.size w' w'' → Inv k w'')
    (hstep : ∀ k (hk : k < C.length) w', w.heap.size ≤ w'.heap.size → Inv k w' → Calls Try.prog f (#[.int .i64 ((2 + k : Nat) : Int), C[k].v] ++ cap) w' fun e w'' => e = .returned (.bool (stop k)) ∧ Inv (k + 1) w'' ∧ w'.heap.size ≤ w''.heap.size ∧ ∀ q c, w.heap.size ≤ q → w'.heap[q]? = some (.cells c 41) → w''.heap[q]? = some (.cells c 41))
    (h0 : Inv 0 w) :
    Calls Try.prog 44 #[.pointer (some ⟨b, 0, none⟩), .int .i64 1, .func (.func f) #[] cap] w fun e w' => e = .returned (.int .i64 0) ∧ w.heap.size ≤ w'.heap.size ∧ ∃ k, k < C.length ∧ Inv (k + 1) w' ∧ (∀ j, j < k → stop j = false) ∧ (stop k = true ∨ k + 1 = C.length) := by
  obtain ⟨mb, hb, pb, hs0⟩ := hst 0 w h0
  have HC := Lib.hid (root_any hh b mb hb pb w hs0)
  have H0 := Lib.hid h0
  have HSt := Lib.hid hst
  have HBel := Lib.hid hbel
  have HStep := Lib.hid hstep
  have HH := Lib.hid hh
  clear hs0 h0 hst hbel hstep hh
  go_enter Try.func44, Try.ntmps44
  go_wp2_with fail
  refine HC.out.mono ?_; rintro e w1 ⟨rfl, hb1⟩
  have H1 := Lib.hid (HBel.out _ _ _ H0.out hb1)
  have hz1 := hb1.size
  clear hb1
  go_wp2_with fail
  go_loopw [7, 9] (fun i j wr => ∃ k : Nat, k < C.length ∧ i = .int .i64 ((2 + k : Nat) : Int) ∧ j = .int .i64 k ∧ Inv k wr ∧ w.heap.size ≤ wr.heap.size ∧ ∀ j, j < k → stop j = false) (fun _ j _ => C.length - (intOf j).toNat)
  case atStart => exact ⟨0, HH.out.pos, rfl, rfl, H1.out, hz1, fun j hj => by omega⟩
  case round =>
    obtain ⟨k, hk, rfl, rfl, hI, hz, hno⟩ := hrel
    obtain ⟨mb, hb, pb, hs⟩ := HSt.out _ _ hI
    have hc := get_any S b mb hb pb ((2 + k : Nat) : Int) _ hs
    rw [HH.out.pg k hk, HH.out.there k hk] at hc
    have hhd := HH.out.head k hk
    have hk2 : (k : Int) < 1024 := by have := HH.out.top; have := HH.out.n1024; omega
    have HG := Lib.hid hc
    have HSp := Lib.hid (HStep.out k hk)
    have HI := Lib.hid hI
    have HNo := Lib.hid hno
    obtain ⟨p, hp⟩ : ∃ p, C[k] = p := ⟨_, rfl⟩
    rw [hp] at HG HSp hhd
    obtain ⟨hp1, hp2, hp3⟩ := hhd
    clear hc hs hI hno hp
    go_wp2_with fail
    refine HG.out.mono ?_; rintro e w2 ⟨rfl, hb2⟩
    have hz2 := hb2.size
    have H2 := Lib.hid (HBel.out _ _ _ HI.out (hb2.trans ((Below.refl w2.heap.size w2).alloc (Nat.le_refl _) (.cells p.cs 41) |>.mono hz2)))
    clear hb2
    have k2 : ((k : Int) == 1024) = false := by simp; omega
    have hR2 := rowAt_at w2 p.cs 41 _ rfl
    have hB2 : (w2.alloc (.cells p.cs 41)).heap[w2.heap.size]? = some (.cells p.cs 41) := heap_alloc_new _ _
    cases hsk : stop k with
    | true =>
      rw [hsk] at HSp
      have HSk := Lib.hid hsk
      clear hsk
      go_wp2_with fail
      refine (HSp.out _ (by simp; omega) H2.out).mono ?_; rintro e w3 ⟨rfl, hi3, hz3, hq3⟩
      have HI3 := Lib.hid hi3
      rw [World.size_alloc] at hz3
      clear hi3 hq3
      go_wp2_with fail
      go_ret
      exact ⟨rfl, by omega, k, hk, HI3.out, HNo.out, .inl HSk.out⟩
    | false =>
      rw [hsk] at HSp
      have hno' : Hid (∀ j, j < k + 1 → stop j = false) := Lib.hid fun j hj => by
        by_cases e : j = k
        · subst e; exact hsk
        · exact HNo.out j (by omega)
      clear hsk
      by_cases hl : k + 1 < C.length
      · rw [if_pos hl] at hp3
        have n1 : (p.n == 0) = false := by rw [hp3]; simp; omega
        have HP3 := Lib.hid hp3
        clear hp3
        go_wp2_with fail
        refine (HSp.out _ (by simp; omega) H2.out).mono ?_; rintro e w3 ⟨rfl, hi3, hz3, hq3⟩
        have HI3 := Lib.hid hi3
        have hR3 : rowAt w3 w2.heap.size = some p.cs := rowAt_of (hq3 _ _ (by omega) hB2)
        have hc3 : w3.cell? ⟨w2.heap.size, 3, none⟩ = some (.int .i64 p.n) := (cell_row hR3 3).trans rfl
        rw [World.size_alloc] at hz3
        clear hi3 hq3
        go_wp2_with fail
        go_roundw
        case rel => exact ⟨k + 1, hl, by rw [HP3.out]; go_num, by go_num, HI3.out, by omega, hno'.out⟩
        case measure => simp [intOf]; omega
      · rw [if_neg hl] at hp3
        have n1 : (p.n == 0) = true := by rw [hp3]; rfl
        clear hp3
        go_wp2_with fail
        refine (HSp.out _ (by simp; omega) H2.out).mono ?_; rintro e w3 ⟨rfl, hi3, hz3, hq3⟩
        have HI3 := Lib.hid hi3
        have hR3 : rowAt w3 w2.heap.size = some p.cs := rowAt_of (hq3 _ _ (by omega) hB2)
        have hc3 : w3.cell? ⟨w2.heap.size, 3, none⟩ = some (.int .i64 p.n) := (cell_row hR3 3).trans rfl
        rw [World.size_alloc] at hz3
        clear hi3 hq3
        go_wp2_with fail
        go_ret
        exact ⟨rfl, by omega, k, hk, HI3.out, HNo.out, .inr (by omega)⟩
end Go.Proofs.Ythehglhbgplfhaa
