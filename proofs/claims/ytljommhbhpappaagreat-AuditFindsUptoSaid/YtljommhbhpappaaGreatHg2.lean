/-
  Layer 15 (heap), for any chain of pages: the walk through them.
-/
import Derived.Test.YtljommhbhpappaaGreatHg1
namespace Go.Proofs.YtljommhbhpappaaGreat
open Go.RowKit Go.Joins
set_option linter.unusedVariables false
set_option linter.unusedSimpArgs false

/-- a volume that has a heap as its store st: the pages I, which hold C -/
structure GH (S : Vol) (d m : Pg) (n : Nat) (st : Int) (I : List Nat) (C : List Pg) : Prop where
  vol : VolOk S d m n
  slot : ∃ k : Nat, k < 6 ∧ st = (k : Int) + 1 ∧ d.a k = 1 ∧ d.d k = entryD 1 ((I.getD 0 0 : Nat) : Int)
  len : I.length = C.length
  pos : 0 < C.length
  few : C.length ≤ 1023
  pg : ∀ i (h : i < C.length), stPg S ((I.getD i 0 : Nat) : Int) = C[i]
  ok : ∀ i (h : i < C.length), okPg C[i] = true
  head : ∀ i (h : i < C.length), C[i].k = 3 ∧ C[i].s = st ∧ C[i].n = if i + 1 < C.length then ((I.getD (i + 1) 0 : Nat) : Int) else 0
  own : ∀ i, i < C.length → 2 ≤ I.getD i 0 ∧ I.getD i 0 < n
  nodup : I.Nodup
theorem GH.n1024 {S : Vol} {d m : Pg} {n : Nat} {st : Int} {I : List Nat} {C : List Pg} (h : GH S d m n st I C) : n ≤ 1024 := h.vol.map.hi
theorem GH.there {S : Vol} {d m : Pg} {n : Nat} {st : Int} {I : List Nat} {C : List Pg} (h : GH S d m n st I C) (i : Nat) (hi : i < C.length) : stE S ((I.getD i 0 : Nat) : Int) = 0 := h.vol.there _ (h.own i hi).2
theorem GH.inj {S : Vol} {d m : Pg} {n : Nat} {st : Int} {I : List Nat} {C : List Pg} (h : GH S d m n st I C) {i j : Nat} (hi : i < C.length) (hj : j < C.length) (e : I.getD i 0 = I.getD j 0) : i = j := by
  have hl := h.len
  rw [List.getD_eq_getElem?_getD, List.getD_eq_getElem?_getD, List.getElem?_eq_getElem (by omega), List.getElem?_eq_getElem (by omega)] at e
  simp only [Option.getD_some] at e
  have e1 := List.Nodup.idxOf_getElem h.nodup i (by omega)
  rw [e, List.Nodup.idxOf_getElem h.nodup j (by omega)] at e1
  exact e1.symm
set_option maxHeartbeats 1000000 in
theorem groot_any {S : Vol} {d m : Pg} {n : Nat} {st : Int} {I : List Nat} {C : List Pg} (hh : GH S d m n st I C) (b mb hb pb : Nat) (w : World) (hs : StageAt w b mb hb pb S) :
    Calls Tryz.prog 68 #[.pointer (some ⟨b, 0, none⟩), .int .i64 st] w fun e w' => e = .returned (.tuple #[.int .i64 ((I.getD 0 0 : Nat) : Int), .int .i64 0]) ∧ Below w.heap.size w w' := by
  obtain ⟨k, h1, h2, h3, h4⟩ := hh.slot
  have h5 := (hh.own 0 hh.pos).2
  have h6 := hh.n1024
  have HC := Lib.hid (find_st b mb hb pb w hs hh.vol k h1 (by rw [h3]; decide) 1 ((I.getD 0 0 : Nat) : Int) (by omega) (by omega) (by omega) (by omega) h4 st h2 1 h3)
  clear hh hs h2 h3 h4
  go_enter Tryz.func68, Tryz.ntmps68
  go_wp2_with fail
  with_reducible refine HC.out.mono ?_; rintro e w1 ⟨rfl, hb1⟩
  have HB := Lib.hid hb1
  clear hb1
  go_wp2_with fail
  go_ret2
  exact ⟨rfl, HB.out⟩

set_option maxHeartbeats 4000000 in
set_option maxRecDepth 100000 in
theorem gwalk_any (f : Nat) (cap : Array Value) (hf : ∀ (args : Array Value) (w : World), (callFunc f args).run Tryz.prog w = .ok (.enter f args) w) {S : Vol} {d m : Pg} {n : Nat} {st : Int} {I : List Nat} {C : List Pg} (hh : GH S d m n st I C) (b : Nat) (stop : Nat → Bool) (Inv : Nat → World → Prop) (w : World)
    (hst : ∀ k w', Inv k w' → ∃ mb hb pb, StageAt w' b mb hb pb S)
    (hbel : ∀ k w' w'', Inv k w' → Below w'.heap.size w' w'' → Inv k w'')
    (hstep : ∀ k (hk : k < C.length) w', w.heap.size ≤ w'.heap.size → Inv k w' → Calls Tryz.prog f (#[.int .i64 ((I.getD k 0 : Nat) : Int), C[k].v] ++ cap) w' fun e w'' => e = .returned (.bool (stop k)) ∧ Inv (k + 1) w'' ∧ w'.heap.size ≤ w''.heap.size ∧ ∀ q c, w.heap.size ≤ q → w'.heap[q]? = some (.cells c 38) → w''.heap[q]? = some (.cells c 38))
    (h0 : Inv 0 w) :
    Calls Tryz.prog 41 #[.pointer (some ⟨b, 0, none⟩), .int .i64 st, .func (.func f) #[] cap] w fun e w' => e = .returned (.int .i64 0) ∧ w.heap.size ≤ w'.heap.size ∧ ∃ k, k < C.length ∧ Inv (k + 1) w' ∧ (∀ j, j < k → stop j = false) ∧ (stop k = true ∨ k + 1 = C.length) := by
  obtain ⟨mb, hb, pb, hs0⟩ := hst 0 w h0
  have HC := Lib.hid (groot_any hh b mb hb pb w hs0)
  have H0 := Lib.hid h0
  have HSt := Lib.hid hst
  have HBel := Lib.hid hbel
  have HStep := Lib.hid hstep
  have HH := Lib.hid hh
  clear hs0 h0 hst hbel hstep hh
  go_enter Tryz.func41, Tryz.ntmps41
  go_wp2_with fail
  refine HC.out.mono ?_; rintro e w1 ⟨rfl, hb1⟩
  have H1 := Lib.hid (HBel.out _ _ _ H0.out hb1)
  have hz1 := hb1.size
  clear hb1
  go_wp2_with fail
  go_loopw [7, 9] (fun i j wr => ∃ k : Nat, k < C.length ∧ i = .int .i64 ((I.getD k 0 : Nat) : Int) ∧ j = .int .i64 k ∧ Inv k wr ∧ w.heap.size ≤ wr.heap.size ∧ ∀ j, j < k → stop j = false) (fun _ j _ => C.length - (intOf j).toNat)
  case atStart => exact ⟨0, HH.out.pos, rfl, rfl, H1.out, hz1, fun j hj => by omega⟩
  case round =>
    obtain ⟨k, hk, rfl, rfl, hI, hz, hno⟩ := hrel
    obtain ⟨mb, hb, pb, hs⟩ := HSt.out _ _ hI
    have hc := get_any S b mb hb pb ((I.getD k 0 : Nat) : Int) _ hs
    rw [HH.out.pg k hk, HH.out.there k hk] at hc
    have hhd := HH.out.head k hk
    have hk2 : (k : Int) < 1024 := by have := HH.out.few; omega
    have HG := Lib.hid hc
    have HSp := Lib.hid (HStep.out k hk)
    have HI := Lib.hid hI
    have HNo := Lib.hid hno
    obtain ⟨p, hp⟩ : ∃ p, C[k] = p := ⟨_, rfl⟩
    rw [hp] at HG HSp hhd
    obtain ⟨hp1, hp2, hp3⟩ := hhd
    clear hc hs hI hno hp
    go_wp2_with fail
    refine HG.out.mono ?_; rintro e w2 ⟨rfl, hb2⟩
    have hz2 := hb2.size
    have H2 := Lib.hid (HBel.out _ _ _ HI.out (hb2.trans ((Below.refl w2.heap.size w2).alloc (Nat.le_refl _) (.cells p.cs 38) |>.mono hz2)))
    clear hb2
    have k2 : ((k : Int) == 1024) = false := by simp; omega
    have hR2 := rowAt_at w2 p.cs 38 _ rfl
    have hB2 : (w2.alloc (.cells p.cs 38)).heap[w2.heap.size]? = some (.cells p.cs 38) := heap_alloc_new _ _
    cases hsk : stop k with
    | true =>
      rw [hsk] at HSp
      have HSk := Lib.hid hsk
      clear hsk
      go_wp2_with fail
      refine (HSp.out _ (by simp; omega) H2.out).mono ?_; rintro e w3 ⟨rfl, hi3, hz3, hq3⟩
      have HI3 := Lib.hid hi3
      rw [World.size_alloc] at hz3
      clear hi3 hq3
      go_wp2_with fail
      go_ret
      exact ⟨rfl, by omega, k, hk, HI3.out, HNo.out, .inl HSk.out⟩
    | false =>
      rw [hsk] at HSp
      have hno' : Hid (∀ j, j < k + 1 → stop j = false) := Lib.hid fun j hj => by
        by_cases e : j = k
        · subst e; exact hsk
        · exact HNo.out j (by omega)
      clear hsk
      by_cases hl : k + 1 < C.length
      · rw [if_pos hl] at hp3
        have n1 : (p.n == 0) = false := by rw [hp3]; have := (HH.out.own (k + 1) hl).1; rw [beq_eq_false_iff_ne]; omega
        have HP3 := Lib.hid hp3
        clear hp3
        go_wp2_with fail
        refine (HSp.out _ (by simp; omega) H2.out).mono ?_; rintro e w3 ⟨rfl, hi3, hz3, hq3⟩
        have HI3 := Lib.hid hi3
        have hR3 : rowAt w3 w2.heap.size = some p.cs := rowAt_of (hq3 _ _ (by omega) hB2)
        have hc3 : w3.cell? ⟨w2.heap.size, 3, none⟩ = some (.int .i64 p.n) := (cell_row hR3 3).trans rfl
        rw [World.size_alloc] at hz3
        clear hi3 hq3
        go_wp2_with fail
        go_roundw
        case rel => exact ⟨k + 1, hl, by rw [HP3.out], by go_num, HI3.out, by omega, hno'.out⟩
        case measure => simp [intOf]; omega
      · rw [if_neg hl] at hp3
        have n1 : (p.n == 0) = true := by rw [hp3]; rfl
        clear hp3
        go_wp2_with fail
        refine (HSp.out _ (by simp; omega) H2.out).mono ?_; rintro e w3 ⟨rfl, hi3, hz3, hq3⟩
        have HI3 := Lib.hid hi3
        have hR3 : rowAt w3 w2.heap.size = some p.cs := rowAt_of (hq3 _ _ (by omega) hB2)
        have hc3 : w3.cell? ⟨w2.heap.size, 3, none⟩ = some (.int .i64 p.n) := (cell_row hR3 3).trans rfl
        rw [World.size_alloc] at hz3
        clear hi3 hq3
        go_wp2_with fail
        go_ret
        exact ⟨rfl, by omega, k, hk, HI3.out, HNo.out, .inr (by omega)⟩
end Go.Proofs.YtljommhbhpappaaGreat
