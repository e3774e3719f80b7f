/-
  Layer 9 (locks): the walk of LocksGreater.
-/
import Derived.Test.YtileamjmhhifaaaLk20
namespace Go.Proofs.Ytileamjmhhifaaa
open Go.RowKit Go.Joins Go.Sort Go.Shelf
set_option linter.unusedVariables false
set_option linter.unusedSimpArgs false

/-- only one name has anything -/
def Only (S : LS) (n : Nm) (Q : Qu) : Prop := ∀ k, S.q k = if k = n then Q else ⟨[], []⟩
theorem Only.empty (n : Nm) : Only LS.empty n ⟨[], []⟩ := fun k => by split <;> rfl
theorem Only.ask {S : LS} {n : Nm} {Q : Qu} (h : Only S n Q) (x m : Int) : Only (askS S x n m) n (askQ Q x m S.turn).1 := fun k => by
  have hn := h n
  rw [if_pos rfl] at hn
  by_cases e : k = n
  · simp only [askS, if_pos e, hn]
  · simp only [askS, if_neg e]
    rw [h k, if_neg e]
theorem Only.at' {S : LS} {n : Nm} {Q : Qu} (h : Only S n Q) : S.q n = Q := by rw [h n, if_pos rfl]
/-- Release where only one name has anything -/
theorem Only.rel {S S' : LS} {n : Nm} {Q Q' : Qu} {xs : List Int} {x : Int} (h : Only S n Q) (hr : RelS x S S') (hq : RelQ x Q xs Q') : Only S' n Q' ∧ S'.turn = S.turn ∧ ∀ k, S'.wt k = true ↔ S.wt k = true ∧ k ≠ x ∧ k ∉ xs := by
  obtain ⟨h0, ys, h1, h2, h3⟩ := hr
  have key : ∀ k zs, RelQ x (S.q k) zs (S'.q k) → (k = n ∧ zs = xs ∧ S'.q k = Q') ∨ (k ≠ n ∧ zs = [] ∧ S'.q k = ⟨[], []⟩) := fun k zs hz => by
    rw [h k] at hz
    by_cases e : k = n
    · rw [if_pos e] at hz
      obtain ⟨e1, e2⟩ := hz.det hq
      exact .inl ⟨e, e1, e2⟩
    · rw [if_neg e] at hz
      exact .inr ⟨e, hz.nil⟩
  refine ⟨fun k => ?_, h0, fun k => ?_⟩
  · obtain ⟨zs, hz, -⟩ := h1 k
    rcases key k zs hz with ⟨e, -, e2⟩ | ⟨e, -, e2⟩
    · rw [if_pos e]; exact e2
    · rw [if_neg e]; exact e2
  · rw [h3 k]
    have : k ∈ ys ↔ k ∈ xs := by
      constructor
      · intro hk
        obtain ⟨j, zs, hz, hm⟩ := h2 k hk
        rcases key j zs hz with ⟨-, e1, -⟩ | ⟨-, e1, -⟩
        · rw [e1] at hm; exact hm
        · rw [e1] at hm; cases hm
      · intro hk
        obtain ⟨zs, hz, hs⟩ := h1 n
        rcases key n zs hz with ⟨-, e1, -⟩ | ⟨e, -⟩
        · exact hs k (by rw [e1]; exact hk)
        · exact absurd rfl e
    rw [this]

/-- the second lock of one transaction -/
theorem ask_again (a b t : Int) : askQ ⟨[⟨1, a, 0, 0⟩], []⟩ 1 b t = (⟨[⟨1, joinL a b, 0, 0⟩], []⟩, true, t) := by
  have h := askQ_at (Q := ⟨[⟨1, a, 0, 0⟩], []⟩) (x := 1) (m := b) (t := t) (k := 0) (by simp [atL]) (by simp)
  rw [h]
  simp only [List.getElem_cons_zero]
  by_cases e : joinL a b = a
  · rw [if_pos e, e]
  · rw [if_neg e, if_pos (by simp [freeL])]; rfl
theorem ask_other (j c t : Int) : askQ ⟨[⟨1, j, 0, 0⟩], []⟩ 2 c t = if compatL c j = true then (⟨[⟨1, j, 0, 0⟩, ⟨2, c, 0, 0⟩], []⟩, true, t) else (⟨[⟨1, j, 0, 0⟩], [⟨2, c⟩]⟩, false, t) := by
  rw [askQ_new (by simp [atL])]
  by_cases e : compatL c j = true
  · rw [if_pos e, if_pos (by simp [wantL, freeL, e])]; rfl
  · rw [if_neg e, if_neg (by simp [wantL, freeL, e])]; rfl
theorem rel_gone (j c : Int) : RelQ 1 ⟨[⟨1, j, 0, 0⟩, ⟨2, c, 0, 0⟩], []⟩ [] ⟨[⟨2, c, 0, 0⟩], []⟩ :=
  .inl ⟨by simp [hasQ], [], [], _, .stop (by simp [stepA, bestQ, bestTo, remQ, candB]), .stop (by simp [stepB, remQ]), rfl⟩
theorem rel_given (j c : Int) : RelQ 1 ⟨[⟨1, j, 0, 0⟩], [⟨2, c⟩]⟩ [2] ⟨[⟨2, c, 0, 0⟩], []⟩ :=
  .inl ⟨by simp [hasQ], [], [2], _, .stop (by simp [stepA, bestQ, bestTo, remQ]), .step (Q1 := ⟨[⟨2, c, 0, 0⟩], []⟩) (by simp [stepB, remQ, wantL, freeL]) (.stop (by simp [stepB])), rfl⟩

set_option maxHeartbeats 3000000 in
set_option maxRecDepth 100000 in
theorem greater_walk (a b c s : Int) (i : ByteArray) (w : World) :
    Calls Try.prog 4 #[.agg #[.int .i64 a, .int .i64 b, .int .i64 c], .agg #[.int .i64 s, .string i]] w fun e w' => e = .returned (.bool true) ∧ Below w.heap.size w w' := by
  have mixed : Try.prog.follows Departure.mixedOrders = true := by kernel_rfl
  obtain ⟨n, hn⟩ : ∃ n : Nm, n = ⟨s, i⟩ := ⟨_, rfl⟩
  have hs : s = n.s := by rw [hn]
  have hi : i = n.i := by rw [hn]
  subst hs
  subst hi
  clear hn
  have hb1 : Below w.heap.size w ((w.alloc (.cells #[.int .i64 a, .int .i64 b, .int .i64 c] 38)).alloc (.cells #[.int .i64 n.s, .string n.i] 24)) := ((Below.refl _ _).alloc (Nat.le_refl _) _).alloc (by simp) _
  have hm1 : ((w.alloc (.cells #[.int .i64 a, .int .i64 b, .int .i64 c] 38)).alloc (.cells #[.int .i64 n.s, .string n.i] 24)).heap[w.heap.size]? = some (.cells #[.int .i64 a, .int .i64 b, .int .i64 c] 38) := (Below.heap_alloc _ _ _ (by simp)).trans (heap_alloc_new w _)
  have hn1 : ((w.alloc (.cells #[.int .i64 a, .int .i64 b, .int .i64 c] 38)).alloc (.cells #[.int .i64 n.s, .string n.i] 24)).heap[w.heap.size + 1]? = some (.cells #[.int .i64 n.s, .string n.i] 24) := by
    have := heap_alloc_new (w.alloc (.cells #[.int .i64 a, .int .i64 b, .int .i64 c] 38)) (.cells #[.int .i64 n.s, .string n.i] 24)
    rwa [World.size_alloc] at this
  have HB1 := Lib.hid hb1
  have HM1 := Lib.hid hm1
  have HN1 := Lib.hid hn1
  clear hb1 hm1 hn1
  go_enter Try.func4, Try.ntmps4
  go_upto_region 1 with fail
  generalize (w.alloc (.cells #[.int .i64 a, .int .i64 b, .int .i64 c] 38)).alloc (.cells #[.int .i64 n.s, .string n.i] 24) = w1 at *
  have hl1 := (Array.getElem?_eq_some_iff.1 HM1.out).1
  have q0 := fun k os => cell_grown (a := ⟨w.heap.size, 0, none⟩) hl1 ((cell_of_block HM1.out 0).trans rfl) k os
  have q1 := fun k os => cell_grown (a := ⟨w.heap.size, 1, none⟩) hl1 ((cell_of_block HM1.out 1).trans rfl) k os
  have q2 := fun k os => cell_grown (a := ⟨w.heap.size, 2, none⟩) hl1 ((cell_of_block HM1.out 2).trans rfl) k os
  refine wp_region_quiet_grown (by assumption) (by kernel_rfl) ?_
  iterate 9 (with_reducible refine wpQuiet_step (fun K hK => ?_); go_simp; with_reducible refine hK _ ?_; clear hK K)
  with_reducible refine wpQuiet_nil ?_
  with_reducible intro _ hw'
  obtain ⟨⟨nq, osq⟩, hw''⟩ := hw'
  subst hw''
  have hbg := (Gr.below (w := w1) ⟨nq, osq, rfl⟩)
  have HB2 := Lib.hid (HB1.out.trans (hbg.mono HB1.out.size))
  have HN2 := Lib.hid ((hbg.block _ (Array.getElem?_eq_some_iff.1 HN1.out).1).trans HN1.out)
  clear q0 q1 q2 hbg HB1 HM1 HN1 hl1
  generalize grow (w1.drewN nq) osq = w2 at *
  go_wp2_with fail
  refine (awake9 w2).mono ?_
  rintro e w3 ⟨rfl, hb3⟩
  have HB3 := Lib.hid (HB2.out.trans (hb3.mono HB2.out.size))
  have HN3 := Lib.hid ((hb3.block _ (Array.getElem?_eq_some_iff.1 HN2.out).1).trans HN2.out)
  clear hb3 HB2 HN2
  go_upto_region 4 with fail
  by_cases ha1 : a < 1
  · go_wp2_with fail
    go_ret
    exact ⟨rfl, HB3.out⟩
  by_cases ha2 : 6 < a
  · go_wp2_with fail
    go_ret
    exact ⟨rfl, HB3.out⟩
  by_cases hb1 : b < 1
  · go_wp2_with fail
    go_ret
    exact ⟨rfl, HB3.out⟩
  by_cases hb2 : 6 < b
  · go_wp2_with fail
    go_ret
    exact ⟨rfl, HB3.out⟩
  by_cases hc1 : c < 1
  · go_wp2_with fail
    go_ret
    exact ⟨rfl, HB3.out⟩
  by_cases hc2 : 6 < c
  · go_wp2_with fail
    go_ret
    exact ⟨rfl, HB3.out⟩
  have HNew := Lib.hid (la_new HB3.out)
  have HA := Lib.hid (show 0 < a ∧ a ≤ 6 ∧ 0 < b ∧ b ≤ 6 ∧ 0 < c ∧ c ≤ 6 by omega)
  go_wp2_with fail
  refine HNew.out.mono ?_
  rintro e w4 ⟨t, O4, rfl, l4, hb4, hO4⟩
  have HL4 := Lib.hid l4
  have HM4 : Hid (Mine w4 O4 (w.heap.size + 1) (.cells #[.int .i64 n.s, .string n.i] 24)) := Lib.hid ⟨(hb4.block _ (Array.getElem?_eq_some_iff.1 HN3.out).1).trans HN3.out, fun h => by
    have h1 := hO4 _ h
    have h2 := (Array.getElem?_eq_some_iff.1 HN3.out).1
    omega⟩
  clear l4 hb4 hO4 HNew HN3 HB3 ha1 ha2 hb1 hb2 hc1 hc2
  have c0 := (cell_of_block HM4.out.at' 0).trans rfl
  have c1 := (cell_of_block HM4.out.at' 1).trans rfl
  have hl := HM4.out.lt
  have HK : Hid (Calls Try.prog 11 #[.pointer (some ⟨t, 0, none⟩), .int .i64 1, .agg #[.int .i64 n.s, .string n.i], .int .i64 a] w4 fun e w' => e = .returned (.tuple #[.bool true, .int .i64 0]) ∧ ∃ O', LA w w' t O' (askS LS.empty 1 n a) 1 ∧ Kept O4 O' w4 w') := Lib.hid (la_ask HL4.out (by omega) 1 a n HA.out.1 HA.out.2.1 rfl)
  go_wp2_with fail
  refine HK.out.mono ?_
  rintro e w5 ⟨rfl, O5, l5, k5⟩
  have hq1 := (Only.empty n).ask 1 a
  have hw1 : ∀ k, (askS LS.empty 1 n a).wt k = false := fun k => by simp [askS, LS.empty, askQ_first]
  have hq1' : Only (askS LS.empty 1 n a) n ⟨[⟨1, a, 0, 0⟩], []⟩ := hq1
  clear hq1
  generalize askS LS.empty 1 n a = S1 at *
  have HL5 := Lib.hid l5
  have HM5 := Lib.hid (HM4.out.kept k5)
  have HQ1 := Lib.hid hq1'
  have HW1 := Lib.hid hw1
  clear l5 k5 hq1' hw1 c0 c1 hl HK HL4 HM4
  have c0 := (cell_of_block HM5.out.at' 0).trans rfl
  have c1 := (cell_of_block HM5.out.at' 1).trans rfl
  have hl := HM5.out.lt
  have HK : Hid (Calls Try.prog 11 #[.pointer (some ⟨t, 0, none⟩), .int .i64 1, .agg #[.int .i64 n.s, .string n.i], .int .i64 b] w5 fun e w' => e = .returned (.tuple #[.bool true, .int .i64 0]) ∧ ∃ O', LA w w' t O' (askS S1 1 n b) 2 ∧ Kept O5 O' w5 w') := Lib.hid (by
    have h := la_ask HL5.out (by omega) 1 b n HA.out.2.2.1 HA.out.2.2.2.1 (HW1.out 1)
    rw [HQ1.out.at', ask_again] at h
    exact h)
  go_wp2_with fail
  refine HK.out.mono ?_
  rintro e w6 ⟨rfl, O6, l6, k6⟩
  have hq2 := HQ1.out.ask 1 b
  rw [ask_again] at hq2
  have hw2 : ∀ k, (askS S1 1 n b).wt k = false := fun k => by
    simp only [askS, HQ1.out.at', ask_again, HW1.out k]; rfl
  generalize askS S1 1 n b = S2 at *
  have HL6 := Lib.hid l6
  have HM6 := Lib.hid (HM5.out.kept k6)
  have HQ2 := Lib.hid hq2
  have HW2 := Lib.hid hw2
  clear l6 k6 hq2 hw2 c0 c1 hl HK HL5 HM5
  have c0 := (cell_of_block HM6.out.at' 0).trans rfl
  have c1 := (cell_of_block HM6.out.at' 1).trans rfl
  have hl := HM6.out.lt
  go_wp2_with fail
  refine (join_any _ _ _).mono ?_
  rintro e w7 ⟨rfl, rfl⟩
  obtain ⟨j, hj⟩ : ∃ j, joinL a b = j := ⟨_, rfl⟩
  rw [hj] at HQ2
  rw [hj]
  clear hj
  have HMo : Hid (Calls Try.prog 13 #[.pointer (some ⟨t, 0, none⟩), .int .i64 1, .agg #[.int .i64 n.s, .string n.i]] w7 fun e w' => e = .returned (.int .i64 j) ∧ Below w7.heap.size w7 w') := Lib.hid (by
    have h := la_mode HL6.out 1 n
    rw [HQ2.out.at'] at h
    exact h)
  have hjj : (j != j) = false := by simp
  go_wp2_with fail
  refine HMo.out.mono ?_
  rintro e w8 ⟨rfl, hb8⟩
  have HL8 := Lib.hid (HL6.out.below hb8)
  have HM8 := Lib.hid (HM6.out.below hb8)
  clear hb8 c0 c1 hl HMo HL6 HM6
  have c0 := (cell_of_block HM8.out.at' 0).trans rfl
  have c1 := (cell_of_block HM8.out.at' 1).trans rfl
  have hl := HM8.out.lt
  obtain ⟨z, hz⟩ : ∃ z, compatL c j = z := ⟨_, rfl⟩
  have HZ := Lib.hid hz
  have HK : Hid (Calls Try.prog 11 #[.pointer (some ⟨t, 0, none⟩), .int .i64 2, .agg #[.int .i64 n.s, .string n.i], .int .i64 c] w8 fun e w' => e = .returned (.tuple #[.bool z, .int .i64 0]) ∧ ∃ O', LA w w' t O' (askS S2 2 n c) 3 ∧ Kept O6 O' w8 w') := Lib.hid (by
    have h := la_ask HL8.out (by omega) 2 c n HA.out.2.2.2.2.1 HA.out.2.2.2.2.2 (HW2.out 2)
    rw [HQ2.out.at', ask_other, hz] at h
    cases z with
    | true => exact h
    | false => exact h)
  clear hz
  go_wp2_with fail
  refine HK.out.mono ?_
  rintro e w9 ⟨rfl, O9, l9, k9⟩
  have hq3 := HQ2.out.ask 2 c
  rw [ask_other, HZ.out] at hq3
  have hw3 : (askS S2 2 n c).wt 2 = !z := by
    simp only [askS, HQ2.out.at', ask_other, HZ.out, HW2.out 2]
    cases z <;> rfl
  generalize askS S2 2 n c = S3 at *
  have HL9 := Lib.hid l9
  have HM9 := Lib.hid (HM8.out.kept k9)
  have HQ3 := Lib.hid hq3
  have HW3 := Lib.hid hw3
  clear l9 k9 hq3 hw3 c0 c1 hl HK HL8 HM8
  have HCo : Hid (∀ W, Calls Try.prog 16 #[.int .i64 c, .int .i64 j] W fun e w' => e = .returned (.bool z) ∧ w' = W) := Lib.hid fun W => by
    have := compat_any c j W
    rw [HZ.out] at this
    exact this
  have HWa : Hid (Calls Try.prog 14 #[.pointer (some ⟨t, 0, none⟩), .int .i64 2] w9 fun e w' => e = .returned (.bool !z) ∧ Below w9.heap.size w9 w') := Lib.hid (by
    have h := lt_waiting HL9.out.lt 2
    rw [HW3.out] at h
    exact h)
  have hrel : ∀ S', RelS 1 S3 S' → Only S' n ⟨[⟨2, c, 0, 0⟩], []⟩ ∧ S'.wt 2 = false := fun S' hr => by
    have hq := HQ3.out
    have hw := HW3.out
    cases z with
    | true =>
      rw [if_pos rfl] at hq
      obtain ⟨h1, -, h3⟩ := hq.rel hr (rel_gone j c)
      refine ⟨h1, ?_⟩
      cases hb : S'.wt 2 with
      | false => rfl
      | true => have := ((h3 2).1 hb).1; rw [hw] at this; cases this
    | false =>
      rw [if_neg (by simp)] at hq
      obtain ⟨h1, -, h3⟩ := hq.rel hr (rel_given j c)
      refine ⟨h1, ?_⟩
      cases hb : S'.wt 2 with
      | false => rfl
      | true => exact absurd (List.mem_singleton.2 rfl) ((h3 2).1 hb).2.2
  have HRel := Lib.hid hrel
  clear hrel
  go_upto_region 13 with fail
  have HC2 : Hid (w9.heap.size ≤ w9.heap.size) := Lib.hid (Nat.le_refl _)
  go_cut [106] (fun s106 wc => s106 = .bool false ∧ Below w9.heap.size w9 wc)
  case first =>
    cases z with
    | true =>
      go_wp2_with fail
      refine (HCo.out _).mono ?_
      rintro e w10 ⟨rfl, rfl⟩
      go_wp2_with fail
      refine HWa.out.mono ?_
      rintro e w11 ⟨rfl, hb11⟩
      have HB11 := Lib.hid hb11
      clear hb11
      go_wp2_with fail
      go_meet
      exact ⟨rfl, HB11.out⟩
    | false =>
      go_wp2_with fail
      refine (HCo.out _).mono ?_
      rintro e w10 ⟨rfl, rfl⟩
      go_wp2_with fail
      refine HWa.out.mono ?_
      rintro e w11 ⟨rfl, hb11⟩
      have HB11 := Lib.hid hb11
      clear hb11
      go_wp2_with fail
      go_meet
      exact ⟨rfl, HB11.out⟩
  case rest =>
    obtain ⟨rfl, hb12⟩ := hcut
    obtain ⟨w12, rfl⟩ : ∃ w12 : World, w12 = wc := ⟨_, rfl⟩
    have HL12 := Lib.hid (HL9.out.below hb12)
    have HM12 := Lib.hid (HM9.out.below hb12)
    have HRl := Lib.hid (la_release HL12.out (by omega) 1)
    clear hb12 HL9 HM9
    go_wp2_with fail
    refine HRl.out.mono ?_
    rintro e w13 ⟨rfl, S4, O13, hr, l13, k13⟩
    obtain ⟨e1, e2⟩ := HRel.out S4 hr
    have HL13 := Lib.hid l13
    have HM13 := Lib.hid (HM12.out.kept k13)
    have HE2 := Lib.hid e2
    have HMo : Hid (Calls Try.prog 13 #[.pointer (some ⟨t, 0, none⟩), .int .i64 2, .agg #[.int .i64 n.s, .string n.i]] w13 fun e w' => e = .returned (.int .i64 c) ∧ Below w13.heap.size w13 w') := Lib.hid (by
      have h := la_mode l13 2 n
      rw [e1.at'] at h
      exact h)
    clear hr l13 k13 e1 e2 HL12 HM12 HRl
    have c0 := (cell_of_block HM13.out.at' 0).trans rfl
    have c1 := (cell_of_block HM13.out.at' 1).trans rfl
    have hl := HM13.out.lt
    go_wp2_with fail
    refine HMo.out.mono ?_
    rintro e w14 ⟨rfl, hb14⟩
    have HL14 := Lib.hid (HL13.out.below hb14)
    have HWb : Hid (Calls Try.prog 14 #[.pointer (some ⟨t, 0, none⟩), .int .i64 2] w14 fun e w' => e = .returned (.bool false) ∧ Below w14.heap.size w14 w') := Lib.hid (by
      have h := lt_waiting HL14.out.lt 2
      rw [HE2.out] at h
      exact h)
    have hcc : (c == c) = true := by simp
    clear hb14 c0 c1 hl HL13 HM13 HMo
    go_wp2_with fail
    refine HWb.out.mono ?_
    rintro e w15 ⟨rfl, hb15⟩
    have HL15 := Lib.hid (HL14.out.below hb15)
    clear hb15
    go_wp2_with fail
    go_ret
    exact ⟨rfl, HL15.out.low⟩
theorem greater_walk1 (a b c s : Int) (i : ByteArray) (w : World) (_ : True) (_ : True) : Calls Try.prog 4 #[.agg #[.int .i64 a, .int .i64 b, .int .i64 c], .agg #[.int .i64 s, .string i]] w fun e w' => e = .returned (.bool true) ∧ Below w.heap.size w w' := greater_walk a b c s i w
end Go.Proofs.Ytileamjmhhifaaa
