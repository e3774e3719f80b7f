/-
  Layer 9 (locks): the walk of LocksAlone.
-/
import Derived.Test.YtileamjmhhifaaaLk25
namespace Go.Proofs.Ytileamjmhhifaaa
open Go.RowKit Go.Joins Go.Sort Go.Shelf
set_option linter.unusedVariables false
set_option linter.unusedSimpArgs false

def AloneQ (Q : Qu) : Prop := Q = ⟨[], []⟩ ∨ ∃ j, 1 ≤ j ∧ j ≤ 6 ∧ Q = ⟨[⟨7, j, 0, 0⟩], []⟩
def Alone (S : LS) : Prop := (∀ n, AloneQ (S.q n)) ∧ ∀ k, S.wt k = false
theorem Alone.empty : Alone LS.empty := ⟨fun n => .inl rfl, fun k => rfl⟩
theorem join_in {a m : Int} (h0 : 0 ≤ a) (h1 : a ≤ 6) (h2 : 1 ≤ m) (h3 : m ≤ 6) : 1 ≤ joinL a m ∧ joinL a m ≤ 6 := by
  obtain rfl | rfl | rfl | rfl | rfl | rfl | rfl : a = 0 ∨ a = 1 ∨ a = 2 ∨ a = 3 ∨ a = 4 ∨ a = 5 ∨ a = 6 := by omega
  all_goals
    obtain rfl | rfl | rfl | rfl | rfl | rfl : m = 1 ∨ m = 2 ∨ m = 3 ∨ m = 4 ∨ m = 5 ∨ m = 6 := by omega
    all_goals decide
theorem join_zero {m : Int} (h2 : 1 ≤ m) (h3 : m ≤ 6) : joinL 0 m = m := by
  obtain rfl | rfl | rfl | rfl | rfl | rfl : m = 1 ∨ m = 2 ∨ m = 3 ∨ m = 4 ∨ m = 5 ∨ m = 6 := by omega
  all_goals decide
theorem ask_alone {Q : Qu} (h : AloneQ Q) {m t : Int} (h2 : 1 ≤ m) (h3 : m ≤ 6) : askQ Q 7 m t = (⟨[⟨7, joinL (modeL 7 Q.H) m, 0, 0⟩], []⟩, true, t) ∧ 1 ≤ joinL (modeL 7 Q.H) m ∧ joinL (modeL 7 Q.H) m ≤ 6 := by
  rcases h with rfl | ⟨j, h4, h5, rfl⟩
  · have e : modeL 7 ([] : List Hd) = 0 := rfl
    show askQ ⟨[], []⟩ 7 m t = (⟨[⟨7, joinL (modeL 7 []) m, 0, 0⟩], []⟩, true, t) ∧ _
    rw [e, join_zero h2 h3]
    exact ⟨askQ_first 7 m t, h2, h3⟩
  · have e : modeL 7 [(⟨7, j, 0, 0⟩ : Hd)] = j := modeL_some (i := 0) (by simp [atL]) (by simp)
    show askQ ⟨[⟨7, j, 0, 0⟩], []⟩ 7 m t = (⟨[⟨7, joinL (modeL 7 [⟨7, j, 0, 0⟩]) m, 0, 0⟩], []⟩, true, t) ∧ 1 ≤ joinL (modeL 7 [⟨7, j, 0, 0⟩]) m ∧ joinL (modeL 7 [⟨7, j, 0, 0⟩]) m ≤ 6
    rw [e]
    refine ⟨?_, join_in (by omega) h5 h2 h3⟩
    have h := askQ_at (Q := ⟨[⟨7, j, 0, 0⟩], []⟩) (x := 7) (m := m) (t := t) (k := 0) (by simp [atL]) (by simp)
    rw [h]
    simp only [List.getElem_cons_zero]
    by_cases e : joinL j m = j
    · rw [if_pos e, e]
    · rw [if_neg e, if_pos (by simp [freeL])]; rfl
theorem Alone.ask {S : LS} (h : Alone S) (n : Nm) {m : Int} (h2 : 1 ≤ m) (h3 : m ≤ 6) : Alone (askS S 7 n m) ∧ modeL 7 ((askS S 7 n m).q n).H = joinL (modeL 7 (S.q n).H) m := by
  obtain ⟨e, e1, e2⟩ := ask_alone (t := S.turn) (h.1 n) h2 h3
  refine ⟨⟨fun k => ?_, fun k => ?_⟩, ?_⟩
  · by_cases hk : k = n
    · simp only [askS, if_pos hk, e]
      exact .inr ⟨_, e1, e2, rfl⟩
    · simp only [askS, if_neg hk]
      exact h.1 k
  · simp only [askS, e, h.2 k]; rfl
  · simp only [askS, if_true, e]
    exact modeL_some (i := 0) (by simp [atL]) (by simp)
theorem Alone.rel {S S' : LS} (h : Alone S) (hr : RelS 7 S S') : ∀ n, S'.q n = ⟨[], []⟩ := fun n => by
  obtain ⟨-, ys, h1, -⟩ := hr
  obtain ⟨xs, hx, -⟩ := h1 n
  rcases h.1 n with e | ⟨j, -, -, e⟩
  · rw [e] at hx; exact hx.nil.2
  · rw [e] at hx
    have hg : RelQ 7 ⟨[⟨7, j, 0, 0⟩], []⟩ [] ⟨[], []⟩ := .inl ⟨by simp [hasQ], [], [], _, .stop (by simp [stepA, bestQ, bestTo, remQ]), .stop (by simp [stepB, remQ]), rfl⟩
    exact (hx.det hg).2

set_option maxHeartbeats 3000000 in
set_option maxRecDepth 100000 in
theorem alone_walk (a : Option Addr) (l cp : Nat) (I : List Ca) (w : World) (hI : CasIn w a l I) :
    Calls Try.prog 7 #[.slice a l cp] w fun e w' => e = .returned (.bool true) ∧ Below w.heap.size w w' := by
  have mixed : Try.prog.follows Departure.mixedOrders = true := by kernel_rfl
  have HI := Lib.hid hI
  have hl9 := hI.1
  clear hI
  go_enter Try.func7, Try.ntmps7
  go_wp2_with fail
  refine (awake9 w).mono ?_
  rintro e w3 ⟨rfl, hb3⟩
  have HNew := Lib.hid (la_new hb3)
  clear hb3
  go_wp2_with fail
  refine HNew.out.mono ?_
  rintro e w4 ⟨t, O4, rfl, l4, -, -⟩
  have HL4 := Lib.hid l4
  clear l4 HNew
  go_upto_block 0 with fail
  go_cut [] (fun wc => ∃ O S, LA w wc t O S 200 ∧ Alone S)
  case first =>
    go_wp2_with fail
    go_loopw [14] (fun ti wr => ∃ (k : Nat) (O : Nat → Prop) (S : LS), k ≤ l ∧ k ≤ 200 ∧ ti = .int .i64 k ∧ LA w wr t O S k ∧ Alone S) (fun ti _ => l - (intOf ti).toNat)
    case atStart => exact ⟨0, O4, LS.empty, by omega, by omega, rfl, HL4.out, Alone.empty⟩
    case round =>
      clear HL4
      obtain ⟨k, O, S, hk, hk2, rfl, la, hal⟩ := hrel
      obtain ⟨wo, rfl⟩ : ∃ wo : World, wo = wr := ⟨_, rfl⟩
      have HL := Lib.hid la
      have HAl := Lib.hid hal
      clear la hal
      by_cases hlt : k < l
      · have hki : decide ((k : Int) < (l : Int)) = true := by simp; omega
        have hkI : k < I.length := by rw [HI.out.2.1]; exact hlt
        obtain ⟨b, off, rfl, hbl, d0, d1, d2, d3⟩ := (HI.out.below HL.out.low).cells k hkI
        generalize I[k] = c at *
        have hz := HL.out.low.size
        by_cases h200 : k = 200
        · have h2b : ((k : Int) == 200) = true := by simp; omega
          have HL2 := Lib.hid (HL.out.alloc (.cells #[.int .i64 c.x, .int .i64 c.n.s, .string c.n.i, .int .i64 c.m] 30))
          subst h200
          go_wp2_with fail
          go_meet
          exact ⟨O, S, HL2.out, HAl.out⟩
        · have h2b : ((k : Int) == 200) = false := by simp; omega
          have HK200 := Lib.hid (show k < 200 by omega)
          have HM5 := Lib.hid (HL.out.mine (.cells #[.int .i64 c.x, .int .i64 c.n.s, .string c.n.i, .int .i64 c.m] 30))
          have HL5 := Lib.hid (HL.out.alloc (.cells #[.int .i64 c.x, .int .i64 c.n.s, .string c.n.i, .int .i64 c.m] 30))
          go_upto_region 8 with fail
          clear d0 d1 d2 d3 hbl HL hz h200 h2b hk2
          generalize wo.heap.size = bx at *
          generalize wo.alloc (.cells #[.int .i64 c.x, .int .i64 c.n.s, .string c.n.i, .int .i64 c.m] 30) = w5 at *
          have c1 : w5.cell? ⟨bx, 1, none⟩ = some (.int .i64 c.n.s) := (cell_of_block HM5.out.at' 1).trans rfl
          have c2 : w5.cell? ⟨bx, 2, none⟩ = some (.string c.n.i) := (cell_of_block HM5.out.at' 2).trans rfl
          have hl := HM5.out.lt
          obtain ⟨m0, hm0⟩ : ∃ m0, modeL 7 (S.q c.n).H = m0 := ⟨_, rfl⟩
          have HMo : Hid (Calls Try.prog 13 #[.pointer (some ⟨t, 0, none⟩), .int .i64 7, .agg #[.int .i64 c.n.s, .string c.n.i]] w5 fun e w' => e = .returned (.int .i64 m0) ∧ Below w5.heap.size w5 w') := Lib.hid (by
            have h := la_mode HL5.out 7 c.n
            rw [hm0] at h
            exact h)
          have HM0 := Lib.hid hm0
          clear hm0
          go_wp2_with fail
          refine HMo.out.mono ?_
          rintro e w6 ⟨rfl, hb6⟩
          have HL6 := Lib.hid (HL5.out.below hb6)
          have HM6 := Lib.hid (HM5.out.below hb6)
          clear hb6 c1 c2 hl HMo HL5 HM5
          have c1 : w6.cell? ⟨bx, 1, none⟩ = some (.int .i64 c.n.s) := (cell_of_block HM6.out.at' 1).trans rfl
          have c2 : w6.cell? ⟨bx, 2, none⟩ = some (.string c.n.i) := (cell_of_block HM6.out.at' 2).trans rfl
          have c3 : w6.cell? ⟨bx, 3, none⟩ = some (.int .i64 c.m) := (cell_of_block HM6.out.at' 3).trans rfl
          have hl := HM6.out.lt
          by_cases hm : 1 ≤ c.m ∧ c.m ≤ 6
          · obtain ⟨hm1, hm2⟩ := hm
            have n1 : ¬ c.m < 1 := by omega
            have n2 : ¬ 6 < c.m := by omega
            have HMm := Lib.hid (show 1 ≤ c.m ∧ c.m ≤ 6 from ⟨hm1, hm2⟩)
            obtain ⟨hal7, hmo7⟩ := HAl.out.ask c.n hm1 hm2
            have HK : Hid (Calls Try.prog 11 #[.pointer (some ⟨t, 0, none⟩), .int .i64 7, .agg #[.int .i64 c.n.s, .string c.n.i], .int .i64 c.m] w6 fun e w' => e = .returned (.tuple #[.bool true, .int .i64 0]) ∧ ∃ O', LA w w' t O' (askS S 7 c.n c.m) (k + 1) ∧ Kept O O' w6 w') := Lib.hid (by
              have h := la_ask HL6.out (by have := HK200.out; omega) 7 c.m c.n (by omega) hm2 (HAl.out.2 7)
              rw [(ask_alone (HAl.out.1 c.n) hm1 hm2).1] at h
              exact h)
            have HAl7 := Lib.hid hal7
            have HMo7 := Lib.hid hmo7
            clear hm1 hm2 hal7 hmo7
            go_wp2_with fail
            refine HK.out.mono ?_
            rintro e w7 ⟨rfl, O7, l7, k7⟩
            have HL7 := Lib.hid l7
            have HM7 := Lib.hid (HM6.out.kept k7)
            clear l7 k7 c1 c2 c3 hl HK HL6 HM6
            obtain ⟨S7, hS7⟩ : ∃ S7, askS S 7 c.n c.m = S7 := ⟨_, rfl⟩
            rw [hS7] at HL7 HAl7 HMo7
            clear hS7
            have c3' : w7.cell? ⟨bx, 3, none⟩ = some (.int .i64 c.m) := (cell_of_block HM7.out.at' 3).trans rfl
            have hl7 := HM7.out.lt
            go_upto_region 13 with fail
            have c1 := fun n os => cell_grown (w := w7) (a := ⟨bx, 1, none⟩) hl7 ((cell_of_block HM7.out.at' 1).trans rfl) n os
            have c2 := fun n os => cell_grown (w := w7) (a := ⟨bx, 2, none⟩) hl7 ((cell_of_block HM7.out.at' 2).trans rfl) n os
            have c3 := fun n os => cell_grown (w := w7) (a := ⟨bx, 3, none⟩) hl7 c3' n os
            have HCm : Hid (∀ k os, Calls Try.prog 13 #[.pointer (some ⟨t, 0, none⟩), .int .i64 7, .agg #[.int .i64 c.n.s, .string c.n.i]] (grow (w7.drewN k) os) fun e w'' => e = .returned (.int .i64 (joinL m0 c.m)) ∧ ∃ p : GrownBy, w'' = grow (w7.drewN p.n) p.os) := Lib.hid fun k os =>
              Calls.grown_of ((lt_modeG (HL7.out.below (Gr.below ⟨k, os, rfl⟩)).lt 7 c.n).mono fun e w' h => ⟨by rw [h.1, HMo7.out, HM0.out], h.2⟩)
            have HCj : Hid (∀ k os, Calls Try.prog 15 #[.int .i64 m0, .int .i64 c.m] (grow (w7.drewN k) os) fun e w'' => e = .returned (.int .i64 (joinL m0 c.m)) ∧ ∃ p : GrownBy, w'' = grow (w7.drewN p.n) p.os) := Lib.hid fun k os =>
              Calls.grown_of ((join_any m0 c.m _).mono fun e w' h => ⟨h.1, by rw [h.2]; exact Gr.refl _⟩)
            have HCw : Hid (∀ k os, Calls Try.prog 14 #[.pointer (some ⟨t, 0, none⟩), .int .i64 7] (grow (w7.drewN k) os) fun e w'' => e = .returned (.bool false) ∧ ∃ p : GrownBy, w'' = grow (w7.drewN p.n) p.os) := Lib.hid fun k os =>
              Calls.grown_of ((lt_waitingG (HL7.out.below (Gr.below ⟨k, os, rfl⟩)).lt 7).mono fun e w' h => ⟨by rw [h.1, HAl7.out.2 7], h.2⟩)
            clear c3'
            generalize joinL m0 c.m = jm at *
            have hjj : (jm != jm) = false := by simp
            refine wp_region_quiet_grown (by assumption) (by kernel_rfl) ?_
            iterate 10 (with_reducible refine wpQuiet_step (fun K hK => ?_); go_simp; with_reducible refine hK _ ?_; clear hK K)
            with_reducible refine wpQuiet_step (fun K hK => ?_)
            go_simp
            apply Exists.intro
            refine ⟨fun _ => ?_, hK _ ?_⟩
            exact HCm.out _ _
            clear hK K
            iterate 3 (with_reducible refine wpQuiet_step (fun K hK => ?_); go_simp; with_reducible refine hK _ ?_; clear hK K)
            with_reducible refine wpQuiet_step (fun K hK => ?_)
            go_simp
            apply Exists.intro
            refine ⟨fun _ => ?_, hK _ ?_⟩
            exact HCj.out _ _
            clear hK K
            iterate 4 (with_reducible refine wpQuiet_step (fun K hK => ?_); go_simp; with_reducible refine hK _ ?_; clear hK K)
            with_reducible refine wpQuiet_step (fun K hK => ?_)
            go_simp
            apply Exists.intro
            refine ⟨fun _ => ?_, hK _ ?_⟩
            exact HCw.out _ _
            clear hK K
            iterate 1 (with_reducible refine wpQuiet_step (fun K hK => ?_); go_simp; with_reducible refine hK _ ?_; clear hK K)
            with_reducible refine wpQuiet_nil ?_
            with_reducible intro _ hw'
            obtain ⟨⟨nq, osq⟩, hw''⟩ := hw'
            subst hw''
            have HL8 := Lib.hid (HL7.out.below (Gr.below ⟨nq, osq, rfl⟩))
            clear c1 c2 c3 HCm HCj HCw HL7 HM7 hl7
            go_wp2_with fail
            exact ⟨⟨k + 1, O7, S7, by omega, by have := HK200.out; omega, by go_num, HL8.out, HAl7.out⟩, by simp [intOf]; omega⟩
          · have HB : Hid (Calls Try.prog 11 #[.pointer (some ⟨t, 0, none⟩), .int .i64 7, .agg #[.int .i64 c.n.s, .string c.n.i], .int .i64 c.m] w6 fun e w' => e = .returned (.tuple #[.bool false, .int .i64 1]) ∧ Below w6.heap.size w6 w') := Lib.hid (ask_bad t 7 c.m c.n w6 (by omega))
            have hcase : c.m < 1 ∨ ¬ c.m < 1 ∧ 6 < c.m := by omega
            go_wp2_with fail
            refine HB.out.mono ?_
            rintro e w7 ⟨rfl, hb7⟩
            have HL7 := Lib.hid (HL6.out.below hb7)
            have HM7 := Lib.hid (HM6.out.below hb7)
            clear hb7 c1 c2 c3 hl HB HL6 HM6 hm
            have c3 : w7.cell? ⟨bx, 3, none⟩ = some (.int .i64 c.m) := (cell_of_block HM7.out.at' 3).trans rfl
            have hl := HM7.out.lt
            have HL8 := Lib.hid (HL7.out)
            rcases hcase with h1 | ⟨h1, h2⟩
            · go_wp2_with fail
              exact ⟨⟨k + 1, O, S, by omega, by have := HK200.out; omega, by go_num, ⟨HL8.out.lt.mono (by omega), HL8.out.low⟩, HAl.out⟩, by simp [intOf]; omega⟩
            · go_wp2_with fail
              exact ⟨⟨k + 1, O, S, by omega, by have := HK200.out; omega, by go_num, ⟨HL8.out.lt.mono (by omega), HL8.out.low⟩, HAl.out⟩, by simp [intOf]; omega⟩
      · have hki : decide ((k : Int) < (l : Int)) = false := by simp; omega
        have hkl : k = l := by omega
        go_wp2_with fail
        go_meet
        exact ⟨O, S, ⟨HL.out.lt.mono hk2, HL.out.low⟩, HAl.out⟩
  case rest =>
    obtain ⟨O, S, la, hal⟩ := hcut
    obtain ⟨w9, rfl⟩ : ∃ w9 : World, w9 = wc := ⟨_, rfl⟩
    have HRl := Lib.hid (la_release la (by omega) 7)
    have HAl := Lib.hid hal
    clear la hal HL4
    go_wp2_with fail
    refine HRl.out.mono ?_
    rintro e w10 ⟨rfl, S10, O10, hr, l10, -⟩
    have HE := Lib.hid (HAl.out.rel hr)
    have HAll := Lib.hid (lt_all l10.lt (by omega))
    have HL10 := Lib.hid l10
    clear hr l10 HRl
    go_wp2_with fail
    refine HAll.out.mono ?_
    rintro e w11 ⟨v, Ns, A, rfl, ho, -, -, hall, hb11⟩
    have hA : A = [] := hall.empty HE.out
    subst hA
    obtain ⟨a9, c9, rfl, -, -, -⟩ := own_cap ho
    have HL11 := Lib.hid (HL10.out.below hb11)
    have HArc := Lib.hid (lt_arcs (HL10.out.below hb11).lt (by omega))
    clear ho hall hb11 HAll HL10
    go_wp2_with fail
    refine HArc.out.mono ?_
    rintro e w12 ⟨v12, A, rfl, ho, -, hmem, hb12⟩
    have hA : A = [] := by
      cases A with
      | nil => rfl
      | cons p r =>
        obtain ⟨n, hn⟩ := (hmem p).1 (List.mem_cons_self ..)
        rw [HE.out n] at hn
        cases hn
    subst hA
    obtain ⟨a10, c10, rfl, -, -, -⟩ := own_cap ho
    have HL12 := Lib.hid (HL11.out.below hb12)
    clear ho hmem hb12 HArc HL11
    go_wp2_with fail
    go_ret
    exact ⟨rfl, HL12.out.low⟩
end Go.Proofs.Ytileamjmhhifaaa
