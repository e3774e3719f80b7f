/-
  Layer 9 (locks): All in terms of values; the walk of LocksFirst.
-/
import Derived.Test.YtileamjmhhifaaaLk21
import Derived.Test.YtileamjmhhifaaaLk23
namespace Go.Proofs.Ytileamjmhhifaaa
open Go.RowKit Go.Joins Go.Sort Go.Shelf
set_option linter.unusedVariables false
set_option linter.unusedSimpArgs false

theorem lt_all {w : World} {B t : Nat} {O : Nat → Prop} {S : LS} {N : Nat} (h : LT w B t O S N) (hN : N ≤ 1000) : Calls Try.prog 17 #[.pointer (some ⟨t, 0, none⟩)] w fun e w' => ∃ (v : Value) (Ns : List Nm) (A : List Ho), e = .returned v ∧ w'.ownsRow w.heap.size 47 5 v A.length (A.flatMap hoL) ∧ Ns.Pairwise ltN ∧ (∀ n, sizeQ (S.q n) ≠ 0 → n ∈ Ns) ∧ AllOf S.q Ns A ∧ Below w.heap.size w w' := by
  obtain ⟨nb, wb, M, E, Wt, h1, h2, h3, h4, h5, ho, h7, h8⟩ := h
  have hq : qOf M E = S.q := funext h2
  refine (all_any h1 (by omega) fun n => by rw [h2 n]; exact Nat.le_trans (h5 n) hN).mono ?_
  rintro e w' ⟨v, Ns, A, rfl, k1, k2, k3, k4, k5⟩
  rw [hq] at k4
  refine ⟨v, Ns, A, rfl, k1, k2, fun n hn => (k3 n).2 ?_, k4, k5⟩
  by_cases h : n ∈ keysM M
  · exact h
  · rw [← h2 n, qOf_out h] at hn
    exact absurd rfl hn
theorem AllOf.empty {q : Nm → Qu} (hq : ∀ n, q n = ⟨[], []⟩) {Ns : List Nm} {A : List Ho} (h : AllOf q Ns A) : A = [] := by
  induction h with
  | nil => rfl
  | @snoc Ns L R n h hp hs ih =>
    rw [hq n] at hp
    have : R = [] := by simpa [hoQ] using hp
    rw [ih, this, hq n]; rfl

/-- those that wait, one behind the other -/
def wl : Nat → Nat → List Ws
  | _, 0 => []
  | a, k + 1 => ⟨(a : Int) + 1, 6⟩ :: wl (a + 1) k
theorem wl_snoc : ∀ (k a : Nat), wl a (k + 1) = wl a k ++ [⟨((a + k : Nat) : Int) + 1, 6⟩]
  | 0, a => by simp [wl]
  | k + 1, a => by
    rw [wl, wl_snoc k (a + 1), wl]
    simp only [List.cons_append]
    congr 3
    have : a + 1 + k = a + (k + 1) := by omega
    rw [this]
theorem wl_len : ∀ (k a : Nat), (wl a k).length = k
  | 0, _ => rfl
  | k + 1, a => by rw [wl, List.length_cons, wl_len k]
theorem wl_gt : ∀ (k a : Nat), ∀ y ∈ wl a k, (a : Int) < y.x
  | 0, _, y, h => by cases h
  | k + 1, a, y, h => by
    rcases List.mem_cons.1 h with rfl | h
    · show (a : Int) < (a : Int) + 1; omega
    · have := wl_gt k (a + 1) y h
      omega
/-- one has the name, so many wait behind it -/
def fq (a k : Nat) : Qu := ⟨[⟨(a : Int), 6, 0, 0⟩], wl a k⟩
theorem fq_ask (k : Nat) (t : Int) : askQ (fq 0 k) ((k : Int) + 1) 6 t = (fq 0 (k + 1), false, t) := by
  have h0 : atL ((k : Int) + 1) (fq 0 k).H 0 = -1 := by
    simp only [fq, atL]
    rw [if_neg (by show ((0 : Nat) : Int) ≠ (k : Int) + 1; omega)]
  rw [askQ_new h0]
  have h1 : ((fq 0 k).W.isEmpty && !wantL (fq 0 k).H && freeL ((k : Int) + 1) 6 (fq 0 k).H) = false := by
    have : freeL ((k : Int) + 1) 6 (fq 0 k).H = false := by
      simp only [fq, freeL, List.all_cons, List.all_nil, Bool.and_true]
      have e1 : (((0 : Nat) : Int) == (k : Int) + 1) = false := by simp; omega
      rw [e1]; decide
    rw [this, Bool.and_false]
  rw [h1]
  simp only [fq, wl_snoc, Nat.zero_add]
  rfl
theorem fq_rem (a k : Nat) : remQ (a : Int) (fq a k) = ⟨[], wl a k⟩ := by
  unfold remQ fq
  simp only [List.filter_cons, List.filter_nil, beq_self_eq_true, Bool.not_true]
  congr 1
  rw [List.filter_eq_self]
  intro y hy
  have := wl_gt k a y hy
  simp; omega
theorem fq_rel (a k : Nat) : RelQ (a : Int) (fq a (k + 1)) [(a : Int) + 1] (fq (a + 1) k) := by
  refine .inl ⟨by simp [hasQ, fq], ?_⟩
  rw [fq_rem]
  refine ⟨[], [(a : Int) + 1], _, .stop (by simp [stepA, bestQ, bestTo]), .step (Q1 := fq (a + 1) k) ?_ (.stop ?_), rfl⟩
  · simp [stepB, wl, wantL, freeL, fq]
  · cases k with
    | zero => rfl
    | succ k =>
      have e1 : (((a + 1 : Nat) : Int) == ((a + 1 : Nat) : Int) + 1) = false := by simp; omega
      have e2 : compatL 6 6 = false := by decide
      simp only [stepB, fq, wl, freeL, List.all_cons, List.all_nil, e1, e2]
      simp
theorem fq_last (a : Nat) : RelQ (a : Int) (fq a 0) [] ⟨[], []⟩ := by
  refine .inl ⟨by simp [hasQ, fq], ?_⟩
  rw [fq_rem]
  exact ⟨[], [], _, .stop (by simp [stepA, bestQ, bestTo]), .stop rfl, rfl⟩
theorem fq_mode (a k : Nat) : modeL (a : Int) (fq a k).H = 6 := by
  rw [modeL_some (i := 0) (by simp [atL, fq]) (by simp [fq])]; rfl
theorem fq_none (a k : Nat) : modeL ((a : Int) + 1) (fq a k).H = 0 :=
  modeL_none (by simp only [fq, atL]; rw [if_neg (by omega)])

theorem wrap64_id {x : Int} (h1 : -9223372036854775808 ≤ x) (h2 : x ≤ 9223372036854775807) : wrap64 x = x := by unfold wrap64; omega
theorem first_n (k0 : Int) : ∃ m : Nat, m < 40 ∧ (wrap64 (k0.tmod 40 + 40)).tmod 40 = (m : Int) := by
  have a1 := Int.tmod_lt_of_pos k0 (show (0 : Int) < 40 by omega)
  have a2 := Int.lt_tmod_of_pos k0 (show (0 : Int) < 40 by omega)
  generalize k0.tmod 40 = u at *
  rw [wrap64_id (by omega) (by omega), Int.tmod_eq_emod_of_nonneg (by omega)]
  exact ⟨((u + 40) % 40).toNat, by omega, by omega⟩

set_option maxHeartbeats 3000000 in
set_option maxRecDepth 100000 in
theorem first_walk (k0 s : Int) (i : ByteArray) (w : World) :
    Calls Try.prog 8 #[.int .i64 k0, .agg #[.int .i64 s, .string i]] w fun e w' => e = .returned (.bool true) ∧ Below w.heap.size w w' := by
  have mixed : Try.prog.follows Departure.mixedOrders = true := by kernel_rfl
  obtain ⟨n, hn⟩ : ∃ n : Nm, n = ⟨s, i⟩ := ⟨_, rfl⟩
  have hs : s = n.s := by rw [hn]
  have hi : i = n.i := by rw [hn]
  subst hs
  subst hi
  clear hn
  have HB1 : Hid (Below w.heap.size w (w.alloc (.cells #[.int .i64 n.s, .string n.i] 24))) := Lib.hid ((Below.refl _ _).alloc (Nat.le_refl _) _)
  have HN1 := Lib.hid (heap_alloc_new w (.cells #[.int .i64 n.s, .string n.i] 24))
  go_enter Try.func8, Try.ntmps8
  go_wp2_with fail
  generalize w.alloc (.cells #[.int .i64 n.s, .string n.i] 24) = w1 at *
  refine (awake9 w1).mono ?_
  rintro e w3 ⟨rfl, hb3⟩
  have HB3 := Lib.hid (HB1.out.trans (hb3.mono HB1.out.size))
  have HN3 := Lib.hid ((hb3.block _ (Array.getElem?_eq_some_iff.1 HN1.out).1).trans HN1.out)
  clear hb3 HB1 HN1
  go_upto_region 4 with fail
  obtain ⟨m, hm, hme⟩ := first_n k0
  rw [hme]
  clear hme
  have HMl := Lib.hid hm
  have HNew := Lib.hid (la_new HB3.out)
  go_wp2_with fail
  refine HNew.out.mono ?_
  rintro e w4 ⟨t, O4, rfl, l4, hb4, hO4⟩
  obtain ⟨bx, hbxe⟩ : ∃ bx, w.heap.size = bx := ⟨_, rfl⟩
  have HL4 := Lib.hid l4
  have HM4 : Hid (Mine w4 O4 w.heap.size (.cells #[.int .i64 n.s, .string n.i] 24)) := Lib.hid ⟨(hb4.block _ (Array.getElem?_eq_some_iff.1 HN3.out).1).trans HN3.out, fun h => by
    have h1 := hO4 _ h
    have h2 := (Array.getElem?_eq_some_iff.1 HN3.out).1
    omega⟩
  rw [hbxe] at HM4
  rw [hbxe]
  have c0 := (cell_of_block HM4.out.at' 0).trans rfl
  have c1 := (cell_of_block HM4.out.at' 1).trans rfl
  have hl := HM4.out.lt
  have HK : Hid (Calls Try.prog 11 #[.pointer (some ⟨t, 0, none⟩), .int .i64 0, .agg #[.int .i64 n.s, .string n.i], .int .i64 6] w4 fun e w' => e = .returned (.tuple #[.bool true, .int .i64 0]) ∧ ∃ O', LA w w' t O' (askS LS.empty 0 n 6) 1 ∧ Kept O4 O' w4 w') := Lib.hid (la_ask HL4.out (by omega) 0 6 n (by omega) (by omega) rfl)
  clear l4 hb4 hO4 HNew HN3 HB3 hbxe hm
  go_wp2_with fail
  refine HK.out.mono ?_
  rintro e w5 ⟨rfl, O5, l5, k5⟩
  have hq1 : Only (askS LS.empty 0 n 6) n (fq 0 0) := (Only.empty n).ask 0 6
  have hw1 : ∀ k : Int, (askS LS.empty 0 n 6).wt k = true ↔ 1 ≤ k ∧ k ≤ ((0 : Nat) : Int) := fun k => by
    simp [askS, LS.empty, askQ_first]; omega
  generalize askS LS.empty 0 n 6 = S1 at *
  have HL5 := Lib.hid l5
  have HM5 := Lib.hid (HM4.out.kept k5)
  have HQ1 := Lib.hid hq1
  have HW1 := Lib.hid hw1
  clear l5 k5 hq1 hw1 c0 c1 hl HK HL4 HM4
  go_wp2_with fail
  go_loopw [8, 9, 10] (fun t8 t9 t10 wr => ∃ (k : Nat) (O : Nat → Prop) (S : LS), k ≤ m ∧ t8 = .int .i64 ((k : Int) + 1) ∧ LA w wr t O S (k + 1) ∧ Only S n (fq 0 k) ∧ Mine wr O bx (.cells #[.int .i64 n.s, .string n.i] 24) ∧ ∀ j : Int, S.wt j = true ↔ 1 ≤ j ∧ j ≤ (k : Int)) (fun t8 _ _ _ => m + 1 - (intOf t8).toNat)
  case atStart => exact ⟨0, O5, S1, by omega, rfl, HL5.out, HQ1.out, HM5.out, HW1.out⟩
  case round =>
    clear HL5 HQ1 HM5 HW1
    obtain ⟨k, O, S, hk, rfl, la, hq, hmn, hwt⟩ := hrel
    obtain ⟨wo, rfl⟩ : ∃ wo : World, wo = wr := ⟨_, rfl⟩
    have HL := Lib.hid la
    have HQ := Lib.hid hq
    have HM := Lib.hid hmn
    have HW := Lib.hid hwt
    clear la hq hmn hwt
    have hm40 := HMl.out
    have hz := HL.out.low.size
    by_cases hlt : k < m
    · have hle : ((k : Int) + 1 ≤ (m : Int)) := by omega
      have hwr : IntKind.i64.wrap ((k : Int) + 1 + 1) = (k : Int) + 1 + 1 := IntWalk.i64_in _ (by omega)
      have c0 := (cell_of_block HM.out.at' 0).trans rfl
      have c1 := (cell_of_block HM.out.at' 1).trans rfl
      have hl := HM.out.lt
      have HK : Hid (Calls Try.prog 11 #[.pointer (some ⟨t, 0, none⟩), .int .i64 ((k : Int) + 1), .agg #[.int .i64 n.s, .string n.i], .int .i64 6] wo fun e w' => e = .returned (.tuple #[.bool false, .int .i64 0]) ∧ ∃ O', LA w w' t O' (askS S ((k : Int) + 1) n 6) (k + 2) ∧ Kept O O' wo w') := Lib.hid (by
        have h := la_ask HL.out (by omega) ((k : Int) + 1) 6 n (by omega) (by omega) (by
          cases hb : S.wt ((k : Int) + 1) with
          | false => rfl
          | true => have := (HW.out _).1 hb; omega)
        rw [HQ.out.at', fq_ask] at h
        exact h)
      go_wp2_with fail
      refine HK.out.mono ?_
      rintro e w6 ⟨rfl, O6, l6, k6⟩
      have hq6 := HQ.out.ask ((k : Int) + 1) 6
      rw [fq_ask] at hq6
      have hw6 : ∀ j : Int, (askS S ((k : Int) + 1) n 6).wt j = true ↔ 1 ≤ j ∧ j ≤ ((k + 1 : Nat) : Int) := fun j => by
        simp only [askS, HQ.out.at', fq_ask, Bool.or_eq_true, Bool.and_eq_true, Bool.not_false, true_and, beq_iff_eq]
        rw [HW.out j]; omega
      generalize askS S ((k : Int) + 1) n 6 = S6 at *
      have HL6 := Lib.hid l6
      have HM6 := Lib.hid (HM.out.kept k6)
      have HQ6 := Lib.hid hq6
      have HW6 := Lib.hid hw6
      have HWa : Hid (Calls Try.prog 14 #[.pointer (some ⟨t, 0, none⟩), .int .i64 ((k : Int) + 1)] w6 fun e w' => e = .returned (.bool true) ∧ Below w6.heap.size w6 w') := Lib.hid (by
        have h := lt_waiting l6.lt ((k : Int) + 1)
        have e : S6.wt ((k : Int) + 1) = true := (hw6 _).2 (by omega)
        rw [e] at h
        exact h)
      clear l6 k6 hq6 hw6 c0 c1 hl HK
      go_wp2_with fail
      refine HWa.out.mono ?_
      rintro e w7 ⟨rfl, hb7⟩
      have HL7 := Lib.hid (HL6.out.below hb7)
      have HM7 := Lib.hid (HM6.out.below hb7)
      clear hb7 HL6 HM6
      go_wp2_with fail
      exact ⟨⟨k + 1, O6, S6, by omega, by go_num, HL7.out, HQ6.out, HM7.out, HW6.out⟩, by simp [intOf]; omega⟩
    · have hle : ¬ ((k : Int) + 1 ≤ (m : Int)) := by omega
      have hkm : k = m := by omega
      subst hkm
      go_wp2_with fail
      go_loopw [11] (fun t11 wr => ∃ (a : Nat) (O : Nat → Prop) (S : LS), a ≤ k + 1 ∧ t11 = .int .i64 (a : Int) ∧ LA w wr t O S (k + 1) ∧ Mine wr O bx (.cells #[.int .i64 n.s, .string n.i] 24) ∧ (a ≤ k → Only S n (fq a (k - a)) ∧ ∀ j : Int, S.wt j = true ↔ (a : Int) + 1 ≤ j ∧ j ≤ (k : Int)) ∧ (a = k + 1 → Only S n ⟨[], []⟩)) (fun t11 _ => k + 1 - (intOf t11).toNat)
      case atStart => exact ⟨0, O, S, by omega, rfl, HL.out, HM.out, fun _ => ⟨HQ.out, fun j => by rw [HW.out j]; omega⟩, fun h => by omega⟩
      case round =>
        clear HL HM HQ HW
        obtain ⟨a, O, S, ha, rfl, la, hmn, h1, h2⟩ := hrel
        obtain ⟨w6, rfl⟩ : ∃ w6 : World, w6 = wr := ⟨_, rfl⟩
        have HL := Lib.hid la
        have HM := Lib.hid hmn
        have hz6 := HL.out.low.size
        by_cases hak : a ≤ k
        · obtain ⟨hq, hw⟩ := h1 hak
          have HQ := Lib.hid hq
          have HW := Lib.hid hw
          have hle2 : ((a : Int) ≤ (k : Int)) := by omega
          have c0 := (cell_of_block HM.out.at' 0).trans rfl
          have c1 := (cell_of_block HM.out.at' 1).trans rfl
          have hl := HM.out.lt
          have HMo : Hid (Calls Try.prog 13 #[.pointer (some ⟨t, 0, none⟩), .int .i64 (a : Int), .agg #[.int .i64 n.s, .string n.i]] w6 fun e w' => e = .returned (.int .i64 6) ∧ Below w6.heap.size w6 w') := Lib.hid (by
            have h := la_mode HL.out (a : Int) n
            rw [HQ.out.at', fq_mode] at h
            exact h)
          have HMn : Hid (∀ W, LA w W t O S (k + 1) → Calls Try.prog 13 #[.pointer (some ⟨t, 0, none⟩), .int .i64 ((a : Int) + 1), .agg #[.int .i64 n.s, .string n.i]] W fun e w' => e = .returned (.int .i64 0) ∧ Below W.heap.size W w') := Lib.hid fun W hW => by
            have h := la_mode hW ((a : Int) + 1) n
            rw [HQ.out.at', fq_none] at h
            exact h
          have HWn : Hid (∀ W, LA w W t O S (k + 1) → Calls Try.prog 14 #[.pointer (some ⟨t, 0, none⟩), .int .i64 (a : Int)] W fun e w' => e = .returned (.bool false) ∧ Below W.heap.size W w') := Lib.hid fun W hW => by
            have h := lt_waiting hW.lt (a : Int)
            have e : S.wt (a : Int) = false := by
              cases hb : S.wt (a : Int) with
              | false => rfl
              | true => have := (HW.out _).1 hb; omega
            rw [e] at h
            exact h
          have hwr : IntKind.i64.wrap ((a : Int) + 1) = (a : Int) + 1 := IntWalk.i64_in _ (by omega)
          clear la hmn h1 h2 hq hw
          go_wp2_with fail
          refine HMo.out.mono ?_
          rintro e w7 ⟨rfl, hb7⟩
          have HL7 := Lib.hid (HL.out.below hb7)
          have HM7 := Lib.hid (HM.out.below hb7)
          clear hb7 HMo HL HM c0 c1 hl
          go_wp2_with fail
          refine (HWn.out _ HL7.out).mono ?_
          rintro e w8 ⟨rfl, hb8⟩
          have HL8 := Lib.hid (HL7.out.below hb8)
          have HM8 := Lib.hid (HM7.out.below hb8)
          clear hb8 HL7 HM7
          have c0 := (cell_of_block HM8.out.at' 0).trans rfl
          have c1 := (cell_of_block HM8.out.at' 1).trans rfl
          have hl := HM8.out.lt
          by_cases hlt2 : a < k
          · have hlt3 : ((a : Int) < (k : Int)) := by omega
            go_wp2_with fail
            refine (HMn.out _ HL8.out).mono ?_
            rintro e w9 ⟨rfl, hb9⟩
            have HL9 := Lib.hid (HL8.out.below hb9)
            have HM9 := Lib.hid (HM8.out.below hb9)
            have HRl := Lib.hid (la_release HL9.out (by omega) (a : Int))
            clear hb9 HL8 HM8 c0 c1 hl
            go_wp2_with fail
            refine HRl.out.mono ?_
            rintro e w10 ⟨rfl, S10, O10, hr, l10, k10⟩
            have hq9 := HQ.out
            rw [show k - a = (k - a - 1) + 1 from by omega] at hq9
            obtain ⟨g1, -, g3⟩ := hq9.rel hr (fq_rel a (k - a - 1))
            have HG1 : Hid (Only S10 n (fq (a + 1) (k - (a + 1)))) := Lib.hid (by rw [show k - (a + 1) = k - a - 1 from by omega]; exact g1)
            have HG3 : Hid (∀ j : Int, S10.wt j = true ↔ ((a + 1 : Nat) : Int) + 1 ≤ j ∧ j ≤ (k : Int)) := Lib.hid fun j => by
              rw [g3 j, HW.out j, List.mem_singleton]; omega
            have HL10 := Lib.hid l10
            have HM10 := Lib.hid (HM9.out.kept k10)
            clear hr l10 k10 hq9 g1 g3 HL9 HM9 HRl
            go_wp2_with fail
            exact ⟨⟨a + 1, O10, S10, by omega, by go_num, HL10.out, HM10.out, fun _ => ⟨HG1.out, HG3.out⟩, fun h => by omega⟩, by simp [intOf]; omega⟩
          · have hlt3 : ¬ ((a : Int) < (k : Int)) := by omega
            have HRl := Lib.hid (la_release HL8.out (by omega) (a : Int))
            go_wp2_with fail
            refine HRl.out.mono ?_
            rintro e w10 ⟨rfl, S10, O10, hr, l10, k10⟩
            have hq9 := HQ.out
            rw [show k - a = 0 from by omega] at hq9
            obtain ⟨g1, -, g3⟩ := hq9.rel hr (fq_last a)
            have HG1 := Lib.hid g1
            have HL10 := Lib.hid l10
            have HM10 := Lib.hid (HM8.out.kept k10)
            clear hr l10 k10 hq9 g1 g3 HL8 HM8 HRl c0 c1 hl
            go_wp2_with fail
            exact ⟨⟨a + 1, O10, S10, by omega, by go_num, HL10.out, HM10.out, fun h => by omega, fun _ => HG1.out⟩, by simp [intOf]; omega⟩
        · have hle2 : ¬ ((a : Int) ≤ (k : Int)) := by omega
          have hq := h2 (by omega)
          have HAl := Lib.hid (lt_all la.lt (by omega))
          have HQ := Lib.hid hq
          clear la hmn h1 h2 hq
          go_wp2_with fail
          refine HAl.out.mono ?_
          rintro e w9 ⟨v, Ns, A, rfl, ho, -, -, hall, hb9⟩
          have hA : A = [] := hall.empty fun j => by rw [HQ.out j]; split <;> rfl
          subst hA
          obtain ⟨a9, c9, rfl, -, -, -⟩ := own_cap ho
          have HL9 := Lib.hid (HL.out.below hb9)
          clear ho hall hb9 HAl
          go_wp2_with fail
          go_ret
          exact ⟨rfl, HL9.out.low⟩
theorem first_walk1 (k0 s : Int) (i : ByteArray) (w : World) (_ : True) : Calls Try.prog 8 #[.int .i64 k0, .agg #[.int .i64 s, .string i]] w fun e w' => e = .returned (.bool true) ∧ Below w.heap.size w w' := first_walk k0 s i w
end Go.Proofs.Ytileamjmhhifaaa
