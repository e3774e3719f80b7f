/-
  Layer 13 (stage): the walk of StageOver.
-/
import Derived.Test.YthehglhbgplfhaaOver1
namespace Go.Proofs.Ythehglhbgplfhaa
open Go.RowKit Go.Joins
set_option linter.unusedVariables false
set_option linter.unusedSimpArgs false

theorem Over.other {w w' : World} {b mb hb pb b2 mb2 nb : Nat} {S : Vol} {M : List (Int × Pg)} (h : Over w b mb hb pb S b2 mb2 M) (hg : w.grownBy w' (some nb)) (hn : nb ≠ b ∧ nb ≠ mb ∧ nb ≠ hb ∧ nb ≠ pb ∧ nb ≠ b2 ∧ nb ≠ mb2) : Over w' b mb hb pb S b2 mb2 M := by
  have hl := h.lt
  obtain ⟨h1, h2, ⟨es, c, h3, h4⟩, h5⟩ := h
  obtain ⟨q1, q2, q3, q4⟩ := h1.lt
  obtain ⟨n1, n2, n3, n4, n5, n6⟩ := hn
  obtain ⟨t1, ⟨es', c', t2, t3⟩, ⟨t4, t5, t6⟩, t7⟩ := h1
  refine ⟨⟨?_, ⟨es', c', ?_, t3⟩, ⟨?_, ?_, t6⟩, t7⟩, ?_, ⟨es, c, ?_, h4⟩, h5⟩
  · exact (hg.block b q1 (by simpa using Ne.symm n1)).trans t1
  · exact (hg.block mb q2 (by simpa using Ne.symm n2)).trans t2
  · exact (hg.block hb q3 (by simpa using Ne.symm n3)).trans t4
  · exact (hg.block pb q4 (by simpa using Ne.symm n4)).trans t5
  · exact (hg.block b2 hl.1 (by simpa using Ne.symm n5)).trans h2
  · exact (hg.block mb2 hl.2 (by simpa using Ne.symm n6)).trans h3
theorem upPg_upd (S : Vol) (id : Int) (p : Pg) (M : List (Int × Pg)) : upPg S (updM id p M) id = p := by
  have h : getM ⟨[], updM id p M⟩ id = some p := by
    have := getM_put ⟨[], M⟩ id id p
    rw [if_pos rfl] at this
    exact this
  unfold upPg; rw [h]
theorem upE_upd (S : Vol) (id : Int) (p : Pg) (M : List (Int × Pg)) : upE S (updM id p M) id = 0 := by
  have h : getM ⟨[], updM id p M⟩ id = some p := by
    have := getM_put ⟨[], M⟩ id id p
    rw [if_pos rfl] at this
    exact this
  unfold upE; rw [h]
theorem stE_in {S : Vol} (hS : S.base.length = 6) (i : Nat) (hi : i < 6) : stE S (i : Int) = 0 := by
  unfold stE
  split
  · rfl
  · exact if_pos ⟨by omega, by omega⟩

/-- what holds from the upper stage's making on -/
def Two (w wr : World) (b mb hb pb : Nat) (S : Vol) (b2 mb2 : Nat) (M : List (Int × Pg)) (nb : Nat) (l : List Pg) : Prop :=
  Over wr b mb hb pb S b2 mb2 M ∧ SixAt wr nb l ∧ Below w.heap.size w wr
def Apart (w : World) (b mb hb pb b2 mb2 nb : Nat) : Prop := w.heap.size ≤ mb2 ∧ w.heap.size ≤ nb ∧ nb ≠ b ∧ nb ≠ mb ∧ nb ≠ hb ∧ nb ≠ pb ∧ nb ≠ b2 ∧ nb ≠ mb2
theorem Two.below {w wr w' : World} {b mb hb pb b2 mb2 nb : Nat} {S : Vol} {M : List (Int × Pg)} {l : List Pg} (h : Two w wr b mb hb pb S b2 mb2 M nb l) (hbl : Below wr.heap.size wr w') : Two w w' b mb hb pb S b2 mb2 M nb l :=
  ⟨h.1.below hbl, h.2.1.below hbl, h.2.2.trans (hbl.mono h.2.2.size)⟩
theorem Two.alloc {w wr : World} {b mb hb pb b2 mb2 nb : Nat} {S : Vol} {M : List (Int × Pg)} {l : List Pg} (h : Two w wr b mb hb pb S b2 mb2 M nb l) (o : Obj) : Two w (wr.alloc o) b mb hb pb S b2 mb2 M nb l := h.below ((Below.refl _ _).alloc (Nat.le_refl _) o)
theorem Two.drew {w wr : World} {b mb hb pb b2 mb2 nb : Nat} {S : Vol} {M : List (Int × Pg)} {l : List Pg} (h : Two w wr b mb hb pb S b2 mb2 M nb l) : Two w wr.drew b mb hb pb S b2 mb2 M nb l := h.below (Below.refl _ _).drew
theorem Two.grown {w wr w' : World} {b mb hb pb b2 mb2 nb : Nat} {S : Vol} {M M' : List (Int × Pg)} {l : List Pg} (h : Two w wr b mb hb pb S b2 mb2 M nb l) (hn : Apart w b mb hb pb b2 mb2 nb) (hg : wr.grownBy w' (some mb2)) (ho : Over w' b mb hb pb S b2 mb2 M') : Two w w' b mb hb pb S b2 mb2 M' nb l :=
  ⟨ho, h.2.1.grown hg hn.2.2.2.2.2.2.2, h.2.2.grown hg h.2.2.size (fun q hq => by cases hq; exact hn.1)⟩
theorem Two.set {w wr : World} {b mb hb pb b2 mb2 nb : Nat} {S : Vol} {M : List (Int × Pg)} {l : List Pg} (h : Two w wr b mb hb pb S b2 mb2 M nb l) (hn : Apart w b mb hb pb b2 mb2 nb) (i : Nat) (p : Pg) : Two w (wr.setRow nb (sixCs (l.set i p))) b mb hb pb S b2 mb2 M nb (l.set i p) :=
  have hg := grown_setRow (grown_of_below (Below.refl _ wr) (some nb)) (sixCs (l.set i p))
  ⟨h.1.other hg hn.2.2, h.2.1.set i p, h.2.2.grown hg h.2.2.size (fun q hq => by cases hq; exact hn.2.1)⟩

set_option maxHeartbeats 4000000 in
set_option maxRecDepth 100000 in
theorem over_walk (vu : Option Addr) (lu cu : Nat) (U : List (Int × Pg)) (vo : Option Addr) (lo co : Nat) (O : List (Int × Pg)) (w : World) (hU : ImgsIn w vu lu U) (hO : ImgsIn w vo lo O) :
    Calls Try.prog 4 #[.slice vu lu cu, .slice vo lo co] w fun e w' => e = .returned (.bool true) ∧ Below w.heap.size w w' := by
  have HA := Lib.hid (fun (w' : World) => awake13 w')
  have HM := Lib.hid (fun (w' : World) => memory_ok 6 (by omega) (by omega) w')
  have HN := Lib.hid (fun hb pb l w' hB h h1 h2 => new_lay hb pb l w w' hB h h1 h2)
  have HSet := Lib.hid (fun (w' : World) b hb S (L : Lay (· < w.heap.size) w w' b hb S) id p => set_lay L id p)
  have HN2 := Lib.hid (fun (w' : World) b mb hb pb S (h : StageAt w' b mb hb pb S) => over_new h)
  have HU := Lib.hid hU
  have HO := Lib.hid hO
  have lu1 := hU.1
  have lo1 := hO.1
  have UL := hU.2.1
  have OL := hO.2.1
  clear hU hO
  go_enter Try.func4, Try.ntmps4
  go_wp2_with fail
  refine (HA.out _).mono ?_; rintro e w0 ⟨rfl, hb0⟩
  have K0 := Lib.hid hb0
  have hz0 := hb0.size
  clear hb0
  go_wp2_with fail
  refine (HM.out _).mono ?_; rintro e w1 ⟨hb, pb, rfl, hb1, q1, q2, hs1⟩
  have K1 : Hid (Below w.heap.size w w1) := Lib.hid (K0.out.trans (hb1.mono hz0))
  have K2 := Lib.hid hs1
  have qh : w.heap.size ≤ hb := by omega
  have qp : w.heap.size ≤ pb := by omega
  clear hb1 hs1
  go_wp2_with fail
  refine (HN.out hb pb _ _ K1.out K2.out qh qp).mono ?_; rintro e w2 ⟨b, rfl, L2⟩
  have K3 := Lib.hid L2
  clear L2
  go_wp2_with fail
  go_loopw [37] (fun i wr => ∃ k : Nat, k ≤ lu ∧ i = .int .i64 k ∧ ∃ S, Lay (· < w.heap.size) w wr b hb S ∧ S.base.length = 6) (fun i _ => lu - (intOf i).toNat)
  case atStart => exact ⟨0, by omega, rfl, _, K3.out, by simp⟩
  case round =>
    obtain ⟨k, hk, rfl, S, L, hS⟩ := hrel
    have hbl := L.low
    clear K3
    by_cases hlt : k < lu
    · have hUk := HU.out.below hbl
      obtain ⟨rb, ro, hvp, hrb, hrow⟩ := hUk.2.2.resolve_left (by omega)
      subst hvp
      have hld := load_in (hrow k (by omega))
      generalize U[k] = x at *
      obtain ⟨id, p⟩ := x
      simp only at hld
      have hlp := load_imgPage (rowAt_at wr (imgCs id p) 48 _ rfl)
      have KL := Lib.hid L
      have HC := Lib.hid (HSet.out _ b hb S (KL.out.alloc (.cells (imgCs id p) 48)) id p)
      clear L hrow hUk hbl
      go_wp2_with fail
      refine HC.out.mono ?_; rintro e w3 ⟨rfl, L3⟩
      have K4 := Lib.hid L3
      clear L3
      go_wp2_with fail
      go_roundw
      case rel => exact ⟨k + 1, by omega, by go_num, _, K4.out, by split <;> simpa [Vol.put] using hS⟩
      case measure => simp [intOf]; omega
    · have hke : k = lu := by omega
      subst hke
      obtain ⟨mb, pb', hst, h4⟩ := L.at'
      obtain ⟨l1, l2, l3, l4⟩ := hst.lt
      have HC := Lib.hid (HN2.out _ _ _ _ _ _ hst)
      have KB := Lib.hid hbl
      have hzb := hbl.size
      clear L hst h4 hbl
      obtain ⟨wq, rfl⟩ : ∃ wq : World, wq = wr := ⟨_, rfl⟩
      go_wp2_with fail
      refine HC.out.mono ?_; rintro e w3 ⟨b2, mb2, rfl, hb3, g1, g2, ho3⟩
      have hz3 := hb3.size
      have hl3 := ho3.lt
      have hAp : Apart w b mb hb pb' b2 mb2 w3.heap.size := ⟨by omega, by omega, by omega, by omega, by omega, by omega, by omega, by omega⟩
      have KA := Lib.hid hAp
      have KT : Hid (Two w (w3.alloc (.cells (sixCs (List.replicate 6 Pg.zero)) 50)) b mb hb pb' S b2 mb2 [] w3.heap.size (List.replicate 6 Pg.zero)) :=
        Lib.hid ⟨ho3.alloc _, heap_alloc_new _ _, (KB.out.trans (hb3.mono hzb)).alloc (by omega) _⟩
      obtain ⟨nb, hnb⟩ : ∃ nb, w3.heap.size = nb := ⟨_, rfl⟩
      rw [hnb] at KA KT
      clear hAp ho3 hb3 HC
      go_wp2_with fail
      go_loopw [51] (fun i wr => ∃ k : Nat, k ≤ 6 ∧ i = .int .i64 k ∧ ∃ l : List Pg, l.length = 6 ∧ (∀ j, j < k → l[j]? = some (stPg S (j : Int))) ∧ Two w wr b mb hb pb' S b2 mb2 [] nb l) (fun i _ => 6 - (intOf i).toNat)
      case atStart => exact ⟨0, by omega, rfl, _, by simp, fun j hj => absurd hj (by omega), KT.out⟩
      case round =>
        obtain ⟨j, hj, rfl, l, hl, hlj, hT⟩ := hrel
        have HT := Lib.hid hT
        have hzr := hT.2.2.size
        have hzn := (Array.getElem?_eq_some_iff.1 hT.2.1).1
        clear hT KT
        by_cases hlt : j < 6
        · have hj6 : (j : Int) < 6 := by omega
          have hc := get_any S b mb hb pb' (j : Int) _ HT.out.1.low
          have hnext : ∀ i, i < j + 1 → (l.set j (stPg S (j : Int)))[i]? = some (stPg S (i : Int)) := by
            intro i hi
            by_cases hij : i = j
            · subst hij
              simp [hl, hlt]
            · rw [List.getElem?_set_ne (fun e => hij e.symm)]
              exact hlj i (by omega)
          rw [stE_in hS j hlt] at hc
          have HC := Lib.hid hc
          have HNx := Lib.hid hnext
          clear hc hnext hlj
          generalize stPg S (j : Int) = p at *
          go_wp2_with fail
          refine HC.out.mono ?_; rintro e w5 ⟨rfl, hb5⟩
          have hT5 := HT.out.below hb5
          have hst5 := store_six hT5.2.1 j (by omega) p
          have HT5 := Lib.hid (hT5.set KA.out j p)
          clear hT5 hb5
          go_wp2_with fail
          go_roundw
          case rel => exact ⟨j + 1, by omega, by go_num, _, by simpa using hl, HNx.out, HT5.out⟩
          case measure => simp [intOf]; omega
        · have hje : (6 : Int) ≤ (j : Int) := by omega
          have hlS : l = pagesOf S 6 := by
            apply List.ext_getElem?
            intro i
            by_cases hi : i < 6
            · rw [hlj i (by omega)]; simp [pagesOf, hi]
            · rw [List.getElem?_eq_none (by omega), List.getElem?_eq_none (by rw [pagesOf_len]; omega)]
          subst hlS
          clear hlj hl
          obtain ⟨ws, rfl⟩ : ∃ ws : World, ws = wr := ⟨_, rfl⟩
          go_wp2_with fail
          go_loopw [65] (fun i wr => ∃ k : Nat, k ≤ lo ∧ i = .int .i64 k ∧ ∃ M, Two w wr b mb hb pb' S b2 mb2 M nb (pagesOf S 6)) (fun i _ => lo - (intOf i).toNat)
          case atStart => exact ⟨0, by omega, rfl, _, HT.out⟩
          case round =>
            obtain ⟨k, hk, rfl, M, hT⟩ := hrel
            have hbl := hT.2.2
            have hzr := hbl.size
            clear HT
            have HT := Lib.hid hT
            by_cases hlt : k < lo
            · have hOk := HO.out.below hbl
              obtain ⟨rb, ro, hvp, hrb, hrow⟩ := hOk.2.2.resolve_left (by omega)
              subst hvp
              have hld := load_in (hrow k (by omega))
              generalize O[k] = x at *
              obtain ⟨id, p⟩ := x
              simp only at hld
              have hR := rowAt_at wr (imgCs id p) 48 _ rfl
              have hlp := load_imgPage hR
              have hml := hT.1.lt.2
              clear hT hrow hOk hbl
              by_cases h6 : 6 ≤ id
              · have t1 : decide (6 ≤ id) = true := by simpa using h6
                go_wp2_with fail
                go_roundw
                case rel => exact ⟨k + 1, by omega, by go_num, M, HT.out.alloc _⟩
                case measure => simp [intOf]; omega
              · have t1 : decide (6 ≤ id) = false := by simpa using h6
                cases hok : okSet id p with
                | false =>
                  have HC := Lib.hid (over_set_bad id p (HT.out.alloc (.cells (imgCs id p) 48)).1 hok)
                  clear hok
                  go_wp2_with fail
                  refine HC.out.mono ?_; rintro e w4 ⟨rfl, hg4, ho4⟩
                  have HT4 := Lib.hid ((HT.out.alloc (.cells (imgCs id p) 48)).grown KA.out hg4 ho4)
                  clear hg4 ho4
                  go_wp2_with fail
                  go_roundw
                  case rel => exact ⟨k + 1, by omega, by go_num, M, HT4.out⟩
                  case measure => simp [intOf]; omega
                | true =>
                  have HC := Lib.hid (over_set_ok id p (HT.out.alloc (.cells (imgCs id p) 48)).1 hok)
                  clear hok
                  go_wp2_with fail
                  refine HC.out.mono ?_; rintro e w4 ⟨rfl, hg4, ho4⟩
                  have hz4 := hg4.size
                  rw [World.size_alloc] at hz4
                  have hR4 : rowAt w4 wr.heap.size = some (imgCs id p) := by
                    unfold rowAt
                    rw [hg4.block wr.heap.size (by simp) (by simp; omega)]
                    exact hR
                  have HT4 := Lib.hid ((HT.out.alloc (.cells (imgCs id p) 48)).grown KA.out hg4 ho4)
                  have hc4 := over_get id ho4
                  rw [upPg_upd, upE_upd] at hc4
                  have HC4 := Lib.hid hc4
                  have k4 : w4.cell? ⟨wr.heap.size, 0, none⟩ = some (.int .i64 id) := (cell_row hR4 0).trans rfl
                  clear hg4 ho4 hc4
                  go_wp2_with fail
                  refine HC4.out.mono ?_; rintro e w5 ⟨rfl, hb5⟩
                  have hR5 := (rowAt_below hb5 (by omega)).trans hR4
                  have hz5 := hb5.size
                  have HT5 := Lib.hid (HT4.out.below hb5)
                  have hlp5 := load_imgPage ((rowAt_past w5 (.cells p.cs 41) _ (by omega)).trans hR5)
                  have hlp6 := load_imgPage (w := (w5.alloc (.cells p.cs 41)).drew) ((rowAt_past w5 (.cells p.cs 41) _ (by omega)).trans hR5)
                  have hpe := pgEq_self p
                  clear hb5
                  go_wp2_with fail
                  go_roundw
                  case rel => exact ⟨k + 1, by omega, by go_num, _, HT5.out.alloc _⟩
                  case measure => simp [intOf]; omega
            · have hke : k = lo := by omega
              subst hke
              clear hT hbl
              obtain ⟨wt, rfl⟩ : ∃ wt : World, wt = wr := ⟨_, rfl⟩
              go_wp2_with fail
              go_loopw [95] (fun i wr => ∃ j : Nat, j ≤ 6 ∧ i = .int .i64 j ∧ Two w wr b mb hb pb' S b2 mb2 M nb (pagesOf S 6)) (fun i _ => 6 - (intOf i).toNat)
              case atStart => exact ⟨0, by omega, rfl, HT.out⟩
              case round =>
                obtain ⟨j, hj, rfl, hT⟩ := hrel
                clear HT
                have HT := Lib.hid hT
                have hzr := hT.2.2.size
                clear hT
                by_cases hlt : j < 6
                · have hj6 : (j : Int) < 6 := by omega
                  have hc := get_any S b mb hb pb' (j : Int) _ HT.out.1.low
                  rw [stE_in hS j hlt] at hc
                  have HC := Lib.hid hc
                  clear hc
                  go_wp2_with fail
                  refine HC.out.mono ?_; rintro e w5 ⟨rfl, hb5⟩
                  have HT5 := Lib.hid (HT.out.below hb5)
                  have hld := load_six (HT5.out.alloc (.cells (stPg S (j : Int)).cs 41)).2.1 j (by rw [pagesOf_len]; exact hlt)
                  have e3 : (pagesOf S 6)[j]'(by rw [pagesOf_len]; exact hlt) = stPg S j := by simp [pagesOf]
                  rw [e3] at hld
                  have hld2 := load_six (HT5.out.alloc (.cells (stPg S (j : Int)).cs 41)).drew.2.1 j (by rw [pagesOf_len]; exact hlt)
                  rw [e3] at hld2
                  have hpe := pgEq_self (stPg S j)
                  clear hb5 e3
                  generalize stPg S (j : Int) = p at *
                  go_wp2_with fail
                  go_region
                  go_wp2_with fail
                  go_roundw
                  case rel => exact ⟨j + 1, by omega, by go_num, (HT5.out.alloc _).drew⟩
                  case measure => simp [intOf]; omega
                · have hje : (6 : Int) ≤ (j : Int) := by omega
                  have HC := Lib.hid (over_drop HT.out.1)
                  obtain ⟨wu, rfl⟩ : ∃ wu : World, wu = wr := ⟨_, rfl⟩
                  go_wp2_with fail
                  refine HC.out.mono ?_; rintro e w5 ⟨rfl, hg5, ho5⟩
                  have HT5 := Lib.hid (HT.out.grown KA.out hg5 ho5)
                  have HC5 := Lib.hid (over_images ho5)
                  clear hg5 ho5
                  go_wp2_with fail
                  refine HC5.out.mono ?_; rintro e w6 ⟨rfl, hb6⟩
                  have HT6 := Lib.hid (HT5.out.below hb6)
                  clear hb6
                  go_wp2_with fail
                  go_loopw [121] (fun i wr => ∃ j : Nat, j ≤ 6 ∧ i = .int .i64 j ∧ Two w wr b mb hb pb' S b2 mb2 [] nb (pagesOf S 6)) (fun i _ => 6 - (intOf i).toNat)
                  case atStart => exact ⟨0, by omega, rfl, HT6.out⟩
                  case round =>
                    obtain ⟨j, hj, rfl, hT⟩ := hrel
                    have HT := Lib.hid hT
                    have hzr := hT.2.2.size
                    clear hT
                    by_cases hlt : j < 6
                    · have hj6 : (j : Int) < 6 := by omega
                      have hc := over_get (j : Int) HT.out.1
                      have e1 : upPg S [] (j : Int) = stPg S j := rfl
                      have e2 : upE S [] (j : Int) = stE S j := rfl
                      rw [e1, e2, stE_in hS j hlt] at hc
                      have HC := Lib.hid hc
                      clear hc e1 e2
                      go_wp2_with fail
                      refine HC.out.mono ?_; rintro e w7 ⟨rfl, hb7⟩
                      have HT7 := Lib.hid (HT.out.below hb7)
                      have hld := load_six (HT7.out.alloc (.cells (stPg S (j : Int)).cs 41)).2.1 j (by rw [pagesOf_len]; exact hlt)
                      have e3 : (pagesOf S 6)[j]'(by rw [pagesOf_len]; exact hlt) = stPg S j := by simp [pagesOf]
                      rw [e3] at hld
                      have hld2 := load_six (HT7.out.alloc (.cells (stPg S (j : Int)).cs 41)).drew.2.1 j (by rw [pagesOf_len]; exact hlt)
                      rw [e3] at hld2
                      have hpe := pgEq_self (stPg S j)
                      clear hb7 e3
                      generalize stPg S (j : Int) = p at *
                      go_wp2_with fail
                      go_region
                      go_wp2_with fail
                      go_roundw
                      case rel => exact ⟨j + 1, by omega, by go_num, (HT7.out.alloc _).drew⟩
                      case measure => simp [intOf]; omega
                    · have hje : (6 : Int) ≤ (j : Int) := by omega
                      go_wp2_with fail
                      go_ret
                      exact ⟨rfl, HT.out.2.2⟩
end Go.Proofs.Ythehglhbgplfhaa
