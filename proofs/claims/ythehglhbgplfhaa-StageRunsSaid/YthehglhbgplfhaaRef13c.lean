/-
  The document's answer for layer 13: its stage's Set.
-/
import Derived.Test.YthehglhbgplfhaaRef13b
namespace Go.Proofs.Ythehglhbgplfhaa
open Go.RowKit Go.Joins
set_option linter.unusedVariables false
set_option linter.unusedSimpArgs false

/-- one step of the document's Set -/
def rstep (id : Int) (p : Pg) (s : List (Int × Pg) × Bool) (x : Int × Pg) : List (Int × Pg) × Bool :=
  let s1 := if (decide (id ≤ x.1) && !s.2) = true then (s.1 ++ [(id, p)], true) else s
  if x.1 = id then s1 else (s1.1 ++ [x], s1.2)
def rfold (id : Int) (p : Pg) (P : List (Int × Pg)) : List (Int × Pg) × Bool := P.foldl (rstep id p) ([], false)
def rput (id : Int) (p : Pg) (P : List (Int × Pg)) : List (Int × Pg) := if (rfold id p P).2 then (rfold id p P).1 else (rfold id p P).1 ++ [(id, p)]
theorem rfold_snoc (id : Int) (p : Pg) (P : List (Int × Pg)) (x : Int × Pg) : rfold id p (P ++ [x]) = rstep id p (rfold id p P) x := by simp [rfold]

theorem heap_ne {w : World} {a b : Nat} {ca cb : Array Value} {ta tb : TypeId} (ha : w.heap[a]? = some (.cells ca ta)) (hb : w.heap[b]? = some (.cells cb tb)) (ht : ta ≠ tb) : a ≠ b := by
  intro e
  rw [e, hb] at ha
  simp at ha
  exact ht ha.2.symm
theorem own_base {w : World} {b b' s n : Nat} {e : TypeId} {v : Value} {xs : List Value} (h : w.ownsRow b e s v n xs) (hb : b' ≤ b) : w.ownsRow b' e s v n xs := by
  refine ⟨h.1, ?_⟩
  rcases h.2 with h0 | ⟨g, cap, cur, rfl, h1, h2, h3⟩
  · exact .inl h0
  · exact .inr ⟨g, cap, cur, rfl, Nat.le_trans hb h1, h2, h3⟩
theorem RStage.ne {w : World} {tb kb kp B : Nat} {l : List Pg} {v : Value} {P : List (Int × Pg)} (h : RStage w tb kb kp l v B P) : tb ≠ kb ∧ tb ≠ kp := ⟨heap_ne h.st h.shelf.1 (by decide), heap_ne h.st h.shelf.2.1 (by decide)⟩
theorem own_ne_block {w : World} {B n s g : Nat} {e t : TypeId} {v : Value} {xs : List Value} {c : Array Value} (h : w.ownsRow B e s v n xs) (hg : w.heap[g]? = some (.cells c t)) (ht : e ≠ t) : v.ownBlock = none ∨ v.ownBlock ≠ some g := by
  rcases h.2 with ⟨rfl, _⟩ | ⟨g', cap, cur, rfl, _, hg', _⟩
  · exact .inl rfl
  · refine .inr fun e' => ht ?_
    simp only [Value.ownBlock, Option.some.injEq] at e'
    subst e'
    rw [hg] at hg'
    simp at hg'
    exact hg'.2.symm
theorem RShelf.grown {w w' : World} {kb kp tb : Nat} {l : List Pg} (h : RShelf w kb kp l) (hg : w.grownBy w' (some tb)) (h1 : tb ≠ kb) (h2 : tb ≠ kp) : RShelf w' kb kp l :=
  ⟨(hg.block kb h.lt.1 (by simpa using Ne.symm h1)).trans h.1, (hg.block kp h.lt.2 (by simpa using Ne.symm h2)).trans h.2.1, h.2.2⟩
theorem grown_setCellAt (w : World) (b i : Nat) (v : Value) : w.grownBy (w.setCell ⟨b, i, none⟩ v) (some b) :=
  ⟨rfl, rfl, rfl, by simp [World.setCell], fun k _ hk => Below.heap_setCell _ _ _ k (fun e => hk (by rw [e]))⟩

set_option maxHeartbeats 2000000 in
set_option maxRecDepth 100000 in
theorem rstage_set_bad (a : Value) (id : Int) (p : Pg) (w : World) (h : okSet id p = false) :
    Calls Try.prog 27 #[a, .int .i64 id, p.v] w fun e w' => e = .returned (.int .i64 1) ∧ Below w.heap.size w w' := by
  have hc := fun w' => right_any p w'
  by_cases h1 : id < 0
  · clear hc h
    go_enter Try.func27, Try.ntmps27
    go_wp2_with fail
    go_ret
    exact ⟨rfl, (Below.refl _ _).alloc (Nat.le_refl _) _⟩
  by_cases h2 : 1023 < id
  · clear hc h
    go_enter Try.func27, Try.ntmps27
    go_wp2_with fail
    go_ret
    exact ⟨rfl, (Below.refl _ _).alloc (Nat.le_refl _) _⟩
  · have h3 : okPg p = false := by
      have p1 : decide (0 ≤ id) = true := by simp; omega
      have p2 : decide (id < 1024) = true := by simp; omega
      simpa only [okSet, p1, p2, Bool.true_and] using h
    rw [h3] at hc
    have HC := Lib.hid hc
    clear hc h h3
    go_enter Try.func27, Try.ntmps27
    go_wp2_with fail
    refine (HC.out _).mono ?_; rintro e w1 ⟨rfl, hb1⟩
    go_wp2_with fail
    go_ret
    exact ⟨rfl, ((Below.refl _ _).alloc (Nat.le_refl _) _).trans (hb1.mono (by go_size))⟩

/-- the loop of Set -/
def SetAt (w wr : World) (id : Int) (p : Pg) (P : List (Int × Pg)) (k : Nat) (out : Value) (d : Bool) : Prop :=
  Below w.heap.size w wr ∧ wr.ownsRow (w.heap.size + 1) 48 17 out (rfold id p (P.take k)).1.length (imgRow (rfold id p (P.take k)).1) ∧ d = (rfold id p (P.take k)).2 ∧ (rfold id p (P.take k)).1.length ≤ 2 * k ∧ rowAt wr w.heap.size = some p.cs ∧ w.heap.size < wr.heap.size

set_option maxHeartbeats 8000000 in
set_option maxRecDepth 100000 in
theorem rstage_set_ok (tb kb kp B : Nat) (l : List Pg) (v : Value) (P : List (Int × Pg)) (id : Int) (p : Pg) (w : World) (h : RStage w tb kb kp l v B P) (hn : P.length ≤ 1024) (hok : okSet id p = true) :
    Calls Try.prog 27 #[.pointer (some ⟨tb, 0, none⟩), .int .i64 id, p.v] w fun e w' => e = .returned (.int .i64 0) ∧ w.grownBy w' (some tb) ∧ ∃ v', RStage w' tb kb kp l v' (w.heap.size + 1) (rput id p P) := by
  obtain ⟨vp, vc, hv2⟩ : ∃ vp vc, v = .slice vp P.length vc := by
    rcases ownsRow_forms h.put with ⟨h1, h2⟩ | ⟨g, c, h1⟩
    · exact ⟨_, _, by rw [h1, h2]⟩
    · exact ⟨_, _, h1⟩
  subst hv2
  have hc := fun w' => right_any p w'
  simp only [okSet, Bool.and_eq_true, decide_eq_true_eq] at hok
  obtain ⟨⟨q1, q2⟩, q3⟩ := hok
  rw [q3] at hc
  have HC := Lib.hid hc
  have H := Lib.hid h
  have lt := (Array.getElem?_eq_some_iff.1 h.st).1
  have hne := h.ne
  obtain ⟨i0, hi', hz0, hz1, hz2⟩ := info_parts infoImg
  clear h hc q3
  go_enter Try.func27, Try.ntmps27
  go_wp2_with fail
  refine (HC.out _).mono ?_; rintro e w1 ⟨rfl, hb1⟩
  have hr1 : rowAt w1 w.heap.size = some p.cs := (rowAt_below hb1 (by go_size)).trans (by simp [go_sem])
  have hz := hb1.size
  simp only [World.size_alloc] at hz
  have HS : Hid (SetAt w w1 id p P 0 (.slice none 0 0) false) := Lib.hid ⟨((Below.refl w.heap.size w).alloc (Nat.le_refl _) _).trans (hb1.mono (by go_size)), World.ownsRow_nil _ _ _ _, rfl, by simp [rfold], hr1, by omega⟩
  clear hb1 hr1
  go_wp2_with fail
  go_loopw [7, 8, 9] (fun out d i wr => ∃ k : Nat, k ≤ P.length ∧ i = .int .i64 k ∧ ∃ b : Bool, d = .bool b ∧ SetAt w wr id p P k out b) (fun _ _ i _ => P.length - (intOf i).toNat)
  case atStart => exact ⟨0, by omega, rfl, false, rfl, HS.out⟩
  case round =>
    obtain ⟨k, hk, rfl, b, rfl, hbl, hrow, hd, hlen, hpr, hsz⟩ := hrel
    clear HS
    have HB := Lib.hid hbl
    have hP := Lib.hid (H.out.below hbl)
    have hzr := hbl.size
    have c1 := cell_of_block hP.out.st 1
    simp only [List.getElem?_toArray, List.getElem?_cons_succ, List.getElem?_cons_zero] at c1
    by_cases hlt : k < P.length
    · obtain ⟨g, hg⟩ : ∃ g, vp = some ⟨g, 0, none⟩ := by
        obtain ⟨g, cap, hv⟩ := ownsRow_form H.out.put (by omega)
        simp only [Value.slice.injEq] at hv
        exact ⟨g, hv.1⟩
      subst hg
      have hkI : (k : Int) < (P.length : Int) := by omega
      have KC := Lib.hid (fun (w' : World) (hb' : Below w.heap.size w w') => cell_img (own_low H.out.put hb') k hlt)
      have KL := Lib.hid (fun (w' : World) (hb' : Below w.heap.size w w') => load_img (own_low H.out.put hb') k hlt)
      have KT := Lib.hid (fun (w' : World) (hb' : Below w.heap.size w w') => (hb'.cell (p := ⟨tb, 1, none⟩) lt).trans (show w.cell? ⟨tb, 1, none⟩ = some (.slice (some ⟨g, 0, none⟩) P.length vc) by
        have := cell_of_block H.out.st 1
        simpa using this))
      have htk : P.take (k + 1) = P.take k ++ [P[k]] := by rw [List.take_succ_eq_append_getElem hlt]
      have hsn := rfold_snoc id p (P.take k) P[k]
      rw [← htk] at hsn
      have HSn := Lib.hid hsn
      clear htk hsn
      generalize P[k] = x at *
      obtain ⟨i, q⟩ := x
      simp only at KC KL HSn
      generalize hs : rfold id p (P.take k) = s at *
      obtain ⟨o, d⟩ := s
      simp only at hrow hd hlen HSn
      subst hd
      have KS := Lib.hid hs
      clear hs
      have hci := KC.out _ hbl
      have hld := KL.out _ hbl
      by_cases hA : id ≤ i ∧ b = false
      · obtain ⟨hA1, hA2⟩ := hA
        subst hA2
        have t1 : decide (id ≤ i) = true := by simpa using hA1
        have HR := Lib.hid hrow
        clear hbl
        go_wp2_with (at_builtin; refine wpList_append_own _ rfl _ _ 46 rfl (w.heap.size + 1) 48 i0 _ 17 184 Try.underlying46 hi' hz0 hz1 hz2 rfl (by decide) _ _ _ rfl (hrow.alloc _) ⟨wr.heap.size, 0, none⟩ 1 1 (imgCs id p).toList rfl rfl ?c1 ?c2 ?c3 ?c4 ?c5 ?_)
        case c1 => exact World.news_of_block (heap_alloc_new wr (.cells (imgCs id p) 48))
        case c2 => intro u hu; simp [imgCs] at hu; rcases hu with rfl | rfl | rfl | rfl | rfl | rfl | rfl | rfl | rfl | rfl | rfl | rfl | rfl | rfl | rfl | rfl | rfl <;> rfl
        case c3 => simp only [maxLen]; omega
        case c4 => omega
        case c5 => first | omega | (simp; omega)
        intro v' w5 hown' hgrow _
        have B5 : Below w.heap.size w w5 := (HB.out.alloc hzr (.cells (imgCs id p) 48)).grown hgrow (by simp; omega) (fun q hq => by have := (hrow.lt q hq).1; omega)
        have hr5 : rowAt w5 w.heap.size = some p.cs := by
          unfold rowAt
          rw [hgrow.block w.heap.size (by simp; omega) (fun e => by have := (hrow.lt w.heap.size e.symm).1; omega)]
          exact (rowAt_past wr _ _ hsz).trans hpr
        have hz5 := hgrow.size
        rw [World.size_alloc] at hz5
        have hci5 := KC.out _ B5
        have hld5 := KL.out _ B5
        have hct5 := KT.out _ B5
        have HB5 := Lib.hid B5
        clear hgrow hrow HR hpr hci hld c1
        by_cases hi : i = id
        · have t2 : decide (i = id) = true := by simpa using hi
          have t3 : (i == id) = true := by simpa using hi
          have H5 := Lib.hid hown'
          have hst : rstep id p (o, false) (i, q) = (o ++ [(id, p)], true) := by simp [rstep, hA1, hi]
          rw [hst] at HSn
          clear hown' B5
          subst hi
          go_wp2_with fail
          go_roundw
          case rel => exact ⟨k + 1, by omega, by go_num, true, rfl, HB5.out, by rw [HSn.out]; simp only [List.length_append, List.length_singleton, imgRow_snoc]; exact H5.out, by rw [HSn.out], by rw [HSn.out]; simp; omega, hr5, by omega⟩
          case measure => simp [intOf]; omega
        · have t2 : decide (i = id) = false := by simpa using hi
          have t3 : (i == id) = false := by simpa using hi
          have hst : rstep id p (o, false) (i, q) = (o ++ [(id, p)] ++ [(i, q)], true) := by simp [rstep, hA1, hi]
          rw [hst] at HSn
          clear B5
          go_wp2_with (at_builtin; refine wpList_append_own _ rfl _ _ 46 rfl (w.heap.size + 1) 48 i0 _ 17 184 Try.underlying46 hi' hz0 hz1 hz2 rfl (by decide) _ _ _ rfl (hown'.alloc _) ⟨w5.heap.size, 0, none⟩ 1 1 (imgCs i q).toList rfl rfl ?c1 ?c2 ?c3 ?c4 ?c5 ?_)
          case c1 => exact World.news_of_block (heap_alloc_new w5 (.cells (imgCs i q) 48))
          case c2 => intro u hu; simp [imgCs] at hu; rcases hu with rfl | rfl | rfl | rfl | rfl | rfl | rfl | rfl | rfl | rfl | rfl | rfl | rfl | rfl | rfl | rfl | rfl <;> rfl
          case c3 => simp only [maxLen]; omega
          case c4 => omega
          case c5 => first | omega | (simp; omega)
          intro v6 w6 hown6 hgrow6 _
          have B6 : Below w.heap.size w w6 := (HB5.out.alloc (by omega) (.cells (imgCs i q) 48)).grown hgrow6 (by simp; omega) (fun q hq => by have := (hown'.lt q hq).1; omega)
          have hr6 : rowAt w6 w.heap.size = some p.cs := by
            unfold rowAt
            rw [hgrow6.block w.heap.size (by simp; omega) (fun e => by have := (hown'.lt w.heap.size e.symm).1; omega)]
            exact (rowAt_past w5 _ _ (by omega)).trans hr5
          have hz6 := hgrow6.size
          rw [World.size_alloc] at hz6
          have HB6 := Lib.hid B6
          have H6 := Lib.hid hown6
          clear hgrow6 hown6 hown' B6
          go_wp2_with fail
          go_roundw
          case rel => exact ⟨k + 1, by omega, by go_num, true, rfl, HB6.out, by rw [HSn.out]; simp only [List.length_append, List.length_singleton, imgRow_snoc]; rw [List.append_assoc]; exact H6.out, by rw [HSn.out], by rw [HSn.out]; simp; omega, hr6, by omega⟩
          case measure => simp [intOf]; omega
      · have hAb : (decide (id ≤ i) && !b) = false := by
          cases b
          · simp at hA; simpa using hA
          · simp
        by_cases hi : i = id
        · have hbt : b = true := by
            subst hi
            cases b
            · simp at hAb
            · rfl
          subst hbt
          have t1 : decide (id ≤ i) = true := by simp; omega
          have hst : rstep id p (o, true) (i, q) = (o, true) := by simp [rstep, hi]
          rw [hst] at HSn
          have H5 := Lib.hid hrow
          clear hbl hrow hA hAb
          subst hi
          go_wp2_with fail
          go_roundw
          case rel => exact ⟨k + 1, by omega, by go_num, true, rfl, HB.out, by rw [HSn.out]; exact H5.out, by rw [HSn.out], by rw [HSn.out]; simp; omega, hpr, hsz⟩
          case measure => simp [intOf]; omega
        · have t2 : decide (i = id) = false := by simpa using hi
          have t3 : (i == id) = false := by simpa using hi
          have hst : rstep id p (o, b) (i, q) = (o ++ [(i, q)], b) := by simp [rstep, hAb, hi]
          rw [hst] at HSn
          have hAb2 : (b = false ∧ decide (id ≤ i) = false) ∨ (b = true ∧ decide (id ≤ i) = true) ∨ (b = true ∧ decide (id ≤ i) = false) := by
            cases b
            · exact .inl ⟨rfl, by simpa using hAb⟩
            · by_cases hx : id ≤ i
              · exact .inr (.inl ⟨rfl, by simpa using hx⟩)
              · exact .inr (.inr ⟨rfl, by simpa using hx⟩)
          clear hbl hA
          clear hAb
          rcases hAb2 with ⟨rfl, t1⟩ | ⟨rfl, t1⟩ | ⟨rfl, t1⟩
          all_goals
            go_wp2_with (at_builtin; refine wpList_append_own _ rfl _ _ 46 rfl (w.heap.size + 1) 48 i0 _ 17 184 Try.underlying46 hi' hz0 hz1 hz2 rfl (by decide) _ _ _ rfl (hrow.alloc _) ⟨wr.heap.size, 0, none⟩ 1 1 (imgCs i q).toList rfl rfl ?c1 ?c2 ?c3 ?c4 ?c5 ?_)
            case c1 => exact World.news_of_block (heap_alloc_new wr (.cells (imgCs i q) 48))
            case c2 => intro u hu; simp [imgCs] at hu; rcases hu with rfl | rfl | rfl | rfl | rfl | rfl | rfl | rfl | rfl | rfl | rfl | rfl | rfl | rfl | rfl | rfl | rfl <;> rfl
            case c3 => simp only [maxLen]; omega
            case c4 => omega
            case c5 => first | omega | (simp; omega)
            intro v6 w6 hown6 hgrow6 _
            have B6 : Below w.heap.size w w6 := (HB.out.alloc hzr (.cells (imgCs i q) 48)).grown hgrow6 (by simp; omega) (fun q hq => by have := (hrow.lt q hq).1; omega)
            have hr6 : rowAt w6 w.heap.size = some p.cs := by
              unfold rowAt
              rw [hgrow6.block w.heap.size (by simp; omega) (fun e => by have := (hrow.lt w.heap.size e.symm).1; omega)]
              exact (rowAt_past wr _ _ hsz).trans hpr
            have hz6 := hgrow6.size
            rw [World.size_alloc] at hz6
            have HB6 := Lib.hid B6
            have H6 := Lib.hid hown6
            clear hgrow6 hown6 hrow B6
            go_wp2_with fail
            go_roundw
            case rel => exact ⟨k + 1, by omega, by go_num, _, rfl, HB6.out, by rw [HSn.out]; simp only [List.length_append, List.length_singleton, imgRow_snoc]; exact H6.out, by rw [HSn.out], by rw [HSn.out]; simp; omega, hr6, by omega⟩
            case measure => simp [intOf]; omega
    · have hkI : (P.length : Int) ≤ (k : Int) := by omega
      have htk : P.take k = P := List.take_of_length_le (by omega)
      rw [htk] at hrow hd hlen
      have hres : rput id p P = if (rfold id p P).2 then (rfold id p P).1 else (rfold id p P).1 ++ [(id, p)] := rfl
      generalize hs : rfold id p P = s at *
      obtain ⟨o, d⟩ := s
      simp only at hrow hd hlen hres
      subst hd
      have HRes := Lib.hid hres
      have lt1 : tb < wr.heap.size := by omega
      clear hs hres htk hbl
      cases b with
      | true =>
        have fz : wr.frozen? ⟨tb, 1, none⟩ = false := by have := hP.out.st; simp [World.frozen?, this]
        have H5 := Lib.hid hrow
        rcases ownsRow_forms hrow with ⟨h1, h2⟩ | ⟨g', c', h1⟩
        all_goals
          subst h1
          clear hrow
          go_wp2_with fail
          go_ret
          refine ⟨rfl, (grown_of_below HB.out (some tb)).trans (grown_setCellAt wr tb 1 _), _, ?_, setCell_block hP.out.st 1 _, ?_⟩
          · exact H.out.shelf.grown ((grown_of_below HB.out (some tb)).trans (grown_setCellAt wr tb 1 _)) hne.1 hne.2
          · rw [HRes.out]
            simp only [if_true]
            exact (H5.out).kept (grown_setCellAt wr tb 1 _) (own_ne_block H5.out hP.out.st (by decide))
      | false =>
        go_wp2_with (at_builtin; refine wpList_append_own _ rfl _ _ 46 rfl (w.heap.size + 1) 48 i0 _ 17 184 Try.underlying46 hi' hz0 hz1 hz2 rfl (by decide) _ _ _ rfl (hrow.alloc _) ⟨wr.heap.size, 0, none⟩ 1 1 (imgCs id p).toList rfl rfl ?c1 ?c2 ?c3 ?c4 ?c5 ?_)
        case c1 => exact World.news_of_block (heap_alloc_new wr (.cells (imgCs id p) 48))
        case c2 => intro u hu; simp [imgCs] at hu; rcases hu with rfl | rfl | rfl | rfl | rfl | rfl | rfl | rfl | rfl | rfl | rfl | rfl | rfl | rfl | rfl | rfl | rfl <;> rfl
        case c3 => simp only [maxLen]; omega
        case c4 => omega
        case c5 => first | omega | (simp; omega)
        intro v' w5 hown' hgrow _
        have B5 : Below w.heap.size w w5 := (HB.out.alloc hzr (.cells (imgCs id p) 48)).grown hgrow (by simp; omega) (fun q hq => by have := (hrow.lt q hq).1; omega)
        have hst5 := (B5.block tb lt).trans H.out.st
        have fz : w5.frozen? ⟨tb, 1, none⟩ = false := by simp [World.frozen?, hst5]
        have hct5 := cell_of_block hst5 1
        simp only [List.getElem?_toArray, List.getElem?_cons_succ, List.getElem?_cons_zero] at hct5
        have lt5 := (Array.getElem?_eq_some_iff.1 hst5).1
        have H5 := Lib.hid hown'
        have HB5 := Lib.hid B5
        have HST := Lib.hid hst5
        obtain ⟨g', c', h1⟩ := ownsRow_form hown' (by simp)
        subst h1
        clear hown' hgrow hrow B5 hst5
        go_wp2_with fail
        go_ret
        refine ⟨rfl, (grown_of_below HB5.out (some tb)).trans (grown_setCellAt w5 tb 1 _), _, ?_, setCell_block HST.out 1 _, ?_⟩
        · exact H.out.shelf.grown ((grown_of_below HB5.out (some tb)).trans (grown_setCellAt w5 tb 1 _)) hne.1 hne.2
        · rw [HRes.out]
          simp only [Bool.false_eq_true, if_false, List.length_append, List.length_singleton, imgRow_snoc]
          exact (H5.out).kept (grown_setCellAt w5 tb 1 _) (own_ne_block H5.out HST.out (by decide))
end Go.Proofs.Ythehglhbgplfhaa
