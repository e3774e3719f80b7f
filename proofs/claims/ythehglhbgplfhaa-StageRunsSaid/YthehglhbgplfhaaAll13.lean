/-
  Layer 13 (stage): the walk of StageAll.
-/
import Derived.Test.YthehglhbgplfhaaLands
import Derived.Laws.AppendOwnNone
namespace Go.Proofs.Ythehglhbgplfhaa
open Go.RowKit Go.Joins
set_option linter.unusedVariables false
set_option linter.unusedSimpArgs false

theorem keys_rise {S : Vol} (h : (S.M.map (·.1)).Nodup) : S.keys.Pairwise (· < ·) := by
  have h1 : S.keys.Pairwise (fun a b : Int => a ≤ b) := by
    have := List.pairwise_mergeSort (le := fun x y : Int => decide (x ≤ y)) (fun a b c h1 h2 => by simp at *; omega) (fun a b => by simp; omega) ((S.M.map fun x => (x.1, x.2.v)).map (·.1))
    exact this.imp (by intro a b h; simpa using h)
  have h2 : S.keys.Nodup := by
    refine (List.Perm.nodup_iff (List.mergeSort_perm _ _)).2 ?_
    rw [List.map_map]
    exact h
  exact (h1.and h2).imp (by intro a b ⟨p, q⟩; omega)
theorem imgs_rise {S : Vol} (h : (S.M.map (·.1)).Nodup) : ((imgs S S.keys).map (·.1)).Pairwise (· < ·) := by
  unfold imgs
  rw [List.map_map]
  have e : ((fun x : Int × Pg => x.1) ∘ fun id : Int => (id, stPg S id)) = id := rfl
  rw [e, List.map_id]
  exact (keys_rise h).filter _
theorem rise_step {I : List (Int × Pg)} (h : (I.map (·.1)).Pairwise (· < ·)) (i : Nat) (hi : i + 1 < I.length) : (I[i]'(by omega)).1 < (I[i + 1]).1 := by
  have := (List.pairwise_iff_getElem.1 h) i (i + 1) (by simp; omega) (by simpa using hi) (by omega)
  simpa using this
@[go_sem] theorem run_buildImg1 (w : World) (id : Int) : (buildImg #[(0, .int .i64 id)]).run Try.prog w = .ok (imgV id Pg.zero) w := by kernel_rfl
theorem imgRow_head (I : List (Int × Pg)) (j : Nat) (hj : j < I.length) : (imgRow I)[j * 17]? = some (.int .i64 I[j].1) := imgRow_get I j 0 hj (by omega)

set_option maxHeartbeats 4000000 in
set_option maxRecDepth 100000 in
theorem all_good (n : Nat) (h1 : 1 ≤ n) (hn : n ≤ 100) (vo : Option Addr) (lo co : Nat) (O : List (Int × Pg)) (w : World) (hO : ImgsIn w vo lo O) :
    Calls Try.prog 6 #[.int .i64 n, .slice vo lo co] w fun e w' => e = .returned (.bool true) ∧ Below w.heap.size w w' := by
  have HA := Lib.hid (fun (w' : World) => awake13 w')
  have HM := Lib.hid (fun (w' : World) => memory_ok n h1 (by omega) w')
  have HN := Lib.hid (fun hb pb w' hB h h1 h2 => new_lay hb pb (List.replicate n Pg.zero) w w' hB h h1 h2)
  have HSet := Lib.hid (fun (w' : World) b hb S (L : Lay (· < w.heap.size) w w' b hb S) id p => set_lay L id p)
  have HO := Lib.hid hO
  have lo1 := hO.1
  have OL := hO.2.1
  have c1 : (1 : Int) ≤ (n : Int) := by omega
  have c2 : (n : Int) ≤ 100 := by omega
  have f0 : Vol.Fit ⟨List.replicate n Pg.zero, []⟩ n := by have := Vol.Fit.nil (List.replicate n Pg.zero) (by simp; omega); simpa using this
  have F0 := Lib.hid f0
  clear hO f0
  go_enter Try.func6, Try.ntmps6
  go_wp2_with fail
  refine (HA.out _).mono ?_; rintro e w0 ⟨rfl, hb0⟩
  have K0 := Lib.hid hb0
  have hz0 := hb0.size
  clear hb0
  go_wp2_with fail
  refine (HM.out _).mono ?_; rintro e w1 ⟨hb, pb, rfl, hb1, q1, q2, hs1⟩
  have K1 := Lib.hid (K0.out.trans (hb1.mono hz0))
  have K2 := Lib.hid hs1
  clear hb1 hs1
  go_wp2_with fail
  refine (HN.out hb pb _ K1.out K2.out (by omega) (by omega)).mono ?_; rintro e w2 ⟨b, rfl, L2⟩
  have K3 := Lib.hid L2
  clear L2
  go_wp2_with fail
  go_loopw [33] (fun i wr => ∃ k : Nat, k ≤ lo ∧ i = .int .i64 k ∧ ∃ S, Lay (· < w.heap.size) w wr b hb S ∧ S.Fit n ∧ S.base = List.replicate n Pg.zero) (fun i _ => lo - (intOf i).toNat)
  case atStart => exact ⟨0, by omega, rfl, _, K3.out, F0.out, rfl⟩
  case round =>
    obtain ⟨k, hk, rfl, S, L, hF, hBs⟩ := hrel
    have hbl := L.low
    by_cases hlt : k < lo
    · have hOk := HO.out.below hbl
      obtain ⟨rb, ro, hvp, hrb, hrow⟩ := hOk.2.2.resolve_left (by omega)
      subst hvp
      have hld := load_in (hrow k (by omega))
      generalize O[k] = x at *
      obtain ⟨id, p⟩ := x
      simp only at hld
      have hlp := load_imgPage (rowAt_at wr (imgCs id p) 48 _ rfl)
      have KL := Lib.hid L
      have KF := Lib.hid hF
      have KBs := Lib.hid hBs
      clear L hF hrow hOk hbl hBs
      by_cases hid : id < (n : Int)
      · have t1 : decide (id < (n : Int)) = true := by simpa using hid
        have HC := Lib.hid (HSet.out _ b hb S (KL.out.alloc (.cells (imgCs id p) 48)) id p)
        have KF2 : Hid ((if okSet id p then S.put id p else S).Fit n ∧ (if okSet id p then S.put id p else S).base = List.replicate n Pg.zero) := Lib.hid (by
          split
          · rename_i h
            simp only [okSet, Bool.and_eq_true, decide_eq_true_eq] at h
            exact ⟨KF.out.put id p h.1.1 hid h.2, KBs.out⟩
          · exact ⟨KF.out, KBs.out⟩)
        go_wp2_with fail
        refine HC.out.mono ?_; rintro e w3 ⟨rfl, L3⟩
        have K4 := Lib.hid L3
        clear L3
        go_wp2_with fail
        go_roundw
        case rel => exact ⟨k + 1, by omega, by go_num, _, K4.out, KF2.out.1, KF2.out.2⟩
        case measure => simp [intOf]; omega
      · have t1 : decide (id < (n : Int)) = false := by simpa using hid
        go_wp2_with fail
        go_roundw
        case rel => exact ⟨k + 1, by omega, by go_num, S, KL.out.alloc _, KF.out, KBs.out⟩
        case measure => simp [intOf]; omega
    · have hke : k = lo := by omega
      subst hke
      have HI := Lib.hid (images_lay L hF)
      have KF := Lib.hid hF
      have KBs := Lib.hid hBs
      have KL := Lib.hid L
      have hbz := hbl.size
      have hlen : (imgs S S.keys).length ≤ 1024 := by
        have a1 := imgs_len S S.keys
        have a2 := Vol.keys_len S
        have a3 := hF.ok.len
        omega
      have HSt := Lib.hid (imgs_rise hF.once)
      have HFit := Lib.hid (imgs_fit hF)
      clear L hF hBs hbl K3
      obtain ⟨w3, rfl⟩ : ∃ w3 : World, w3 = wr := ⟨_, rfl⟩
      go_wp2_with fail
      refine HI.out.mono ?_; rintro e w4 ⟨v, rfl, L4, hb4, ho4⟩
      have K4 := Lib.hid L4
      clear L4 hb4
      generalize imgs S S.keys = I at *
      have K5 := Lib.hid ho4
      obtain ⟨vp, vc, hv⟩ : ∃ vp vc, v = .slice vp I.length vc := by
        rcases ownsRow_forms ho4 with ⟨h1, h2⟩ | ⟨g, c, h1⟩
        · exact ⟨_, _, by rw [h1, h2]⟩
        · exact ⟨_, _, h1⟩
      subst hv
      clear ho4
      go_wp2_with fail
      go_loopw [57] (fun i wr => ∃ j : Nat, j ≤ I.length ∧ i = .int .i64 j ∧ ∃ q, wr = w4.drewN q) (fun i _ => I.length - (intOf i).toNat)
      case atStart => exact ⟨0, by omega, rfl, 0, rfl⟩
      case round =>
        obtain ⟨j, hj, rfl, q, rfl⟩ := hrel
        by_cases hlt : j < I.length
        · obtain ⟨g, hg⟩ : ∃ g, vp = some ⟨g, 0, none⟩ := by
            obtain ⟨g, cap, hv⟩ := ownsRow_form K5.out (by omega)
            simp only [Value.slice.injEq] at hv
            exact ⟨g, hv.1⟩
          subst hg
          cases j with
          | zero =>
            have e0 : ((0 : Nat) : Int) = 0 := rfl
            rw [e0]
            clear e0
            go_wp2_with fail
            go_quiet (fail)
            go_wp2_with fail
            go_roundw
            case rel => exact ⟨1, by omega, by go_num, _, rfl⟩
            case measure => simp [intOf]; omega
          | succ j =>
            have hc1 := (K5.out.cellAt ((j + 1) * 17) (by omega)).trans (imgRow_head I (j + 1) hlt)
            have hc0 := (K5.out.cellAt (j * 17) (by omega)).trans (imgRow_head I j (by omega))
            have hs := rise_step HSt.out j hlt
            generalize I[j].1 = x0 at *
            generalize I[j + 1].1 = x1 at *
            have t1 : decide (x1 ≤ x0) = false := by simp; omega
            have ej : ((j + 1 : Nat) : Int) = (j : Int) + 1 := by omega
            have hj1 : (j : Int) + 1 < (I.length : Int) := by omega
            have hj2 : (j : Int) < (I.length : Int) := by omega
            rw [ej]
            clear ej hs
            go_wp2_with fail
            go_quiet (fail)
            go_wp2_with fail
            go_roundw
            case rel => exact ⟨j + 2, by omega, by go_num, _, rfl⟩
            case measure => simp [intOf]; omega
        · have hje : j = I.length := by omega
          subst hje
          obtain ⟨mb, pb', hst, hnb, hnm, hnh, hnp⟩ := K4.out.at'
          have hsh := hst.2.2.1
          rw [KBs.out] at hsh HFit
          have lS := hst.lt
          have HSh : Hid (ShelfAt (w4.drewN q) hb pb' (List.replicate n Pg.zero)) := Lib.hid hsh
          have KO : Hid ((w4.drewN q).ownsRow w3.heap.size 48 17 (.slice vp I.length vc) I.length (imgRow I)) := Lib.hid K5.out
          have KB4 : Hid (Below w.heap.size w (w4.drewN q)) := Lib.hid (below_drewN K4.out.low q)
          have hpb : w.heap.size ≤ pb' := Nat.le_of_not_lt hnp
          have hz4 : w.heap.size ≤ w4.heap.size := K4.out.low.size
          have lh : hb < (w4.drewN q).heap.size := lS.2.2.1
          have lp : pb' < (w4.drewN q).heap.size := lS.2.2.2
          obtain ⟨i0, hi, hz0', hz1', hz2'⟩ := info_parts infoImg
          have HBad := Lib.hid (fun (w' : World) v B hs hv => apply_bad hb pb' (List.replicate n Pg.zero) (I ++ [((n : Int), Pg.zero)]) v B w' hs I.length (by simp) (fun i hi h => by
            have := HFit.out (I[i]'hi) (List.getElem_mem hi)
            rw [List.getElem_append_left hi]
            exact this) (fun h => by
            rw [List.getElem_append_right (by omega)]
            simp) hv (by simp; omega))
          have HOk := Lib.hid (fun (w' : World) v B hs hv => apply_ok hb pb' (List.replicate n Pg.zero) I v B w' hs HFit.out hv (by omega))
          have HGt := Lib.hid (fun (w' : World) (hs : ShelfAt w' hb pb' (List.replicate n Pg.zero)) id => shelfGet_any hb pb' (List.replicate n Pg.zero) id w' hs)
          have HRl := imgRow_len I
          have hz5 : w4.heap.size = (w4.drewN q).heap.size := rfl
          clear hst hnb hnm hnh hnp hsh lS K4 K5 HSt HFit HI KL KF KBs
          obtain ⟨w5, hw5⟩ : ∃ w5, w4.drewN q = w5 := ⟨_, rfl⟩
          rw [hw5] at HSh KO KB4 lh lp hz5 ⊢
          clear hw5
          cases hvp : vp with
          | none =>
            have h00 : I.length = 0 ∧ vc = 0 := by
              rcases ownsRow_forms KO.out with ⟨a1, a2⟩ | ⟨g, c, a1⟩
              · rw [hvp] at a1
                simp only [Value.slice.injEq, true_and] at a1
                exact a1
              · rw [hvp] at a1; simp at a1
            obtain ⟨h01, h02⟩ := h00
            subst h02
            rw [hvp] at KO
            have hIe : I = [] := List.eq_nil_of_length_eq_zero h01
            subst hIe
            subst hvp
            clear h01
            have HN0 := World.ownsRow_nil w5 w5.heap.size 48 17
            go_wp2_with (first | (at_builtin; refine wpList_append_own_none rfl _ _ 46 rfl w5.heap.size 48 i0 17 Try.underlying46 hi _ _ _ rfl HN0 rfl ?_) | (at_builtin; refine wpList_append_own _ rfl _ _ 46 rfl w5.heap.size 48 i0 _ 17 184 Try.underlying46 hi hz0' hz1' hz2' rfl (by decide) _ _ _ rfl (HN0.alloc _) ⟨w5.heap.size, 0, none⟩ 1 1 (imgCs (n : Int) Pg.zero).toList rfl rfl ?d1 ?d2 ?d3 ?d4 ?d5 ?_))
            case d1 =>
              have hn := heap_alloc_new w5 (.cells (imgCs (n : Int) Pg.zero) 48)
              exact World.news_of_block hn
            case d2 => intro u hu; simp [imgCs] at hu; rcases hu with rfl | rfl | rfl | rfl | rfl | rfl | rfl | rfl | rfl | rfl | rfl | rfl | rfl | rfl | rfl | rfl | rfl <;> rfl
            case d3 => simp only [maxLen]; omega
            case d4 => omega
            case d5 => (simp only [World.size_alloc]; omega)
            intro v7 w7 hown7 hgrow7 _
            have hrow7 : w7.ownsRow w5.heap.size 48 17 v7 (([] : List (Int × Pg)) ++ [((n : Int), Pg.zero)]).length (imgRow (([] : List (Int × Pg)) ++ [((n : Int), Pg.zero)])) := by
              rw [imgRow_snoc, List.length_append]; exact hown7
            have B7 : Below w5.heap.size w5 w7 := ((Below.refl w5.heap.size w5).alloc ((Below.refl w5.heap.size w5).size) (.cells (imgCs (n : Int) Pg.zero) 48)).grown hgrow7 (by simp only [World.size_alloc]; omega) (fun q hq => (HN0.lt q hq).1)
            have KB7 := Lib.hid B7
            have KR7 := Lib.hid hrow7
            clear hown7 hgrow7 hrow7 B7
            go_wp2_with fail
            refine (HBad.out _ _ _ (HSh.out.below KB7.out lh lp) KR7.out).mono ?_; rintro e w8 ⟨rfl, hb8⟩
            have KB8 := Lib.hid (KB7.out.trans (hb8.mono KB7.out.size))
            clear hb8
            go_wp2_with fail
            go_loopw [87] (fun i wr => ∃ j : Nat, j ≤ n ∧ i = .int .i64 j ∧ Below w5.heap.size w5 wr) (fun i _ => n - (intOf i).toNat)
            case atStart => exact ⟨0, by omega, rfl, KB8.out⟩
            case round =>
              obtain ⟨j, hj, rfl, hbr⟩ := hrel
              have hzr := hbr.size
              by_cases hlt : j < n
              · have hc := HGt.out _ (HSh.out.below hbr lh lp) (j : Int)
                have e1 : shelfPg (List.replicate n Pg.zero) (j : Int) = Pg.zero := by
                  unfold shelfPg
                  rw [if_pos (by omega)]
                  simp [List.getD, List.getElem?_replicate, hlt]
                rw [e1] at hc
                have HC := Lib.hid hc
                have HBr := Lib.hid hbr
                have hpe := pgEq_self Pg.zero
                clear hc hbr e1
                go_wp2_with fail
                refine HC.out.mono ?_; rintro e w9 ⟨rfl, hb9⟩
                have KB9 := Lib.hid (HBr.out.trans (hb9.mono hzr))
                have hz9 := KB9.out.size
                clear hb9
                go_wp2_with fail
                go_roundw
                case rel => exact ⟨j + 1, by omega, by go_num, KB9.out.alloc hz9 _⟩
                case measure => simp [intOf]; omega
              · have hje : j = n := by omega
                subst hje
                have HC := Lib.hid (HOk.out _ _ _ (HSh.out.below hbr lh lp) (own_low KO.out hbr))
                have KBr := Lib.hid (KB4.out.trans (hbr.mono (hz5 ▸ hz4)))
                clear hbr
                go_wp2_with fail
                refine HC.out.mono ?_; rintro e w9 ⟨rfl, hg9, -⟩
                have KB9 := Lib.hid (KBr.out.grown hg9 KBr.out.size (fun q hq => by cases hq; exact hpb))
                clear hg9
                go_wp2_with fail
                go_ret
                exact ⟨rfl, KB9.out⟩
          | some a =>
            have h00 : ∃ g, vp = some ⟨g, 0, none⟩ := by
              rcases ownsRow_forms KO.out with ⟨a1, a2⟩ | ⟨g, c, a1⟩
              · rw [hvp] at a1; simp at a1
              · simp only [Value.slice.injEq] at a1
                exact ⟨g, a1.1⟩
            obtain ⟨g, hg⟩ := h00
            rw [hg] at KO hvp
            cases hvp
            subst hg
            have HN0 := World.ownsRow_nil w5 w5.heap.size 48 17
            have hsrc : ∀ j u, (imgRow I)[j]? = some u → w5.cell? ((⟨g, 0, none⟩ : Addr).add j) = some u := KO.out.cells rfl
            have hone : ∀ u ∈ imgRow I, u.oneCell' = true := by
              intro u hu
              unfold imgRow at hu
              obtain ⟨x, hx, hu⟩ := List.mem_flatMap.1 hu
              simp [imgCs] at hu
              rcases hu with rfl | rfl | rfl | rfl | rfl | rfl | rfl | rfl | rfl | rfl | rfl | rfl | rfl | rfl | rfl | rfl | rfl <;> rfl
            have HSrc := Lib.hid hsrc
            have HOne := Lib.hid hone
            clear hsrc hone
            go_wp2_with (at_builtin; refine wpList_append_own _ rfl _ _ 46 rfl w5.heap.size 48 i0 _ 17 184 Try.underlying46 hi hz0' hz1' hz2' rfl (by decide) _ _ _ rfl HN0 ⟨g, 0, none⟩ I.length vc (imgRow I) rfl HRl HSrc.out HOne.out ?c3 ?c4 ?c5 ?_)
            case c3 => simp only [maxLen]; omega
            case c4 => omega
            case c5 => first | omega | (simp; omega)
            intro v6 w6 hown6 hgrow6 _
            have B6 : Below w5.heap.size w5 w6 := (Below.refl w5.heap.size w5).grown hgrow6 (Nat.le_refl _) (fun q hq => by cases hq)
            have hrow6 : w6.ownsRow w5.heap.size 48 17 v6 I.length (imgRow I) := by
              simpa using hown6
            clear hown6 hgrow6 HN0
            go_wp2_with (at_builtin; refine wpList_append_own _ rfl _ _ 46 rfl w5.heap.size 48 i0 _ 17 184 Try.underlying46 hi hz0' hz1' hz2' rfl (by decide) _ _ _ rfl (hrow6.alloc _) ⟨w6.heap.size, 0, none⟩ 1 1 (imgCs (n : Int) Pg.zero).toList rfl rfl ?d1 ?d2 ?d3 ?d4 ?d5 ?_)
            case d1 =>
              have hn := heap_alloc_new w6 (.cells (imgCs (n : Int) Pg.zero) 48)
              exact World.news_of_block hn
            case d2 => intro u hu; simp [imgCs] at hu; rcases hu with rfl | rfl | rfl | rfl | rfl | rfl | rfl | rfl | rfl | rfl | rfl | rfl | rfl | rfl | rfl | rfl | rfl <;> rfl
            case d3 => simp only [maxLen]; omega
            case d4 => omega
            case d5 => (have hq7 := B6.size; simp only [World.size_alloc]; omega)
            intro v7 w7 hown7 hgrow7 _
            have hrow7 : w7.ownsRow w5.heap.size 48 17 v7 (I ++ [((n : Int), Pg.zero)]).length (imgRow (I ++ [((n : Int), Pg.zero)])) := by
              rw [imgRow_snoc, List.length_append]; exact hown7
            have B7 : Below w5.heap.size w5 w7 := (B6.alloc (B6.size) (.cells (imgCs (n : Int) Pg.zero) 48)).grown hgrow7 (by have := B6.size; simp only [World.size_alloc]; omega) (fun q hq => (hrow6.lt q hq).1)
            have KB7 := Lib.hid B7
            have KR7 := Lib.hid hrow7
            clear hown7 hgrow7 hrow7 B7
            go_wp2_with fail
            refine (HBad.out _ _ _ (HSh.out.below KB7.out lh lp) KR7.out).mono ?_; rintro e w8 ⟨rfl, hb8⟩
            have KB8 := Lib.hid (KB7.out.trans (hb8.mono KB7.out.size))
            clear hb8
            go_wp2_with fail
            go_loopw [87] (fun i wr => ∃ j : Nat, j ≤ n ∧ i = .int .i64 j ∧ Below w5.heap.size w5 wr) (fun i _ => n - (intOf i).toNat)
            case atStart => exact ⟨0, by omega, rfl, KB8.out⟩
            case round =>
              obtain ⟨j, hj, rfl, hbr⟩ := hrel
              have hzr := hbr.size
              by_cases hlt : j < n
              · have hc := HGt.out _ (HSh.out.below hbr lh lp) (j : Int)
                have e1 : shelfPg (List.replicate n Pg.zero) (j : Int) = Pg.zero := by
                  unfold shelfPg
                  rw [if_pos (by omega)]
                  simp [List.getD, List.getElem?_replicate, hlt]
                rw [e1] at hc
                have HC := Lib.hid hc
                have HBr := Lib.hid hbr
                have hpe := pgEq_self Pg.zero
                clear hc hbr e1
                go_wp2_with fail
                refine HC.out.mono ?_; rintro e w9 ⟨rfl, hb9⟩
                have KB9 := Lib.hid (HBr.out.trans (hb9.mono hzr))
                have hz9 := KB9.out.size
                clear hb9
                go_wp2_with fail
                go_roundw
                case rel => exact ⟨j + 1, by omega, by go_num, KB9.out.alloc hz9 _⟩
                case measure => simp [intOf]; omega
              · have hje : j = n := by omega
                subst hje
                have HC := Lib.hid (HOk.out _ _ _ (HSh.out.below hbr lh lp) (own_low KO.out hbr))
                have KBr := Lib.hid (KB4.out.trans (hbr.mono (hz5 ▸ hz4)))
                clear hbr
                go_wp2_with fail
                refine HC.out.mono ?_; rintro e w9 ⟨rfl, hg9, -⟩
                have KB9 := Lib.hid (KBr.out.grown hg9 KBr.out.size (fun q hq => by cases hq; exact hpb))
                clear hg9
                go_wp2_with fail
                go_ret
                exact ⟨rfl, KB9.out⟩

set_option maxHeartbeats 2000000 in
set_option maxRecDepth 100000 in
theorem all_walk (n : Int) (vo : Option Addr) (lo co : Nat) (O : List (Int × Pg)) (w : World) (hO : ImgsIn w vo lo O) :
    Calls Try.prog 6 #[.int .i64 n, .slice vo lo co] w fun e w' => e = .returned (.bool true) ∧ Below w.heap.size w w' := by
  have HA := Lib.hid (fun (w' : World) => awake13 w')
  by_cases h : n < 1 ∨ 1024 < n
  · have HM := Lib.hid (fun (w' : World) => memory_bad n h w')
    clear h hO
    go_enter Try.func6, Try.ntmps6
    go_wp2_with fail
    refine (HA.out _).mono ?_; rintro e w0 ⟨rfl, hb0⟩
    have K0 := Lib.hid hb0
    clear hb0
    go_wp2_with fail
    refine (HM.out _).mono ?_; rintro e w1 ⟨rfl, rfl⟩
    go_wp2_with fail
    go_ret
    exact ⟨rfl, K0.out⟩
  · obtain ⟨k, rfl⟩ := Int.eq_ofNat_of_zero_le (show 0 ≤ n by omega)
    by_cases h2 : 100 < (k : Int)
    · have HM := Lib.hid (fun (w' : World) => memory_ok k (by omega) (by omega) w')
      have t2 : decide (100 < k) = true := by simp; omega
      clear h hO
      go_enter Try.func6, Try.ntmps6
      go_wp2_with fail
      refine (HA.out _).mono ?_; rintro e w0 ⟨rfl, hb0⟩
      have K0 := Lib.hid hb0
      have hz0 := hb0.size
      clear hb0
      go_wp2_with fail
      refine (HM.out _).mono ?_; rintro e w1 ⟨hb, pb, rfl, hb1, q1, q2, hs1⟩
      have K1 := Lib.hid (K0.out.trans (hb1.mono hz0))
      clear hb1 hs1
      go_wp2_with fail
      go_ret
      exact ⟨rfl, K1.out⟩
    · exact all_good k (by omega) (by omega) vo lo co O w hO
end Go.Proofs.Ythehglhbgplfhaa
