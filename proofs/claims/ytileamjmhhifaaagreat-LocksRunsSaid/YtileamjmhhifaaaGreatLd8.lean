/-
  Layer 9 (locks): the walk of the document's Release.
-/
import Derived.Test.YtileamjmhhifaaaGreatLd6
import Derived.Test.YtileamjmhhifaaaGreatPkE
import Derived.Test.YtileamjmhhifaaaGreatPkC
namespace Go.Proofs.YtileamjmhhifaaaGreat
open Go.RowKit Go.Joins Go.Sort Go.Shelf
set_option linter.unusedVariables false
set_option linter.unusedSimpArgs false

theorem drl_len (r : Dr) : r.l.length = 6 := rfl
theorem drl_one (r : Dr) : ∀ v ∈ r.l, v.oneCell' = true := by
  intro v hv
  simp [Dr.l, Dr.cs] at hv
  rcases hv with rfl | rfl | rfl | rfl | rfl | rfl <;> rfl
theorem infoDr : (Tryz.prog.info? 69).map (fun i => (i.zero, i.size, i.bytes)) = some (some (.agg #[.int .i64 0, .string ⟨#[]⟩, .int .i64 0, .int .i64 0, .int .i64 0, .int .i64 0]), 6, 56) := by kernel_rfl
/-- what is the document's table's -/
def OD (tb : Nat) (rv : Value) (i : Nat) : Prop := i = tb ∨ rv.ownBlock = some i
theorem own_mono9 {w : World} {base base' : Nat} {e : TypeId} {k n : Nat} {v : Value} {xs : List Value} (h : w.ownsRow base e k v n xs) (hb : base' ≤ base) : w.ownsRow base' e k v n xs :=
  ⟨h.1, h.2.imp id fun ⟨g, cap, cur, e1, e2, e3⟩ => ⟨g, cap, cur, e1, Nat.le_trans hb e2, e3⟩⟩
theorem own_beside {w w' : World} {base base2 : Nat} {e1 e2 : TypeId} {k1 k2 n1 n2 : Nat} {v1 v2 : Value} {xs1 xs2 : List Value} (h1 : w.ownsRow base e1 k1 v1 n1 xs1) (h2 : w.ownsRow base2 e2 k2 v2 n2 xs2) (hne : e1 ≠ e2) (hg : w.grownBy w' v2.ownBlock) : w'.ownsRow base e1 k1 v1 n1 xs1 :=
  own_keep h1 fun g hg' => hg.block g (h1.lt g hg').2 fun e => by
    obtain ⟨c, hc⟩ := own_blkv h2 e.symm
    obtain ⟨c', hc'⟩ := own_blkv h1 hg'
    rw [hc] at hc'
    simp only [Option.some.injEq, Obj.cells.injEq] at hc'
    exact hne hc'.2.1.symm
theorem remD_succ (x : Int) (R : List Dr) (i : Nat) (hi : i < R.length) : remD x (R.take (i + 1)) = remD x (R.take i) ++ if R[i].x = x then [] else [R[i]] := by
  unfold remD
  rw [List.take_succ_eq_append_getElem hi, List.filter_append]
  congr 1
  by_cases h : R[i].x = x
  · rw [if_pos h]; simp [h]
  · rw [if_neg h]; simp [h]
theorem namesD_succ (x : Int) (R : List Dr) (i : Nat) (hi : i < R.length) : namesD x (R.take (i + 1)) = namesD x (R.take i) ++ if R[i].x = x then [R[i].n] else [] := by
  unfold namesD
  rw [List.take_succ_eq_append_getElem hi, List.filter_append, List.map_append]
  congr 1
  by_cases h : R[i].x = x
  · rw [if_pos h]; simp [h]
  · rw [if_neg h]; simp [h]
theorem remD_le (x : Int) (R : List Dr) : (remD x R).length ≤ R.length := List.length_filter_le ..
theorem namesD_le (x : Int) (R : List Dr) : (namesD x R).length ≤ R.length := by unfold namesD; rw [List.length_map]; exact List.length_filter_le ..
theorem DAt.lay {w : World} {B tb : Nat} {rv v : Value} {R L : List Dr} {T : Int} (h : DAt w B tb rv R T) (ho : w.ownsRow B 69 6 v L.length (L.flatMap Dr.l)) (hl : L.length ≤ 2000) : DAt (w.setCell ⟨tb, 0, none⟩ v) B tb v L T := by
  refine ⟨h.lo, ?_, own_keep ho fun g hg => setCell_far9 w _ _ g fun e => ?_, hl⟩
  · have := setCell_block9 h.at_ 0 v
    rw [this]; rfl
  · obtain ⟨c, hc⟩ := own_blkv ho hg
    have e2 : tb = g := e
    rw [← e2, h.at_] at hc
    simp only [Option.some.injEq, Obj.cells.injEq] at hc
    exact absurd hc.2.1 (by decide)
section
variable {w : World} {B tb : Nat} {rv : Value} {R : List Dr} {T T0 : Int}
set_option maxHeartbeats 16000000 in
set_option maxRecDepth 100000 in
theorem drelease_any (h : DAt w B tb rv R T) (ho : DOk R T0) (hB : B ≤ w.heap.size) (x : Int) :
    Calls Tryz.prog 7 #[.pointer (some ⟨tb, 0, none⟩), .int .i64 x] w fun e w' => e = .returned (.tuple #[]) ∧ ∃ R' rv', GivesAll (namesD x R) (remD x R) R' ∧ R'.length ≤ R.length ∧ DAt w' B tb rv' R' T ∧ Kept (OD tb rv) (OD tb rv') w w' := by
  obtain ⟨a, c, rfl, ha⟩ := h.form
  have HD := Lib.hid h
  have HOK := Lib.hid ho
  have hlen := h.len
  have c0 := h.hd
  have HBB := Lib.hid hB
  clear h ho hB
  go_enter Tryz.func7, Tryz.ntmps7
  go_wp2_with fail
  go_loopw [4, 5, 6] (fun tl tn ti wr => ∃ (i : Nat) (L : List Dr) (N : List Nm), i ≤ R.length ∧ ti = .int .i64 i ∧ wr.ownsRow w.heap.size 69 6 tl L.length (L.flatMap Dr.l) ∧ L = remD x (R.take i) ∧ wr.ownsRow w.heap.size 31 2 tn N.length (N.flatMap nmL) ∧ N = namesD x (R.take i) ∧ Below w.heap.size w wr) (fun _ _ ti _ => R.length - (intOf ti).toNat)
  case atStart => exact ⟨0, [], [], by omega, rfl, ⟨rfl, .inl ⟨rfl, rfl⟩⟩, by simp [remD], ⟨rfl, .inl ⟨rfl, rfl⟩⟩, by simp [namesD], Below.refl _ _⟩
  case round =>
    obtain ⟨i, L, N, hi, rfl, hL, eL, hN, eN, hb⟩ := hrel
    obtain ⟨wo, rfl⟩ : ∃ wo : World, wo = wr := ⟨_, rfl⟩
    have HDo := Lib.hid (HD.out.below hb)
    have HB := Lib.hid hb
    have HL := Lib.hid hL
    have HN := Lib.hid hN
    have HEL := Lib.hid eL
    have HEN := Lib.hid eN
    have hz := hb.size
    have d0 := HDo.out.hd
    have hLl : L.length ≤ 10000000000 := by rw [eL]; exact Nat.le_trans (remD_le _ _) (by rw [List.length_take]; omega)
    have hNl : N.length ≤ 10000000000 := by rw [eN]; exact Nat.le_trans (namesD_le _ _) (by rw [List.length_take]; omega)
    clear hb hL hN eL eN c0
    by_cases hlt : i < R.length
    · obtain ⟨g, rfl, hBg, hgl⟩ := ha (by omega)
      have hik : (i : Int) < (R.length : Int) := by omega
      have hi0 : (0 : Int) ≤ (i : Int) := by omega
      have hgl2 : g < wo.heap.size := by omega
      have k0 := HDo.out.cell i 0 hlt (.int .i64 R[i].n.s) rfl
      have k1 := HDo.out.cell i 1 hlt (.string R[i].n.i) rfl
      have k2 := HDo.out.cell i 2 hlt (.int .i64 R[i].x) rfl
      have k3 := HDo.out.cell i 3 hlt (.int .i64 R[i].m) rfl
      have k4 := HDo.out.cell i 4 hlt (.int .i64 R[i].w) rfl
      have k5 := HDo.out.cell i 5 hlt (.int .i64 R[i].t) rfl
      simp only [Nat.add_zero] at k0
      have hes := remD_succ x R i hlt
      have hns := namesD_succ x R i hlt
      have HLT : Hid (i < R.length ∧ R.length ≤ 2000) := Lib.hid ⟨hlt, hlen⟩
      generalize R[i] = r at *
      obtain ⟨⟨rs, ri⟩, rx, rm, rw', rt⟩ := r
      simp only at k0 k1 k2 k3 k4 k5 hes hns
      by_cases e1 : rx = x
      · subst e1
        rw [if_pos rfl] at hes hns
        have HES := Lib.hid hes
        have HNS := Lib.hid hns
        have hb1 : Below wo.heap.size wo (wo.alloc (.cells #[.int .i64 rs, .string ri] 31)) := (Below.refl _ _).alloc (Nat.le_refl _) _
        have hN1 := own_keep HN.out fun g hg => hb1.block g (HN.out.lt g hg).2
        have HL1 := Lib.hid (own_keep HL.out fun g hg => hb1.block g (HL.out.lt g hg).2)
        have hon : (wo.alloc (.cells #[.int .i64 rs, .string ri] 31)).ownsRow wo.heap.size 31 2 (.slice (some ⟨wo.heap.size, 0, none⟩) 1 1) [(⟨rs, ri⟩ : Nm)].length ([(⟨rs, ri⟩ : Nm)].flatMap nmL) := own_one nmL 2 nmL_len 31 wo ⟨rs, ri⟩
        have hz1 : w.heap.size ≤ (wo.alloc (.cells #[.int .i64 rs, .string ri] 31)).heap.size := by rw [World.size_alloc]; omega
        have HB1 := Lib.hid (HB.out.trans (hb1.mono hz))
        have HN1 := Lib.hid hN1
        clear hes hns hb1
        go_wp2_with (at_builtin; refine app_rows nmL 2 24 31 67 _ nmL_len nmL_one Tryz.underlying67 infoNm rfl (by decide) (by decide) rfl _ _ rfl w.heap.size _ _ (.slice (some ⟨wo.heap.size, 0, none⟩) 1 1) N [⟨rs, ri⟩] rfl hN1 rfl hon hNl (by simp) hz1 ?_)
        intro v11 w11 ho11 hg11
        have HO11 : Hid (w11.ownsRow w.heap.size 31 2 v11 (N ++ [(⟨rs, ri⟩ : Nm)]).length ((N ++ [(⟨rs, ri⟩ : Nm)]).flatMap nmL)) := Lib.hid (by simpa using ho11)
        have HL11 := Lib.hid (own_beside HL1.out HN1.out (by decide) hg11)
        have HB11 := Lib.hid (HB1.out.grown hg11 hz1 fun q hq => (HN1.out.lt q hq).1)
        clear hN1 hon ho11 hg11 hz1
        go_wp2_with fail
        exact ⟨⟨i + 1, L, N ++ [⟨rs, ri⟩], by have := HLT.out; omega, by have := HLT.out; go_num, HL11.out, by rw [HES.out, ← HEL.out, List.append_nil], HO11.out, by rw [HNS.out, ← HEN.out], HB11.out⟩, by have := HLT.out; simp [intOf]; omega⟩
      · rw [if_neg e1] at hes hns
        have HES := Lib.hid hes
        have HNS := Lib.hid hns
        have e2 : (rx == x) = false := by simpa using e1
        have hb1 : Below wo.heap.size wo (wo.alloc (.cells #[.int .i64 rs, .string ri, .int .i64 rx, .int .i64 rm, .int .i64 rw', .int .i64 rt] 69)) := (Below.refl _ _).alloc (Nat.le_refl _) _
        have hL1 := own_keep HL.out fun g hg => hb1.block g (HL.out.lt g hg).2
        have HN1 := Lib.hid (own_keep HN.out fun g hg => hb1.block g (HN.out.lt g hg).2)
        have hon : (wo.alloc (.cells #[.int .i64 rs, .string ri, .int .i64 rx, .int .i64 rm, .int .i64 rw', .int .i64 rt] 69)).ownsRow wo.heap.size 69 6 (.slice (some ⟨wo.heap.size, 0, none⟩) 1 1) [(⟨⟨rs, ri⟩, rx, rm, rw', rt⟩ : Dr)].length ([(⟨⟨rs, ri⟩, rx, rm, rw', rt⟩ : Dr)].flatMap Dr.l) := own_one Dr.l 6 drl_len 69 wo ⟨⟨rs, ri⟩, rx, rm, rw', rt⟩
        have hz1 : w.heap.size ≤ (wo.alloc (.cells #[.int .i64 rs, .string ri, .int .i64 rx, .int .i64 rm, .int .i64 rw', .int .i64 rt] 69)).heap.size := by rw [World.size_alloc]; omega
        have HB1 := Lib.hid (HB.out.trans (hb1.mono hz))
        have HL1 := Lib.hid hL1
        clear hes hns hb1 e1
        go_wp2_with (at_builtin; refine app_rows Dr.l 6 56 69 27 _ drl_len drl_one Tryz.underlying27 infoDr rfl (by decide) (by decide) rfl _ _ rfl w.heap.size _ _ (.slice (some ⟨wo.heap.size, 0, none⟩) 1 1) L [⟨⟨rs, ri⟩, rx, rm, rw', rt⟩] rfl hL1 rfl hon hLl (by simp) hz1 ?_)
        intro v11 w11 ho11 hg11
        have HO11 : Hid (w11.ownsRow w.heap.size 69 6 v11 (L ++ [(⟨⟨rs, ri⟩, rx, rm, rw', rt⟩ : Dr)]).length ((L ++ [(⟨⟨rs, ri⟩, rx, rm, rw', rt⟩ : Dr)]).flatMap Dr.l)) := Lib.hid (by simpa using ho11)
        have HN11 := Lib.hid (own_beside HN1.out HL1.out (by decide) hg11)
        have HB11 := Lib.hid (HB1.out.grown hg11 hz1 fun q hq => (HL1.out.lt q hq).1)
        clear hL1 hon ho11 hg11 hz1
        go_wp2_with fail
        exact ⟨⟨i + 1, L ++ [⟨⟨rs, ri⟩, rx, rm, rw', rt⟩], N, by have := HLT.out; omega, by have := HLT.out; go_num, HO11.out, by rw [HES.out, ← HEL.out], HN11.out, by rw [HNS.out, ← HEN.out, List.append_nil], HB11.out⟩, by have := HLT.out; simp [intOf]; omega⟩
    · have hie : i = R.length := by omega
      subst hie
      have eL : L = remD x R := by rw [HEL.out, List.take_length]
      have eN : N = namesD x R := by rw [HEN.out, List.take_length]
      have HLl : Hid (L.length ≤ R.length ∧ N.length ≤ R.length) := Lib.hid ⟨by rw [eL]; exact remD_le _ _, by rw [eN]; exact namesD_le _ _⟩
      have HOL : Hid (DOk L T0) := Lib.hid (by rw [eL]; exact HOK.out.rem x)
      have HLe := Lib.hid eL
      have HNe := Lib.hid eN
      obtain ⟨aN, cN, rfl, -, -, haN⟩ := own_cap HN.out
      have htl : wo.frozen? ⟨tb, 0, none⟩ = false := by simp [World.frozen?, HDo.out.at_]
      obtain ⟨aL, cL, rfl, -, -, haL⟩ := own_cap HL.out
      have HLow : Hid (∀ k, (Value.slice aL L.length cL).ownBlock = some k → w.heap.size ≤ k) := Lib.hid fun k hk => (HL.out.lt k hk).1
      have HD8 := Lib.hid (HDo.out.lay (own_mono9 HL.out HBB.out) (by have := HLl.out; omega))
      have HN8 := Lib.hid (own_keep HN.out (w' := wo.setCell ⟨tb, 0, none⟩ (.slice aL L.length cL)) fun g hg => setCell_far9 wo _ _ g fun e => own_ne_bl HN.out HDo.out.at_ (by decide) (hg.trans (congrArg some e.symm)))
      have HM8 : Hid (Moved (OD tb (.slice a R.length c)) w (wo.setCell ⟨tb, 0, none⟩ (.slice aL L.length cL))) := Lib.hid ((Moved.of_below HB.out).setCell (p := ⟨tb, 0, none⟩) (.inl (.inl rfl)) _)
      have hNl2 : N.length ≤ 2000 := by have := HLl.out; omega
      clear eL eN HEL HEN hLl hNl
      go_wp2_with fail
      generalize wo.setCell ⟨tb, 0, none⟩ (.slice aL L.length cL) = W8 at *
      clear d0 htl hz haL
      go_loopw [7] (fun ti wr => ∃ (i : Nat) (R1 : List Dr), i ≤ N.length ∧ ti = .int .i64 i ∧ GivesAll (N.take i) L R1 ∧ R1.length = L.length ∧ DOk R1 T0 ∧ DAt wr B tb (.slice aL L.length cL) R1 T ∧ wr.ownsRow w.heap.size 31 2 (.slice aN N.length cN) N.length (N.flatMap nmL) ∧ Moved (OD tb (.slice a R.length c)) w wr) (fun ti _ => N.length - (intOf ti).toNat)
      case atStart => exact ⟨0, L, by omega, rfl, by rw [List.take_zero]; exact .nil L, rfl, HOL.out, HD8.out, HN8.out, HM8.out⟩
      case round =>
        obtain ⟨i, R1, hi, rfl, hga, hl1, hok1, hd1, hn1, hm1⟩ := hrel
        obtain ⟨wt, rfl⟩ : ∃ wt : World, wt = wr := ⟨_, rfl⟩
        have HGA := Lib.hid hga
        have HL1 := Lib.hid hl1
        have HD1 := Lib.hid hd1
        have HN1 := Lib.hid hn1
        have HM1 := Lib.hid hm1
        have hBt : B ≤ wt.heap.size := Nat.le_trans HBB.out hm1.size
        have HOK1 := Lib.hid hok1
        clear hga hl1 hd1 hn1 hm1 hok1
        by_cases hlt : i < N.length
        · obtain ⟨gN, rfl, hgN, hgNl⟩ := haN.resolve_left (by omega)
          have hik : (i : Int) < (N.length : Int) := by omega
          have hi0 : (0 : Int) ≤ (i : Int) := by omega
          obtain ⟨q0, q1⟩ := nm_cells HN1.out i hlt
          have hTk := List.take_succ_eq_append_getElem hlt
          have HGv := Lib.hid (dgive_any HD1.out HOK1.out hBt N[i])
          have HLT : Hid (i < N.length ∧ N.length ≤ 2000) := Lib.hid ⟨hlt, hNl2⟩
          generalize N[i] = nm at *
          have HTk := Lib.hid hTk
          clear hTk
          go_wp2_with fail
          with_reducible refine HGv.out.mono ?_
          rintro e w9 ⟨rfl, R2, hg, hl2, hd2, hgr⟩
          have HN9 := Lib.hid (own_beside HN1.out HD1.out.own (by decide) hgr)
          have HM9 := Lib.hid (HM1.out.grown hgr fun k hk => .inr (HLow.out k hk))
          have HD9 := Lib.hid hd2
          have HL9 : Hid (R2.length = L.length) := Lib.hid (hl2.trans HL1.out)
          have HO9 := Lib.hid (gives_other hg HOK1.out).1
          have HG9 := Lib.hid (HGA.out.snoc hg)
          clear hg hl2 hd2 hgr q0 q1
          go_wp2_with fail
          exact ⟨⟨i + 1, R2, by have := HLT.out; omega, by have := HLT.out; go_num, by rw [HTk.out]; exact HG9.out, HL9.out, HO9.out, HD9.out, HN9.out, HM9.out⟩, by have := HLT.out; simp [intOf]; omega⟩
        · have hie : i = N.length := by omega
          have HGE : Hid (GivesAll (namesD x R) (remD x R) R1) := Lib.hid (by
            have := HGA.out
            rw [hie, List.take_length, HNe.out, HLe.out] at this
            exact this)
          subst hie
          clear HGA
          go_wp2_with fail
          refine bodyPost_end (results_none rfl _ _ _) rfl ?_
          refine ⟨rfl, R1, .slice aL L.length cL, HGE.out, by have := HL1.out; have := HLl.out; omega, HD1.out, HM1.out, fun k hk => ?_⟩
          rcases hk with e | e
          · exact .inl (.inl e)
          · exact .inr (HLow.out k e)
end
end Go.Proofs.YtileamjmhhifaaaGreat
