/-
  Layer 9 (locks): the walk of LocksFair.
-/
import Derived.Test.YtileamjmhhifaaaLk28
namespace Go.Proofs.Ytileamjmhhifaaa
open Go.RowKit Go.Joins Go.Sort Go.Shelf
set_option linter.unusedVariables false
set_option linter.unusedSimpArgs false

set_option maxHeartbeats 4000000 in
set_option maxRecDepth 100000 in
theorem fair_walk (a : Option Addr) (l cp : Nat) (I : List Ca) (w : World) (hI : CasIn w a l I) :
    Calls Try.prog 6 #[.slice a l cp] w fun e w' => e = .returned (.bool true) ∧ Below w.heap.size w w' := by
  have HI := Lib.hid hI
  have hl9 := hI.1
  clear hI
  go_enter Try.func6, Try.ntmps6
  go_wp2_with fail
  refine (awake9 w).mono ?_
  rintro e w3 ⟨rfl, hb3⟩
  have HNew := Lib.hid (la_new hb3)
  clear hb3
  go_wp2_with fail
  refine HNew.out.mono ?_
  rintro e w4 ⟨t, O4, rfl, l4, -, -⟩
  have HL4 := Lib.hid l4
  clear l4 HNew
  go_upto_block 0 with fail
  go_cut [] (fun wc => ∃ O S, LA w wc t O S 300 ∧ OkS S)
  case first => as_aux_lemma =>
    go_wp2_with fail
    go_loopw [20] (fun ti wr => ∃ (k : Nat) (O : Nat → Prop) (S : LS), k ≤ l ∧ k ≤ 300 ∧ ti = .int .i64 k ∧ LA w wr t O S k ∧ OkS S) (fun ti _ => l - (intOf ti).toNat)
    case atStart => exact ⟨0, O4, LS.empty, by omega, by omega, rfl, HL4.out, OkS.empty⟩
    case round =>
      clear HL4
      obtain ⟨k, O, S, hk, hk2, rfl, la, hal⟩ := hrel
      obtain ⟨wo, rfl⟩ : ∃ wo : World, wo = wr := ⟨_, rfl⟩
      have HL := Lib.hid la
      have HAl := Lib.hid hal
      clear la hal
      by_cases hlt : k < l
      · have hki : decide ((k : Int) < (l : Int)) = true := by simp; omega
        have hkI : k < I.length := by rw [HI.out.2.1]; exact hlt
        obtain ⟨b, off, rfl, hbl, d0, d1, d2, d3⟩ := (HI.out.below HL.out.low).cells k hkI
        generalize I[k] = c at *
        have hz := HL.out.low.size
        by_cases h200 : k = 300
        · have h2b : ((k : Int) == 300) = true := by simp; omega
          have HL2 := Lib.hid (HL.out.alloc (.cells #[.int .i64 c.x, .int .i64 c.n.s, .string c.n.i, .int .i64 c.m] 30))
          subst h200
          go_wp2_with fail
          go_meet
          exact ⟨O, S, HL2.out, HAl.out⟩
        · have h2b : ((k : Int) == 300) = false := by simp; omega
          have HK200 := Lib.hid (show k < 300 by omega)
          have HM5 := Lib.hid (HL.out.mine (.cells #[.int .i64 c.x, .int .i64 c.n.s, .string c.n.i, .int .i64 c.m] 30))
          have HL5 := Lib.hid (HL.out.alloc (.cells #[.int .i64 c.x, .int .i64 c.n.s, .string c.n.i, .int .i64 c.m] 30))
          go_upto_region 8 with fail
          clear d0 d1 d2 d3 hbl HL hz h200 h2b hk2
          generalize wo.heap.size = bx at *
          generalize wo.alloc (.cells #[.int .i64 c.x, .int .i64 c.n.s, .string c.n.i, .int .i64 c.m] 30) = w5 at *
          have c0 : w5.cell? ⟨bx, 0, none⟩ = some (.int .i64 c.x) := (cell_of_block HM5.out.at' 0).trans rfl
          have c1 : w5.cell? ⟨bx, 1, none⟩ = some (.int .i64 c.n.s) := (cell_of_block HM5.out.at' 1).trans rfl
          have c2 : w5.cell? ⟨bx, 2, none⟩ = some (.string c.n.i) := (cell_of_block HM5.out.at' 2).trans rfl
          have c3 : w5.cell? ⟨bx, 3, none⟩ = some (.int .i64 c.m) := (cell_of_block HM5.out.at' 3).trans rfl
          have hl := HM5.out.lt
          have HRl := Lib.hid (la_release HL5.out (by have := HK200.out; omega) c.x)
          have HAs := Lib.hid (la_any HL5.out (by have := HK200.out; omega) c.x c.m c.n HAl.out)
          by_cases hm : c.m = 0
          · have hmb : (c.m == 0) = true := by simp [hm]
            clear HAs
            go_wp2_with fail
            refine HRl.out.mono ?_
            rintro e w7 ⟨rfl, S7, O7, hr, l7, -⟩
            have HL7 := Lib.hid l7
            have HR := Lib.hid hr
            clear l7 hr
            go_wp2_with fail
            exact ⟨⟨k + 1, O7, S7, by omega, by have := HK200.out; omega, by go_num, ⟨HL7.out.lt.mono (by omega), HL7.out.low⟩, HAl.out.rel HR.out⟩, by simp [intOf]; omega⟩
          · have hmb : (c.m == 0) = false := by simp [hm]
            clear HRl
            go_wp2_with fail
            refine HAs.out.mono ?_
            rintro e w7 ⟨r, er, O7, S7, rfl, l7, -, hok⟩
            have HL7 := Lib.hid l7
            have HR := Lib.hid hok
            clear l7 hok
            go_wp2_with fail
            exact ⟨⟨k + 1, O7, S7, by omega, by have := HK200.out; omega, by go_num, HL7.out, HR.out⟩, by simp [intOf]; omega⟩
      · have hki : decide ((k : Int) < (l : Int)) = false := by simp; omega
        go_wp2_with fail
        go_meet
        exact ⟨O, S, ⟨HL.out.lt.mono hk2, HL.out.low⟩, HAl.out⟩
  case rest =>
    obtain ⟨O5, S5, l5, hok5⟩ := hcut
    obtain ⟨w5, rfl⟩ : ∃ w5 : World, w5 = wc := ⟨_, rfl⟩
    obtain ⟨G0, hG0⟩ := l5.lt.tot
    have HL5 := Lib.hid l5
    have HOk5 := Lib.hid hok5
    have HG0 := Lib.hid hG0
    clear l5 hok5 hG0 HL4 HI
    go_wp2_with fail
    go_loopg [] G0 (fun gg wr => ∃ (O : Nat → Prop) (S : LS) (g : Nat), LA w wr t O S 300 ∧ OkS S ∧ Tot S g ∧ g ≤ gg)
    case atStart => exact ⟨O5, S5, G0, HL5.out, HOk5.out, HG0.out, Nat.le_refl _⟩
    case round =>
      clear HL5 HOk5 HG0
      obtain ⟨O, S, g, la, hok, htot, hgg⟩ := hrel
      obtain ⟨wo, rfl⟩ : ∃ wo : World, wo = wr := ⟨_, rfl⟩
      have HL := Lib.hid la
      have HOk := Lib.hid hok
      have HTot := Lib.hid htot
      have HGg := Lib.hid hgg
      have HAll := Lib.hid (lt_all la.lt (by omega))
      clear la hok htot hgg
      go_wp2_with fail
      refine HAll.out.mono ?_
      rintro e w9 ⟨v9, Ns, A, rfl, hoA, hNs, hNm, hall, hb9⟩
      obtain ⟨aA, cA, rfl, hcA, hmA, haA⟩ := own_cap hoA
      have HL9 := Lib.hid (HL.out.below hb9)
      have HoA := Lib.hid hoA
      have HAl := Lib.hid hall
      have HNm := Lib.hid hNm
      have hAl : A.length ≤ 9223372036854775807 := by simp only [maxLen] at hmA; omega
      clear hoA hNs hNm hall hb9 HAll hcA hmA HL
      by_cases hA0 : A.length = 0
      · have hAb : ((A.length : Int) == 0) = true := by rw [hA0]; rfl
        have hA : A = [] := List.length_eq_zero_iff.1 hA0
        have HE : Hid (∀ n, S.q n = ⟨[], []⟩) := Lib.hid (by
          have h := HAl.out
          rw [hA] at h
          exact h.nil_empty HNm.out)
        have HArc := Lib.hid (lt_arcs HL9.out.lt (by omega))
        clear hA hA0
        go_wp2_with fail
        refine HArc.out.mono ?_
        rintro e w12 ⟨v12, R, rfl, ho, -, hmem, hb12⟩
        have hR : R = [] := by
          cases R with
          | nil => rfl
          | cons p r =>
            obtain ⟨n, hn⟩ := (hmem p).1 (List.mem_cons_self ..)
            rw [HE.out n] at hn
            cases hn
        subst hR
        obtain ⟨a10, c10, rfl, -, -, -⟩ := own_cap ho
        have HL12 := Lib.hid (HL9.out.below hb12)
        clear ho hmem hb12 HArc HL9
        go_wp2_with fail
        go_ret
        exact ⟨rfl, HL12.out.low⟩
      · have hAb : ((A.length : Int) == 0) = false := by simp; intro h; rw [h] at hA0; exact hA0 rfl
        clear hA0
        go_wp2_with fail
        go_loopw [7, 54] (fun t7 ti wr => ∃ i : Nat, i ≤ A.length ∧ ti = .int .i64 i ∧ t7 = .bool false ∧ Below w9.heap.size w9 wr ∧ ∀ j (hj : j < A.length), j < i → S.wt A[j].x = true) (fun _ ti _ => A.length - (intOf ti).toNat)
        case atStart => exact ⟨0, by omega, rfl, rfl, Below.refl _ _, fun j _ h => by omega⟩
        case round =>
          obtain ⟨i, hi, rfl, rfl, hb10, hwt⟩ := hrel
          obtain ⟨w10, rfl⟩ : ∃ w10 : World, w10 = wr := ⟨_, rfl⟩
          have HB10 := Lib.hid hb10
          have HWt := Lib.hid hwt
          clear hb10 hwt
          have hz10 := HB10.out.size
          by_cases hlt : i < A.length
          · obtain ⟨gA, rfl, hgA, hgAl⟩ := haA.resolve_left (by omega)
            have hki : decide ((i : Int) < (A.length : Int)) = true := by simp; omega
            have hrow10 := own_keep HoA.out fun g hg => HB10.out.block g (HoA.out.lt g hg).2
            obtain ⟨d0, d1, d2, d3, d4⟩ := ho_cells hrow10 i hlt
            have hgl10 := (hrow10.lt gA rfl).2
            have HHas := Lib.hid (HAl.out.has (List.getElem_mem hlt))
            obtain ⟨x, hx⟩ : ∃ x, A[i] = x := ⟨_, rfl⟩
            rw [hx] at d0 d1 d2 d3 d4 HHas
            have HX := Lib.hid hx
            have hb11 : Below w10.heap.size w10 (w10.alloc (.cells #[.int .i64 x.n.s, .string x.n.i, .int .i64 x.x, .int .i64 x.m, .int .i64 x.w] 47)) := (Below.refl _ _).alloc (Nat.le_refl _) _
            have HL11 := Lib.hid (HL9.out.below (HB10.out.trans (hb11.mono hz10)))
            have HB11 := Lib.hid (HB10.out.trans (hb11.mono hz10))
            have hbx := heap_alloc_new w10 (.cells #[.int .i64 x.n.s, .string x.n.i, .int .i64 x.x, .int .i64 x.m, .int .i64 x.w] 47)
            have HBx := Lib.hid hbx
            clear hx hb11 hbx hrow10
            go_upto_region 19 with fail
            obtain ⟨bx, hbxe⟩ : ∃ bx, w10.heap.size = bx := ⟨_, rfl⟩
            rw [hbxe] at HBx
            rw [hbxe]
            clear d0 d1 d2 d3 d4 hgl10 hbxe hz10
            generalize w10.alloc (.cells #[.int .i64 x.n.s, .string x.n.i, .int .i64 x.x, .int .i64 x.m, .int .i64 x.w] 47) = w11 at *
            obtain ⟨e0, e1, e2, e3, e4⟩ := ho_box HBx.out
            have hbl := (Array.getElem?_eq_some_iff.1 HBx.out).1
            obtain ⟨q, hq⟩ : ∃ q, S.wt x.x = q := ⟨_, rfl⟩
            have HWa : Hid (Calls Try.prog 14 #[.pointer (some ⟨t, 0, none⟩), .int .i64 x.x] w11 fun e w' => e = .returned (.bool q) ∧ Below w11.heap.size w11 w') := Lib.hid (by
              have h := lt_waiting HL11.out.lt x.x
              rw [hq] at h
              exact h)
            have HQ := Lib.hid hq
            clear hq
            cases q with
            | true =>
              go_wp2_with fail
              refine HWa.out.mono ?_
              rintro e w12 ⟨rfl, hb12⟩
              have HB12 := Lib.hid (HB11.out.trans (hb12.mono HB11.out.size))
              clear hb12
              go_wp2_with fail
              refine ⟨⟨i + 1, by omega, by go_num, rfl, HB12.out, fun j hj hji => ?_⟩, by simp [intOf]; omega⟩
              by_cases e : j = i
              · subst e; rw [HX.out]; exact HQ.out
              · exact HWt.out j hj (by omega)
            | false =>
              go_wp2_with fail
              refine HWa.out.mono ?_
              rintro e w12 ⟨rfl, hb12⟩
              have HL12 := Lib.hid (HL11.out.below hb12)
              have HRl := Lib.hid (la_release HL12.out (by omega) x.x)
              have hbx12 := (hb12.block bx hbl).trans HBx.out
              clear hb12 e0 e1 e2 e3 e4 hbl
              obtain ⟨e0, e1, e2, e3, e4⟩ := ho_box hbx12
              have hbl := (Array.getElem?_eq_some_iff.1 hbx12).1
              go_wp2_with fail
              refine HRl.out.mono ?_
              rintro e w13 ⟨rfl, S13, O13, hr, l13, -⟩
              obtain ⟨g', hg', ht'⟩ := HTot.out.rel hr HHas.out
              have HL13 := Lib.hid l13
              have HOk13 := Lib.hid (HOk.out.rel hr)
              have HG' := Lib.hid hg'
              have HT' := Lib.hid ht'
              clear hr l13 hg' ht' hbx12 e0 e1 e2 e3 e4 hbl
              go_wp2_with fail
              go_roundg g'
              case measure => have := HG'.out; have := HGg.out; omega
              case rel => exact ⟨O13, S13, g', HL13.out, HOk13.out, HT'.out, Nat.le_refl _⟩
          · have hki : decide ((i : Int) < (A.length : Int)) = false := by simp; omega
            have HAllW : Hid (∀ r ∈ A, S.wt r.x = true) := Lib.hid fun r hr => by
              obtain ⟨j, hj, rfl⟩ := List.mem_iff_getElem.1 hr
              exact HWt.out j hj (by omega)
            clear HWt
            go_wp2_with fail
            go_loopw [71] (fun ti wr => ∃ k : Nat, k ≤ A.length ∧ ti = .int .i64 k ∧ Below w9.heap.size w9 wr) (fun ti _ => A.length - (intOf ti).toNat)
            case atStart => exact ⟨0, by omega, rfl, HB10.out⟩
            case round =>
              clear HB10 hz10
              obtain ⟨k, hk, rfl, hb14⟩ := hrel
              obtain ⟨w14, rfl⟩ : ∃ w14 : World, w14 = wr := ⟨_, rfl⟩
              have HB14 := Lib.hid hb14
              clear hb14
              have hz14 := HB14.out.size
              by_cases hlt2 : k < A.length
              · obtain ⟨gA, rfl, hgA, hgAl⟩ := haA.resolve_left (by omega)
                have hki2 : decide ((k : Int) < (A.length : Int)) = true := by simp; omega
                have hrow14 := own_keep HoA.out fun g hg => HB14.out.block g (HoA.out.lt g hg).2
                obtain ⟨d0, d1, d2, d3, d4⟩ := ho_cells hrow14 k hlt2
                have hgl14 := (hrow14.lt gA rfl).2
                have HXw := Lib.hid (HAllW.out A[k] (List.getElem_mem hlt2))
                generalize A[k] = x at *
                have hb15 : Below w14.heap.size w14 (w14.alloc (.cells #[.int .i64 x.n.s, .string x.n.i, .int .i64 x.x, .int .i64 x.m, .int .i64 x.w] 47)) := (Below.refl _ _).alloc (Nat.le_refl _) _
                have HB15 := Lib.hid (HB14.out.trans (hb15.mono hz14))
                have HBx := Lib.hid (heap_alloc_new w14 (.cells #[.int .i64 x.n.s, .string x.n.i, .int .i64 x.x, .int .i64 x.m, .int .i64 x.w] 47))
                clear hb15 hrow14
                go_upto_region 28 with fail
                obtain ⟨bx, hbxe⟩ : ∃ bx, w14.heap.size = bx := ⟨_, rfl⟩
                rw [hbxe] at HBx
                rw [hbxe]
                clear d0 d1 d2 d3 d4 hgl14 hbxe hz14
                generalize w14.alloc (.cells #[.int .i64 x.n.s, .string x.n.i, .int .i64 x.x, .int .i64 x.m, .int .i64 x.w] 47) = w15 at *
                have HArc := Lib.hid (lt_arcs (HL9.out.below HB15.out).lt (by omega))
                go_wp2_with fail
                refine HArc.out.mono ?_
                rintro e w16 ⟨v16, R, rfl, hoR, -, hmem, hb16⟩
                obtain ⟨aR, cR, rfl, hcR, hmR, haR⟩ := own_cap hoR
                have HB16 := Lib.hid (HB15.out.trans (hb16.mono HB15.out.size))
                have HBx16 := Lib.hid ((hb16.block bx (Array.getElem?_eq_some_iff.1 HBx.out).1).trans HBx.out)
                have HoR := Lib.hid hoR
                have hRl : R.length ≤ 9223372036854775807 := by simp only [maxLen] at hmR; omega
                have HAny : Hid ((R.any fun p => p.1 == x.x && S.wt p.2) = true) := Lib.hid (by
                  obtain ⟨n, hn⟩ := (HOk.out.wait x.x).1 HXw.out
                  obtain ⟨p, hp, h1, h2⟩ := (HOk.out.ok n).arc hn
                  have hnn : n ∈ Ns := HNm.out n fun h0 => by
                    unfold sizeQ at h0
                    rcases h2 with ⟨g, hg, -⟩ | ⟨y, hy, -⟩
                    · have := List.length_pos_of_mem hg; omega
                    · have := List.length_pos_of_mem hy; omega
                  obtain ⟨r, hr, hrx⟩ := HAl.out.there hnn h2
                  have h3 := HAllW.out r hr
                  rw [hrx] at h3
                  rw [List.any_eq_true]
                  exact ⟨p, (hmem p).2 ⟨n, hp⟩, by simp [h1, h3]⟩)
                clear hoR hmem hb16 HArc hcR hmR HB15 HBx
                go_wp2_with fail
                go_loopw [12, 78] (fun tf ti wr => ∃ j : Nat, j ≤ R.length ∧ ti = .int .i64 j ∧ tf = .bool ((R.take j).any fun p => p.1 == x.x && S.wt p.2) ∧ Below w16.heap.size w16 wr) (fun _ ti _ => R.length - (intOf ti).toNat)
                case atStart => exact ⟨0, by omega, rfl, by simp, Below.refl _ _⟩
                case round =>
                  obtain ⟨j, hj, rfl, rfl, hb17⟩ := hrel
                  obtain ⟨w17, rfl⟩ : ∃ w17 : World, w17 = wr := ⟨_, rfl⟩
                  have HB17 := Lib.hid hb17
                  clear hb17
                  have hbx17 := (HB17.out.block bx (Array.getElem?_eq_some_iff.1 HBx16.out).1).trans HBx16.out
                  obtain ⟨e0, e1, e2, e3, e4⟩ := ho_box hbx17
                  have hbl17 := (Array.getElem?_eq_some_iff.1 hbx17).1
                  by_cases hlt4 : j < R.length
                  · obtain ⟨gR, rfl, hgR, hgRl⟩ := haR.resolve_left (by omega)
                    have hki4 : decide ((j : Int) < (R.length : Int)) = true := by simp; omega
                    have hrow17 := own_keep HoR.out fun g hg => HB17.out.block g (HoR.out.lt g hg).2
                    obtain ⟨g0, g1⟩ := pr_cells hrow17 j hlt4
                    have hgl17 := (hrow17.lt gR rfl).2
                    have HS : Hid (((R.take (j + 1)).any fun p => p.1 == x.x && S.wt p.2) = (((R.take j).any fun p => p.1 == x.x && S.wt p.2) || (R[j].1 == x.x && S.wt R[j].2))) := Lib.hid (by
                      rw [List.take_succ_eq_append_getElem hlt4, List.any_append]; simp)
                    generalize R[j] = p at *
                    have hb18 := HB17.out.alloc HB17.out.size (.cells #[.int .i64 p.1, .int .i64 p.2] 48)
                    have HB18 := Lib.hid hb18
                    have HWa := Lib.hid (lt_waiting (HL9.out.below (HB16.out.trans (hb18.mono HB16.out.size))).lt p.2)
                    obtain ⟨fo, hfo⟩ : ∃ fo, ((R.take j).any fun p => p.1 == x.x && S.wt p.2) = fo := ⟨_, rfl⟩
                    rw [hfo] at HS
                    rw [hfo]
                    clear hfo hrow17 hbx17 hb18
                    cases fo with
                    | true =>
                      go_wp2_with fail
                      exact ⟨⟨j + 1, by omega, by go_num, by rw [HS.out]; rfl, HB18.out⟩, by simp [intOf]; omega⟩
                    | false =>
                      by_cases hpx : p.1 = x.x
                      · have hpb : (p.1 == x.x) = true := by simp [hpx]
                        have HPb := Lib.hid hpb
                        clear hpx
                        go_wp2_with fail
                        refine HWa.out.mono ?_
                        rintro e w19 ⟨rfl, hb19⟩
                        have HB19 := Lib.hid (HB18.out.trans (hb19.mono HB18.out.size))
                        clear hb19
                        go_wp2_with fail
                        exact ⟨⟨j + 1, by omega, by go_num, by rw [HS.out, HPb.out]; simp, HB19.out⟩, by simp [intOf]; omega⟩
                      · have hpb : (p.1 == x.x) = false := by simp [hpx]
                        have HPb := Lib.hid hpb
                        clear hpx
                        go_wp2_with fail
                        exact ⟨⟨j + 1, by omega, by go_num, by rw [HS.out, HPb.out]; rfl, HB18.out⟩, by simp [intOf]; omega⟩
                  · have hki4 : decide ((j : Int) < (R.length : Int)) = false := by simp; omega
                    have hfo : ((R.take j).any fun p => p.1 == x.x && S.wt p.2) = true := by
                      rw [show j = R.length from by omega, List.take_length]; exact HAny.out
                    rw [hfo]
                    have HB20 := Lib.hid (HB16.out.trans (HB17.out.mono HB16.out.size))
                    clear hfo hbx17
                    go_wp2_with fail
                    exact ⟨⟨k + 1, by omega, by go_num, HB20.out⟩, by simp [intOf]; omega⟩
              · have hki2 : decide ((k : Int) < (A.length : Int)) = false := by simp; omega
                have HL14 := Lib.hid (HL9.out.below HB14.out)
                go_wp2_with fail
                go_ret
                exact ⟨rfl, HL14.out.low⟩
end Go.Proofs.Ytileamjmhhifaaa
