/-
  Layer 9 (locks): the walk of LocksTogether.
-/
import Derived.Test.YtileamjmhhifaaaLp3
import Derived.Test.YtileamjmhhifaaaFrame09b
namespace Go.Proofs.Ytileamjmhhifaaa
open Go.RowKit Go.Joins Go.Sort Go.Shelf
set_option linter.unusedVariables false
set_option linter.unusedSimpArgs false

theorem ho_cells {w : World} {B g n c : Nat} {L : List Ho} (h : w.ownsRow B 47 5 (.slice (some ⟨g, 0, none⟩) n c) n (L.flatMap hoL)) (j : Nat) (hj : j < L.length) :
    w.cell? ⟨g, j * 5, none⟩ = some (.int .i64 L[j].n.s) ∧ w.cell? ⟨g, j * 5 + 1, none⟩ = some (.string L[j].n.i) ∧ w.cell? ⟨g, j * 5 + 2, none⟩ = some (.int .i64 L[j].x) ∧ w.cell? ⟨g, j * 5 + 3, none⟩ = some (.int .i64 L[j].m) ∧ w.cell? ⟨g, j * 5 + 4, none⟩ = some (.int .i64 L[j].w) := by
  have hc := h.cells (g := g) rfl
  have hf := flat_get hoL_len L j
  refine ⟨?_, ?_, ?_, ?_, ?_⟩
  · have := hc (j * 5 + 0) _ ((hf 0 hj (by omega)).trans rfl); simpa [Addr.add_lit] using this
  · have := hc (j * 5 + 1) _ ((hf 1 hj (by omega)).trans rfl); simpa [Addr.add_lit] using this
  · have := hc (j * 5 + 2) _ ((hf 2 hj (by omega)).trans rfl); simpa [Addr.add_lit] using this
  · have := hc (j * 5 + 3) _ ((hf 3 hj (by omega)).trans rfl); simpa [Addr.add_lit] using this
  · have := hc (j * 5 + 4) _ ((hf 4 hj (by omega)).trans rfl); simpa [Addr.add_lit] using this
/-- the box of a hold -/
theorem ho_box {w : World} {b : Nat} {h : Ho} (hb : w.heap[b]? = some (.cells #[.int .i64 h.n.s, .string h.n.i, .int .i64 h.x, .int .i64 h.m, .int .i64 h.w] 47)) :
    w.cell? ⟨b, 0, none⟩ = some (.int .i64 h.n.s) ∧ w.cell? ⟨b, 1, none⟩ = some (.string h.n.i) ∧ w.cell? ⟨b, 2, none⟩ = some (.int .i64 h.x) ∧ w.cell? ⟨b, 3, none⟩ = some (.int .i64 h.m) ∧ w.cell? ⟨b, 4, none⟩ = some (.int .i64 h.w) :=
  ⟨(cell_of_block hb 0).trans rfl, (cell_of_block hb 1).trans rfl, (cell_of_block hb 2).trans rfl, (cell_of_block hb 3).trans rfl, (cell_of_block hb 4).trans rfl⟩

set_option maxHeartbeats 4000000 in
set_option maxRecDepth 100000 in
theorem together_walk (a : Option Addr) (l cp : Nat) (I : List Ca) (w : World) (hI : CasIn w a l I) :
    Calls Try.prog 5 #[.slice a l cp] w fun e w' => e = .returned (.bool true) ∧ Below w.heap.size w w' := by
  have HI := Lib.hid hI
  have hl9 := hI.1
  clear hI
  go_enter Try.func5, Try.ntmps5
  go_wp2_with fail
  refine (awake9 w).mono ?_
  rintro e w3 ⟨rfl, hb3⟩
  have HNew := Lib.hid (la_new hb3)
  clear hb3
  go_wp2_with fail
  refine HNew.out.mono ?_
  rintro e w4 ⟨t, O4, rfl, l4, -, -⟩
  have HL4 := Lib.hid l4
  clear l4 HNew
  go_wp2_with fail
  go_loopw [20] (fun ti wr => ∃ (k : Nat) (O : Nat → Prop) (S : LS), k ≤ l ∧ k ≤ 300 ∧ ti = .int .i64 k ∧ LA w wr t O S k ∧ OkS S) (fun ti _ => l - (intOf ti).toNat)
  case atStart => exact ⟨0, O4, LS.empty, by omega, by omega, rfl, HL4.out, OkS.empty⟩
  case round =>
    clear HL4
    obtain ⟨k, O, S, hk, hk2, rfl, la, hal⟩ := hrel
    obtain ⟨wo, rfl⟩ : ∃ wo : World, wo = wr := ⟨_, rfl⟩
    have HL := Lib.hid la
    have HAl := Lib.hid hal
    clear la hal
    by_cases hlt : k < l
    · have hki : decide ((k : Int) < (l : Int)) = true := by simp; omega
      have hkI : k < I.length := by rw [HI.out.2.1]; exact hlt
      obtain ⟨b, off, rfl, hbl, d0, d1, d2, d3⟩ := (HI.out.below HL.out.low).cells k hkI
      generalize I[k] = c at *
      have hz := HL.out.low.size
      by_cases h200 : k = 300
      · have h2b : ((k : Int) == 300) = true := by simp; omega
        have HL2 := Lib.hid (HL.out.alloc (.cells #[.int .i64 c.x, .int .i64 c.n.s, .string c.n.i, .int .i64 c.m] 30))
        subst h200
        go_wp2_with fail
        go_ret
        exact ⟨rfl, HL2.out.low⟩
      · have h2b : ((k : Int) == 300) = false := by simp; omega
        have HK200 := Lib.hid (show k < 300 by omega)
        have HM5 := Lib.hid (HL.out.mine (.cells #[.int .i64 c.x, .int .i64 c.n.s, .string c.n.i, .int .i64 c.m] 30))
        have HL5 := Lib.hid (HL.out.alloc (.cells #[.int .i64 c.x, .int .i64 c.n.s, .string c.n.i, .int .i64 c.m] 30))
        go_upto_region 8 with fail
        clear d0 d1 d2 d3 hbl HL hz h200 h2b hk2
        generalize wo.heap.size = bx at *
        generalize wo.alloc (.cells #[.int .i64 c.x, .int .i64 c.n.s, .string c.n.i, .int .i64 c.m] 30) = w5 at *
        have c0 : w5.cell? ⟨bx, 0, none⟩ = some (.int .i64 c.x) := (cell_of_block HM5.out.at' 0).trans rfl
        have c1 : w5.cell? ⟨bx, 1, none⟩ = some (.int .i64 c.n.s) := (cell_of_block HM5.out.at' 1).trans rfl
        have c2 : w5.cell? ⟨bx, 2, none⟩ = some (.string c.n.i) := (cell_of_block HM5.out.at' 2).trans rfl
        have c3 : w5.cell? ⟨bx, 3, none⟩ = some (.int .i64 c.m) := (cell_of_block HM5.out.at' 3).trans rfl
        have hl := HM5.out.lt
        have HRl := Lib.hid (la_release HL5.out (by have := HK200.out; omega) c.x)
        have HAs := Lib.hid (la_any HL5.out (by have := HK200.out; omega) c.x c.m c.n HAl.out)
        go_upto_if 29 with fail
        go_cut [] (fun wc => ∃ O' S', LA w wc t O' S' (k + 1) ∧ OkS S')
        case first => as_aux_lemma =>
          by_cases hm : c.m = 0
          · have hmb : (c.m == 0) = true := by simp [hm]
            clear HAs
            go_wp2_with fail
            refine HRl.out.mono ?_
            rintro e w7 ⟨rfl, S7, O7, hr, l7, -⟩
            have HL7 := Lib.hid l7
            have HR := Lib.hid hr
            clear l7 hr
            go_wp2_with fail
            go_meet
            exact ⟨O7, S7, ⟨HL7.out.lt.mono (by omega), HL7.out.low⟩, HAl.out.rel HR.out⟩
          · have hmb : (c.m == 0) = false := by simp [hm]
            clear HRl
            go_wp2_with fail
            refine HAs.out.mono ?_
            rintro e w7 ⟨r, er, O7, S7, rfl, l7, -, hok⟩
            have HL7 := Lib.hid l7
            have HR := Lib.hid hok
            clear l7 hok
            go_wp2_with fail
            go_meet
            exact ⟨O7, S7, HL7.out, HR.out⟩
        case rest =>
          obtain ⟨O8, S8, l8, hok8⟩ := hcut
          obtain ⟨w8, rfl⟩ : ∃ w8 : World, w8 = wc := ⟨_, rfl⟩
          have HL8 := Lib.hid l8
          have HOk := Lib.hid hok8
          have HAll := Lib.hid (lt_all l8.lt (by have := HK200.out; omega))
          clear l8 hok8 c0 c1 c2 c3 hl HM5 HL5 HRl HAs
          go_wp2_with fail
          refine HAll.out.mono ?_
          rintro e w9 ⟨v9, Ns, A, rfl, hoA, hNs, -, hall, hb9⟩
          obtain ⟨aA, cA, rfl, hcA, hmA, haA⟩ := own_cap hoA
          have HL9 := Lib.hid (HL8.out.below hb9)
          have HArc := Lib.hid (lt_arcs (HL8.out.below hb9).lt (by have := HK200.out; omega))
          have HTog := Lib.hid (hall.tog HOk.out.ok hNs)
          have HWt : Hid (∀ r ∈ A, r.w ≠ 0 → waitsIn r.x (S8.q r.n)) := Lib.hid fun r hr hw => hall.waits hr hw
          have HoA := Lib.hid hoA
          have HCA := Lib.hid hcA
          have hAl : A.length ≤ 9223372036854775807 := by simp only [maxLen] at hmA; omega
          clear hoA hNs hall hb9 HAll hcA hmA HL8
          go_wp2_with fail
          refine HArc.out.mono ?_
          rintro e w10 ⟨v10, R, rfl, hoR, -, hmem, hb10⟩
          obtain ⟨aR, cR, rfl, hcR, hmR, haR⟩ := own_cap hoR
          have HL10 := Lib.hid (HL9.out.below hb10)
          have HoA2 := Lib.hid (own_keep HoA.out fun g hg => hb10.block g (HoA.out.lt g hg).2)
          have HoR := Lib.hid hoR
          have HArcs : Hid (∀ r ∈ A, r.w ≠ 0 → (∃ p ∈ R, p.1 = r.x) ∧ S8.wt r.x = true) := Lib.hid fun r hr hw => by
            have h1 := HWt.out r hr hw
            obtain ⟨p, hp, h2, -⟩ := (HOk.out.ok r.n).arc h1
            exact ⟨⟨p, (hmem p).2 ⟨r.n, hp⟩, h2⟩, (HOk.out.wait r.x).2 ⟨r.n, h1⟩⟩
          have hRl : R.length ≤ 9223372036854775807 := by simp only [maxLen] at hmR; omega
          clear hoR hmem hb10 HArc hcR hmR HL9 HoA HWt
          go_wp2_with fail
          go_loopw [48] (fun tk wr => ∃ k2 : Nat, k2 ≤ A.length ∧ tk = .int .i64 k2 ∧ Below w10.heap.size w10 wr) (fun tk _ => A.length - (intOf tk).toNat)
          case atStart => exact ⟨0, by omega, rfl, Below.refl _ _⟩
          case round =>
            obtain ⟨k2, hk3, rfl, hb11⟩ := hrel
            obtain ⟨w11, rfl⟩ : ∃ w11 : World, w11 = wr := ⟨_, rfl⟩
            have HB11 := Lib.hid hb11
            clear hb11
            have hz11 := HB11.out.size
            by_cases hlt2 : k2 < A.length
            · obtain ⟨gA, rfl, hgA, hgAl⟩ := haA.resolve_left (by omega)
              have hki2 : decide ((k2 : Int) < (A.length : Int)) = true := by simp; omega
              have hrow11 := own_keep HoA2.out fun g hg => HB11.out.block g (HoA2.out.lt g hg).2
              obtain ⟨d0, d1, d2, d3, d4⟩ := ho_cells hrow11 k2 hlt2
              have hgl11 := (hrow11.lt gA rfl).2
              have hArr := HArcs.out A[k2] (List.getElem_mem hlt2)
              have HTg : Hid (∀ j (hj : j < A.length), k2 < j → A[k2].n = A[j].n → A[k2].m ≠ 0 → A[j].m ≠ 0 → compatL A[k2].m A[j].m = true) := Lib.hid fun j hj hkj => List.pairwise_iff_getElem.1 HTog.out k2 j hlt2 hj hkj
              generalize A[k2] = x at *
              have HArr := Lib.hid hArr
              have hbx12 := heap_alloc_new w11 (.cells #[.int .i64 x.n.s, .string x.n.i, .int .i64 x.x, .int .i64 x.m, .int .i64 x.w] 47)
              have HBx12 := Lib.hid hbx12
              have HB12 := Lib.hid (HB11.out.alloc hz11 (.cells #[.int .i64 x.n.s, .string x.n.i, .int .i64 x.x, .int .i64 x.m, .int .i64 x.w] 47))
              have hcap := HCA.out
              have hwr : IntKind.i64.wrap ((k2 : Int) + 1) = (k2 : Int) + 1 := IntWalk.i64_in _ (by omega)
              clear hrow11 hArr hbx12
              go_upto_region 16 with fail
              obtain ⟨bx2, hbx2⟩ : ∃ bx2, w11.heap.size = bx2 := ⟨_, rfl⟩
              rw [hbx2] at HBx12
              rw [hbx2]
              generalize w11.alloc (.cells #[.int .i64 x.n.s, .string x.n.i, .int .i64 x.x, .int .i64 x.m, .int .i64 x.w] 47) = w12 at *
              clear d0 d1 d2 d3 d4 hgl11 hbx2 hz11
              obtain ⟨r, hr⟩ : ∃ r, A.length - (k2 + 1) = r := ⟨_, rfl⟩
              have HR := Lib.hid hr
              go_cut [56, 57, 58] (fun s56 s57 s58 wc => ∃ o c, s56 = .slice (some ⟨gA, o, none⟩) r c ∧ s57 = .int .i64 (r : Int) ∧ s58 = .int .i64 0 ∧ (o = (k2 + 1) * 5 ∨ r = 0) ∧ wc = w12)
              case first => as_aux_lemma =>
                have h1 : k2 + 1 ≤ cA := by omega
                have h2 : (k2 : Int) + 1 ≤ (cA : Int) := by omega
                have h3 : (0 : Int) ≤ (k2 : Int) + 1 := by omega
                have h4 : k2 + 1 ≤ A.length := by omega
                have h5 : (k2 : Int) + 1 ≤ (A.length : Int) := by omega
                have h6 : ((k2 : Int) + 1).toNat = k2 + 1 := by omega
                by_cases hc1 : cA = k2 + 1
                · go_wp2_with fail
                  go_meet
                  exact ⟨_, _, by first | rfl | rw [HR.out], by first | rfl | rw [HR.out], rfl, .inr (by omega), by first | rfl | trivial⟩
                · go_wp2_with fail
                  go_meet
                  exact ⟨_, _, by first | rfl | rw [HR.out], by first | rfl | rw [HR.out], rfl, .inl rfl, by first | rfl | trivial⟩
              case rest =>
                obtain ⟨o, c9, rfl, rfl, rfl, ho, rfl⟩ := hcut
                obtain ⟨w13, rfl⟩ : ∃ w13 : World, w13 = wc := ⟨_, rfl⟩
                have HO := Lib.hid ho
                have hrl : r ≤ 9223372036854775807 := by omega
                clear ho hwr hcap hr
                have hz13 := HB12.out.size
                go_upto_block 4 with fail
                go_cut [] (fun wc => Below w13.heap.size w13 wc)
                case first => as_aux_lemma =>
                  go_wp2_with fail
                  go_loopw [58] (fun tj wr => ∃ j : Nat, j ≤ r ∧ tj = .int .i64 j ∧ Below w13.heap.size w13 wr) (fun tj _ => r - (intOf tj).toNat)
                  case atStart => exact ⟨0, by omega, rfl, Below.refl _ _⟩
                  case round =>
                    obtain ⟨j, hj, rfl, hb14⟩ := hrel
                    obtain ⟨w14, rfl⟩ : ∃ w14 : World, w14 = wr := ⟨_, rfl⟩
                    have HB14 := Lib.hid hb14
                    clear hb14
                    by_cases hlt3 : j < r
                    · have hki3 : decide ((j : Int) < (r : Int)) = true := by simp; omega
                      have hoe : o = (k2 + 1) * 5 := HO.out.resolve_right (by omega)
                      have hrow14 := own_keep HoA2.out fun g hg => (HB14.out.block g (by have := (HoA2.out.lt g hg).2; omega)).trans (HB12.out.block g (HoA2.out.lt g hg).2)
                      have hlen14 : k2 + 1 + j < A.length := by have := HR.out; omega
                      have hcs := ho_cells hrow14 (k2 + 1 + j) hlen14
                      have hgl14 := (hrow14.lt gA rfl).2
                      have hT := HTg.out (k2 + 1 + j) hlen14 (by omega)
                      rw [show (k2 + 1 + j) * 5 = o + j * 5 from by rw [hoe, Nat.add_mul]] at hcs
                      obtain ⟨d0, d1, d2, d3, d4⟩ := hcs
                      generalize A[k2 + 1 + j] = y at *
                      have HT := Lib.hid hT
                      have hbx14 := (HB14.out.block bx2 (Array.getElem?_eq_some_iff.1 HBx12.out).1).trans HBx12.out
                      obtain ⟨e0, e1, e2, e3, e4⟩ := ho_box hbx14
                      have hbl14 := (Array.getElem?_eq_some_iff.1 hbx14).1
                      have HB15 := Lib.hid (HB14.out.alloc HB14.out.size (.cells #[.int .i64 y.n.s, .string y.n.i, .int .i64 y.x, .int .i64 y.m, .int .i64 y.w] 47))
                      have heqn : ∀ W : World, (Op.equalIn 10000 24 (.agg #[.int .i64 x.n.s, .string x.n.i]) (.agg #[.int .i64 y.n.s, .string y.n.i])).run Try.prog W = .ok (x.n.eqB y.n) W := fun W => run_equalIn_nm x.n y.n W
                      clear hoe hrow14 hlen14 hT hbx14
                      by_cases hn : x.n = y.n
                      · have hnb : x.n.eqB y.n = true := Nm.eqB_iff.2 hn
                        have HN := Lib.hid hn
                        rw [hnb] at heqn
                        clear hn hnb
                        by_cases hm1 : x.m = 0
                        · have hmb1 : (x.m != 0) = false := by simp [hm1]
                          clear hm1
                          go_wp2_with fail
                          exact ⟨⟨j + 1, by omega, by go_num, HB15.out⟩, by simp [intOf]; omega⟩
                        · have hmb1 : (x.m != 0) = true := by simp [hm1]
                          have HM1 := Lib.hid hm1
                          clear hm1
                          by_cases hm2 : y.m = 0
                          · have hmb2 : (y.m != 0) = false := by simp [hm2]
                            clear hm2
                            go_wp2_with fail
                            exact ⟨⟨j + 1, by omega, by go_num, HB15.out⟩, by simp [intOf]; omega⟩
                          · have hmb2 : (y.m != 0) = true := by simp [hm2]
                            have HCo : Hid (∀ W, Calls Try.prog 16 #[.int .i64 x.m, .int .i64 y.m] W fun e w' => e = .returned (.bool true) ∧ w' = W) := Lib.hid fun W => by
                              have h := compat_any x.m y.m W
                              rw [HT.out HN.out HM1.out hm2] at h
                              exact h
                            clear hm2
                            go_wp2_with fail
                            refine (HCo.out _).mono ?_
                            rintro e w15 ⟨rfl, rfl⟩
                            go_wp2_with fail
                            exact ⟨⟨j + 1, by omega, by go_num, HB15.out⟩, by simp [intOf]; omega⟩
                      · have hnb : x.n.eqB y.n = false := by
                          cases hq : x.n.eqB y.n with
                          | false => rfl
                          | true => exact absurd (Nm.eqB_iff.1 hq) hn
                        rw [hnb] at heqn
                        clear hn hnb
                        go_wp2_with fail
                        exact ⟨⟨j + 1, by omega, by go_num, HB15.out⟩, by simp [intOf]; omega⟩
                    · have hki3 : decide ((j : Int) < (r : Int)) = false := by simp; omega
                      go_wp2_with fail
                      go_meet
                      exact HB14.out
                case rest => as_aux_lemma =>
                  obtain ⟨w16, rfl⟩ : ∃ w16 : World, w16 = wc := ⟨_, rfl⟩
                  have hbx16 := (hcut.block bx2 (Array.getElem?_eq_some_iff.1 HBx12.out).1).trans HBx12.out
                  have HBx16 := Lib.hid hbx16
                  have HB16 := Lib.hid (HB12.out.trans (hcut.mono hz13))
                  obtain ⟨e0, e1, e2, e3, e4⟩ := ho_box hbx16
                  have hbl16 := (Array.getElem?_eq_some_iff.1 hbx16).1
                  clear hcut hbx16 HO
                  by_cases hw : x.w = 0
                  · have hwb : (x.w == 0) = true := by simp [hw]
                    clear hw
                    go_wp2_with fail
                    exact ⟨⟨k2 + 1, by omega, by go_num, HB16.out⟩, by simp [intOf]; omega⟩
                  · have hwb : (x.w == 0) = false := by simp [hw]
                    have HA2 := Lib.hid (HArr.out hw)
                    clear hw
                    go_wp2_with fail
                    go_loopw [12, 91] (fun tf ti wr => ∃ i : Nat, i ≤ R.length ∧ ti = .int .i64 i ∧ tf = .bool ((R.take i).any fun p => p.1 == x.x) ∧ Below w16.heap.size w16 wr) (fun _ ti _ => R.length - (intOf ti).toNat)
                    case atStart => exact ⟨0, by omega, rfl, by simp, Below.refl _ _⟩
                    case round =>
                      obtain ⟨i, hi, rfl, rfl, hb17⟩ := hrel
                      obtain ⟨w17, rfl⟩ : ∃ w17 : World, w17 = wr := ⟨_, rfl⟩
                      have HB17 := Lib.hid hb17
                      clear hb17 e0 e1 e2 e3 e4 hbl16
                      have hz16 := HB16.out.size
                      have hbx17 := (HB17.out.block bx2 (Array.getElem?_eq_some_iff.1 HBx16.out).1).trans HBx16.out
                      obtain ⟨e0, e1, e2, e3, e4⟩ := ho_box hbx17
                      have hbl17 := (Array.getElem?_eq_some_iff.1 hbx17).1
                      by_cases hlt4 : i < R.length
                      · obtain ⟨gR, rfl, hgR, hgRl⟩ := haR.resolve_left (by omega)
                        have hki4 : decide ((i : Int) < (R.length : Int)) = true := by simp; omega
                        have hrow17 := own_keep HoR.out fun g hg => (HB17.out.block g (by have := (HoR.out.lt g hg).2; omega)).trans (HB16.out.block g (HoR.out.lt g hg).2)
                        obtain ⟨g0, g1⟩ := pr_cells hrow17 i hlt4
                        have hgl17 := (hrow17.lt gR rfl).2
                        have HS : Hid (((R.take (i + 1)).any fun p => p.1 == x.x) = (((R.take i).any fun p => p.1 == x.x) || R[i].1 == x.x)) := Lib.hid (by
                          rw [List.take_succ_eq_append_getElem hlt4, List.any_append]; simp)
                        generalize R[i] = p at *
                        have HB18 := Lib.hid (HB17.out.alloc HB17.out.size (.cells #[.int .i64 p.1, .int .i64 p.2] 48))
                        obtain ⟨fo, hfo⟩ : ∃ fo, ((R.take i).any fun p => p.1 == x.x) = fo := ⟨_, rfl⟩
                        rw [hfo] at HS
                        rw [hfo]
                        clear hfo hrow17 hbx17
                        cases fo with
                        | true =>
                          go_wp2_with fail
                          exact ⟨⟨i + 1, by omega, by go_num, by rw [HS.out]; rfl, HB18.out⟩, by simp [intOf]; omega⟩
                        | false =>
                          go_wp2_with fail
                          exact ⟨⟨i + 1, by omega, by go_num, by rw [HS.out]; rfl, HB18.out⟩, by simp [intOf]; omega⟩
                      · have hki4 : decide ((i : Int) < (R.length : Int)) = false := by simp; omega
                        have hii : i = R.length := by omega
                        have hfo : ((R.take i).any fun p => p.1 == x.x) = true := by
                          obtain ⟨⟨p, hp, hpx⟩, -⟩ := HA2.out
                          rw [hii, List.take_length, List.any_eq_true]
                          exact ⟨p, hp, by simp [hpx]⟩
                        rw [hfo]
                        have HL17 := Lib.hid (HL10.out.below (HB16.out.trans (HB17.out.mono hz16)))
                        have HWa : Hid (Calls Try.prog 14 #[.pointer (some ⟨t, 0, none⟩), .int .i64 x.x] w17 fun e w' => e = .returned (.bool true) ∧ Below w17.heap.size w17 w') := Lib.hid (by
                          have h := lt_waiting HL17.out.lt x.x
                          rw [HA2.out.2] at h
                          exact h)
                        clear hii hfo hbx17
                        go_wp2_with fail
                        refine HWa.out.mono ?_
                        rintro e w18 ⟨rfl, hb18⟩
                        have HB18 := Lib.hid (HB16.out.trans ((HB17.out.trans (hb18.mono HB17.out.size)).mono hz16))
                        clear hb18
                        go_wp2_with fail
                        exact ⟨⟨k2 + 1, by omega, by go_num, HB18.out⟩, by simp [intOf]; omega⟩
            · have hki2 : decide ((k2 : Int) < (A.length : Int)) = false := by simp; omega
              have HL11 := Lib.hid (HL10.out.below HB11.out)
              go_wp2_with fail
              exact ⟨⟨k + 1, O8, S8, by omega, by have := HK200.out; omega, by go_num, HL11.out, HOk.out⟩, by simp [intOf]; omega⟩
    · have hki : decide ((k : Int) < (l : Int)) = false := by simp; omega
      go_wp2_with fail
      go_ret
      exact ⟨rfl, HL.out.low⟩
end Go.Proofs.Ytileamjmhhifaaa
