/-
  Layer 16 (tree): the walk of TreeBack.
-/
import Derived.Test.YtljommhbhpappaaTreeB2
namespace Go.Proofs.Ytljommhbhpappaa
open Go.RowKit Go.Joins
set_option linter.unusedVariables false
set_option linter.unusedSimpArgs false

theorem back_long (len cap ul uc : Nat) (a up : Option Addr) (w : World) (h : 200 < len ∨ 200 < ul) :
    Calls Try.prog 11 #[.slice a len cap, .slice up ul uc] w fun e w' => e = .returned (.bool true) ∧ Below w.heap.size w w' := by
  have HA := Lib.hid (fun w' => awake16 w')
  by_cases h1 : 200 < len
  · have hl1 : decide ((200 : Int) < (len : Int)) = true := by simp; omega
    clear h
    go_enter Try.func11, Try.ntmps11
    go_wp2_with fail
    refine (HA.out _).mono ?_; rintro e w1 ⟨rfl, hb1⟩
    have B1 := Lib.hid hb1
    clear hb1
    go_wp2_with fail
    go_ret
    exact ⟨rfl, B1.out⟩
  · have hl1 : decide ((200 : Int) < (len : Int)) = false := by simp; omega
    have hl2 : decide ((200 : Int) < (ul : Int)) = true := by simp; omega
    clear h
    go_enter Try.func11, Try.ntmps11
    go_wp2_with fail
    refine (HA.out _).mono ?_; rintro e w1 ⟨rfl, hb1⟩
    have B1 := Lib.hid hb1
    clear hb1
    go_wp2_with fail
    go_ret
    exact ⟨rfl, B1.out⟩

set_option maxHeartbeats 4000000 in
set_option maxRecDepth 100000 in
theorem back_good (a : Option Addr) (len cap : Nat) (I : List Cl) (up : Option Addr) (ul uc : Nat) (X : List Cl) (w : World) (hI : ClsIn w a len I) (hX : ClsIn w up ul X) (hkl : ∀ c ∈ I, c.kl ≤ 1048576) (h2 : len ≤ 200) (h3 : ul ≤ 200) :
    Calls Try.prog 11 #[.slice a len cap, .slice up ul uc] w fun e w' => e = .returned (.bool true) ∧ Below w.heap.size w w' := by
  have HA := Lib.hid (fun w' => awake16 w')
  have HV := Lib.hid (fun w' => volume16 256 (by omega) (by omega) w')
  have HIn := Lib.hid hI
  have HXn := Lib.hid hX
  have HKl := Lib.hid hkl
  have hl1 := hI.2.1
  have hx1 := hX.2.1
  obtain ⟨i0, hi, hz0, hz1, hz2⟩ := info_parts infoUn
  obtain ⟨j0, hj, hy0, hy1, hy2⟩ := info_parts infoStr17
  have hl2 : decide ((200 : Int) < (len : Int)) = false := by simp; omega
  have hl3 : decide ((200 : Int) < (ul : Int)) = false := by simp; omega
  clear hI hX hkl
  go_enter Try.func11, Try.ntmps11
  go_wp2_with fail
  refine (HA.out _).mono ?_; rintro e w1 ⟨rfl, hb1⟩
  have B1 := Lib.hid hb1
  clear hb1
  go_wp2_with fail
  refine (HV.out _).mono ?_; rintro e w2 ⟨b, mb, hb, pb, rfl, h2⟩
  have O2 : Hid (One w w2 b mb hb pb (I0 256 256 2).laid) := Lib.hid ⟨B1.out.trans (h2.low.mono B1.out.size), h2.st, by have := B1.out.size; have := h2.hi; omega⟩
  clear h2
  go_wp2_with fail
  go_loopw [41] (fun v wr => ∃ (k : Nat) (S : Vol) (F : List NC), k ≤ len ∧ v = .int .i64 k ∧ One w wr b mb hb pb S ∧ IdxAt S 256 2 F) (fun v _ => len - (intOf v).toNat)
  case atStart => exact ⟨0, _, [], by omega, rfl, O2.out, I0_at 256 (by omega) (by omega)⟩
  case round =>
    obtain ⟨k, S, F, hk', rfl, hO, hAt⟩ := hrel
    obtain ⟨wo, rfl⟩ : ∃ wo : World, wo = wr := ⟨_, rfl⟩
    by_cases hlt : k < len
    · have hVr := HIn.out.below hO.low
      obtain ⟨bv, off, hvp, hbv, hrow⟩ := hVr.2.2.resolve_left (by omega)
      subst hvp
      obtain ⟨hrg, -⟩ := hrow k (by omega)
      have hokw : ClOk w I[k] := by
        obtain ⟨bv2, off2, -, -, hrow2⟩ := HIn.out.2.2.resolve_left (by omega)
        exact (hrow2 k (by omega)).2
      have hkk := HKl.out _ (List.getElem_mem (by omega : k < I.length))
      have hld := load_clIn hrg
      generalize I[k] = c at *
      have HO1 := Lib.hid (hO.alloc (.cells c.cs 92))
      have HDo := Lib.hid (do_keep hAt c hokw hkk b mb hb pb w _ HO1.out HO1.out.low)
      have R1 := rowAt_at wo c.cs 92 _ rfl
      have c4 := (cell_row R1 4).trans (show _ = some (.slice c.ka c.kl c.kc) from rfl)
      have hlv := load_clVar R1
      clear hVr hrow hbv hO hAt hrg hokw
      go_wp2_with fail
      refine HDo.out.mono ?_; rintro e wd ⟨ud, er, Sd, Fd, rfl, hd1, hd2, hd3⟩
      have Od := Lib.hid (hd1.alloc (.cells ud.cs 86))
      have HLd := Lib.hid (land16b hd2 er b mb hb pb w _ Od.out)
      have HAd := Lib.hid hd3
      clear hd1 hd2 hd3
      go_wp2_with fail
      refine HLd.out.mono ?_; rintro e we ⟨rfl, he1, -⟩
      have Oe := Lib.hid he1
      clear he1
      go_wp2_with fail
      first
        | exact ⟨⟨k + 1, _, Fd, by omega, by go_num, Oe.out, HAd.out⟩, by simp [intOf]; omega⟩
        | (go_roundw; case rel => exact ⟨k + 1, _, Fd, by omega, by go_num, Oe.out, HAd.out⟩; case measure => simp [intOf]; omega)
    · have hr := (Has.of_at hAt).rising
      have HRg := Lib.hid (op_range (Has.of_at hAt) ByteArray.empty 64 (by simp) (by omega) b mb hb pb w wo hO)
      rw [rangeL_all] at HRg
      have HAt := Lib.hid hAt
      have HRs := Lib.hid hr
      clear hO hAt hr
      go_wp2_with fail
      refine HRg.out.mono ?_; rintro e w3 ⟨v3, rfl, o3, hb3, hown3⟩
      obtain ⟨R, hR⟩ : ∃ R, (liveL F).take 64 = R := ⟨_, rfl⟩
      rw [hR] at hown3
      have hRl : R.length ≤ 64 := by rw [← hR, List.length_take]; omega
      have O3 := Lib.hid o3
      have HOw := Lib.hid (own_zero hown3)
      have HR := Lib.hid hR
      clear o3 hb3 hown3 hR
      go_wp2_with fail
      go_loopw [14, 15, 68] (fun kv uv ii wz => ∃ m : Nat, m ≤ ul ∧ ii = .int .i64 m ∧ ∃ S1 F1 us, One w wz b mb hb pb S1 ∧ IdxAt S1 256 2 F1 ∧ Chain F us F1 ∧ (∀ k ∈ ukeys us, ∃ x ∈ F1, x.key = k) ∧ wz.ownsRow 0 105 3 v3 R.length (pairRow R) ∧ wz.ownsRow w.heap.size 86 7 uv us.length (unRow us) ∧ wz.ownsRow w.heap.size 9 1 kv (ukeys us).length ((ukeys us).map .string) ∧ us.length ≤ m) (fun _ _ ii _ => ul - (intOf ii).toNat)
      case atStart => exact ⟨0, by omega, rfl, S, F, [], O3.out, HAt.out, .nil, (fun k hk => by cases hk), HOw.out, World.ownsRow_nil _ _ _ _, World.ownsRow_nil _ _ _ _, by simp⟩
      case round =>
        obtain ⟨m, hm, rfl, S1, F1, us, hO1, hA1, hC1, hP1, hR1, hU1, hK1, hUm⟩ := hrel
        obtain ⟨wp, rfl⟩ : ∃ wp : World, wp = wr := ⟨_, rfl⟩
        have hukl : (ukeys us).length = us.length := List.length_map _
        by_cases hltm : m < ul
        · have hXr := HXn.out.below hO1.low
          obtain ⟨bv, off, hvp, hbv, hrow⟩ := hXr.2.2.resolve_left (by omega)
          subst hvp
          obtain ⟨hrg, -⟩ := hrow m (by omega)
          have hld := load_clIn hrg
          generalize X[m] = c at *
          have HO2 := Lib.hid (hO1.alloc (.cells c.cs 92))
          have HR2 := Lib.hid (hR1.alloc (.cells c.cs 92))
          have HU2 := Lib.hid (hU1.alloc (.cells c.cs 92))
          have HK2 := Lib.hid (hK1.alloc (.cells c.cs 92))
          obtain ⟨ka, kc, rfl, hin⟩ := strIn_own HK2.out (by omega)
          have HDo := Lib.hid (do_back hA1 c ka kc (ukeys us) b mb hb pb w _ HO2.out hin)
          have HC1 := Lib.hid hC1
          have HP1 := Lib.hid hP1
          have HLf := Lib.hid (Has.of_at hA1).leafs
          have HRi := Lib.hid (Has.of_at hA1).rising
          have hlv := load_clVar (rowAt_at wp c.cs 92 _ rfl)
          have Hukl := Lib.hid hukl
          clear hXr hrow hbv hO1 hA1 hC1 hP1 hrg hR1 hU1 hK1 hin hukl
          go_wp2_with fail
          with_reducible refine HDo.out.mono ?_; rintro r w6 ⟨u, er, S2, F2, rfl, k1, k2, k3, k4, k5⟩
          have hR6 := own_kp HR2.out (by decide) HO2.out.st k5
          have hU6 := own_kp HU2.out (by decide) HO2.out.st k5
          have hK6 := own_kp HK2.out (by decide) HO2.out.st k5
          have hO7 := k1.alloc (.cells u.cs 86)
          have R17 := rowAt_at w6 u.cs 86 _ rfl
          have HL7 := Lib.hid (land16b k2 er b mb hb pb w _ hO7)
          have HO7 := Lib.hid hO7
          have HR7 := Lib.hid (hR6.alloc (.cells u.cs 86))
          have HU7 := Lib.hid (hU6.alloc (.cells u.cs 86))
          have HK7 := Lib.hid (hK6.alloc (.cells u.cs 86))
          have hz6 : (w6.alloc (.cells u.cs 86)).heap.size = w6.heap.size + 1 := World.size_alloc ..
          have hlt6 := k1.st.lt
          have HD4 := Lib.hid (did_step k4 HLf.out)
          have HA2 := Lib.hid k3
          have HRi2 := Lib.hid (Has.of_at k3).rising
          have HN6 : Hid (w6.heap.size ≠ mb ∧ w6.heap.size ≠ pb) := Lib.hid ⟨by omega, by omega⟩
          have R17h := Lib.hid R17
          have HUlt := Lib.hid (fun q hq => (hU6.lt q hq).2)
          clear k1 k2 k3 k4 k5 hR6 hU6 hK6 hO7 hlt6 R17
          go_wp2_with fail
          refine HL7.out.mono ?_; rintro r w8 ⟨rfl, l1, l2⟩
          have R18 : rowAt w8 w6.heap.size = some u.cs := by
            unfold rowAt
            rw [l2.blk w6.heap.size (by omega) HN6.out.1 HN6.out.2]
            exact R17h.out
          have ck := (cell_row R18 0).trans (show _ = some (.int .i64 u.kind) from rfl)
          have ck4 := (cell_row R18 4).trans (show _ = some (.string u.key) from rfl)
          have HR8 := Lib.hid (own_kp HR7.out (by decide) HO7.out.st l2)
          have HU8 := Lib.hid (own_kp HU7.out (by decide) HO7.out.st l2)
          have HK8 := Lib.hid (own_kp HK7.out (by decide) HO7.out.st l2)
          have HO8 := Lib.hid l1
          have hz8 := l2.size

          clear l1 l2 hlv hld
          rcases HD4.out with ⟨hFF, hwhy⟩ | ⟨rfl, hk2, cx, hu, hst⟩
          · have HFF := Lib.hid hFF
            by_cases he0 : er = 0
            · subst he0
              have hk0 : u.kind = 0 := hwhy.resolve_left (by simp)
              rw [hk0] at ck
              clear hwhy hFF
              go_wp2_with fail
              go_roundw
              case rel => exact ⟨m + 1, by omega, by go_num, _, F2, us, HO8.out, HA2.out, HFF.out ▸ HC1.out, HFF.out ▸ HP1.out, HR8.out, HU8.out, HK8.out, by omega⟩
              case measure => simp [intOf]; omega
            · have e1 : (er == 0) = false := by simp [he0]
              clear hwhy hFF
              go_wp2_with fail
              go_roundw
              case rel => exact ⟨m + 1, by omega, by go_num, _, F2, us, HO8.out, HA2.out, HFF.out ▸ HC1.out, HFF.out ▸ HP1.out, HR8.out, HU8.out, HK8.out, by omega⟩
              case measure => simp [intOf]; omega
          · rw [hk2] at ck
            have HCn := Lib.hid (Chain.snoc cx HC1.out HRi.out HRi2.out hu HP1.out hst)
            have HPn := Lib.hid (hst.there HP1.out)
            have hlow8 := HO8.out.low.size
            clear hst hu
            have hub : us.length ≤ 200 := by omega
            go_wp2_with (at_builtin; refine wpList_append_own _ rfl _ _ 102 rfl w.heap.size 86 i0 _ 7 72 Try.underlying102 hi hz0 hz1 hz2 rfl (by decide) _ _ _ rfl (HU8.out.alloc _) ⟨w8.heap.size, 0, none⟩ 1 1 u.cs.toList rfl rfl ?c1 ?c2 ?c3 ?c4 ?c5 ?_)
            case c1 => exact World.news_of_block (heap_alloc_new w8 (.cells u.cs 86))
            case c2 => intro x hx; simp [Un.cs] at hx; rcases hx with rfl | rfl | rfl | rfl | rfl | rfl | rfl <;> rfl
            case c3 => simp only [maxLen]; omega
            case c4 => omega
            case c5 => simp only [World.size_alloc]; omega
            intro v9 w9 hown9 hgrow _
            have hU8 := HU8.out.alloc (.cells u.cs 86)
            have hR8 := HR8.out.alloc (.cells u.cs 86)
            have hK8 := HK8.out.alloc (.cells u.cs 86)
            have HO9 := Lib.hid ((HO8.out.alloc (.cells u.cs 86)).grew (by decide) hgrow hU8)
            have HR9 := Lib.hid (hR8.kept hgrow (own_ne hR8 hU8 (by decide)))
            have HK9 := Lib.hid (hK8.kept hgrow (own_ne hK8 hU8 (by decide)))
            have HU9 : Hid (w9.ownsRow w.heap.size 86 7 v9 (us ++ [u]).length (unRow (us ++ [u]))) := Lib.hid (by
              rw [unRow_snoc, List.length_append, List.length_singleton]
              exact hown9)
            have R19 : rowAt w9 w6.heap.size = some u.cs := by
              have e1 : w9.heap[w6.heap.size]? = (w8.alloc (.cells u.cs 86)).heap[w6.heap.size]? := hgrow.block w6.heap.size (by rw [World.size_alloc]; omega) (fun e => by have := HUlt.out _ e.symm; omega)
              have e2 : rowAt (w8.alloc (.cells u.cs 86)) w6.heap.size = some u.cs := (rowAt_past _ _ _ (by omega)).trans R18
              unfold rowAt at e2 ⊢
              rw [e1]; exact e2
            have ck9 := (cell_row R19 4).trans (show _ = some (.string u.key) from rfl)
            have hlow9 := HO9.out.low.size
            clear hown9 hgrow hU8 hR8 hK8 R19 R18 ck ck4
            go_wp2_with (at_builtin; refine wpList_append_own _ rfl _ _ 27 rfl w.heap.size 9 j0 _ 1 16 Try.underlying27 hj hy0 hy1 hy2 rfl (by decide) _ _ _ rfl (HK9.out.alloc _) ⟨w9.heap.size, 0, none⟩ 1 1 [.string u.key] rfl rfl ?d1 ?d2 ?d3 ?d4 ?d5 ?_)
            case d1 => exact World.news_of_block (heap_alloc_new w9 (.cells #[.string u.key] 9))
            case d2 => intro x hx; simp at hx; subst hx; rfl
            case d3 => have := Hukl.out; simp only [maxLen]; omega
            case d4 => have := Hukl.out; omega
            case d5 => simp only [World.size_alloc]; omega
            intro v10 w10 hown10 hgrow2 _
            have hU9 := HU9.out.alloc (.cells #[.string u.key] 9)
            have hR9 := HR9.out.alloc (.cells #[.string u.key] 9)
            have hK9 := HK9.out.alloc (.cells #[.string u.key] 9)
            have HO10 := Lib.hid ((HO9.out.alloc (.cells #[.string u.key] 9)).grew (by decide) hgrow2 hK9)
            have HR10 := Lib.hid (hR9.kept hgrow2 (own_ne hR9 hK9 (by decide)))
            have HU10 := Lib.hid (hU9.kept hgrow2 (own_ne hU9 hK9 (by decide)))
            have HK10 : Hid (w10.ownsRow w.heap.size 9 1 v10 (ukeys (us ++ [u])).length ((ukeys (us ++ [u])).map .string)) := Lib.hid (by
              have e : ukeys (us ++ [u]) = ukeys us ++ [u.key] := by simp [ukeys]
              rw [e, List.map_append, List.length_append, List.length_singleton]
              exact hown10)
            have HPm : Hid (∀ k ∈ ukeys (us ++ [u]), ∃ x ∈ F2, x.key = k) := Lib.hid (by
              have e : ukeys (us ++ [u]) = ukeys us ++ [u.key] := by simp [ukeys]
              rw [e]; exact HPn.out)
            clear hown10 hgrow2 hU9 hR9 hK9
            go_wp2_with fail
            go_roundw
            case rel => exact ⟨m + 1, by omega, by go_num, _, F2, us ++ [u], HO10.out, HA2.out, HCn.out, HPm.out, HR10.out, HU10.out, HK10.out, by simp; omega⟩
            case measure => simp [intOf]; omega
        · obtain ⟨ua, ucp, hv⟩ : ∃ ua ucp, u15 = .slice ua us.length ucp := by
            rcases ownsRow_forms hU1 with ⟨h1, h2⟩ | ⟨g, c, h1⟩
            · exact ⟨_, _, by rw [h1, h2]⟩
            · exact ⟨_, _, h1⟩
          subst hv
          have HO1 := Lib.hid hO1
          have HA1 := Lib.hid hA1
          have HC1 := Lib.hid hC1
          have HR1 := Lib.hid hR1
          have HU1 := Lib.hid hU1
          have hub : us.length ≤ 200 := by omega
          clear hO1 hA1 hC1 hP1 hR1 hU1 hK1 hukl
          go_wp2_with fail
          go_loopw [20] (fun ii wz => ∃ (m : Nat) (x : Int), m ≤ us.length ∧ ii = .int .i64 x ∧ x = (m : Int) - 1 ∧ ∃ S3 G Fm, One w wz b mb hb pb S3 ∧ Has S3 256 2 G ∧ Chain F (us.take m) Fm ∧ Sim (ukeys (us.take m)) G Fm ∧ wz.ownsRow 0 105 3 v3 R.length (pairRow R) ∧ wz.ownsRow w.heap.size 86 7 (.slice ua us.length ucp) us.length (unRow us)) (fun ii _ => (intOf ii + 1).toNat)
          case atStart => exact ⟨us.length, _, Nat.le_refl _, rfl, by simp, S1, F1, F1, HO1.out, Has.of_at HA1.out, by rw [List.take_length]; exact HC1.out, Sim.refl _ _, HR1.out, HU1.out⟩
          case round =>
            obtain ⟨m2, x, hm2, rfl, hx, S3, G, Fm, hO3, hH3, hC3, hS3, hR3, hU3⟩ := hrel
            obtain ⟨wq, rfl⟩ : ∃ wq : World, wq = wr := ⟨_, rfl⟩
            by_cases hpos : 0 < m2
            · obtain ⟨m3, rfl⟩ : ∃ m3, m2 = m3 + 1 := ⟨m2 - 1, by omega⟩
              obtain rfl : x = (m3 : Int) := by omega
              clear hx
              obtain ⟨g, cap', hv⟩ := ownsRow_form hU3 (by omega)
              simp only [Value.slice.injEq] at hv
              obtain ⟨rfl, -, rfl⟩ := hv
              have hlr : m3 < us.length := by omega
              have hlu := load_un hU3 m3 hlr
              rw [List.take_succ_eq_append_getElem hlr] at hC3 hS3
              have hke : ukeys (us.take m3 ++ [us[m3]]) = ukeys (us.take m3) ++ [us[m3].key] := by unfold ukeys; rw [List.map_append]; rfl
              rw [hke] at hS3
              generalize us[m3] = u at *
              obtain ⟨Fp, cx, i1, i2, i3, i4, i5, i6⟩ := hC3.inv
              have HRe := Lib.hid (op_restoreb hH3 u cx i4 b mb hb pb w wq hO3)
              have HBk := Lib.hid (fun G' er hd => back_step (er := er) (G' := G') i2 i3 i5 i6 hS3 hd)
              have HO3 := Lib.hid hO3
              have HR3 := Lib.hid hR3
              have HU3 := Lib.hid hU3
              have HI1 := Lib.hid i1
              have hml : (m3 : Int) < ((us.length : Nat) : Int) := by omega
              have hm0 : (0 : Int) ≤ (m3 : Int) := by omega
              clear hO3 hH3 hC3 hS3 hR3 hU3 hke i1 i2 i3 i4 i5 i6
              go_wp2_with fail
              refine HRe.out.mono ?_; rintro e w8 ⟨er, S4, G4, rfl, r1, r2, r3, r4⟩
              obtain ⟨rfl, hsim⟩ := HBk.out _ _ r2
              have HO8 := Lib.hid r1
              have HR8 := Lib.hid (own_kp HR3.out (by decide) HO3.out.st r4)
              have HU8 := Lib.hid (own_kp HU3.out (by decide) HO3.out.st r4)
              have HH8 := Lib.hid r3
              have HS8 := Lib.hid hsim
              clear r1 r2 r3 r4 hsim
              go_wp2_with fail
              go_roundw
              case rel => exact ⟨m3, _, by omega, rfl, by go_num, S4, G4, Fp, HO8.out, HH8.out, HI1.out, HS8.out, HR8.out, HU8.out⟩
              case measure => simp [intOf]
            · obtain rfl : m2 = 0 := by omega
              obtain rfl : x = -1 := by omega
              have e1 : decide ((0 : Int) ≤ -1) = false := rfl
              clear hx
              have hFm : Fm = F := by rw [List.take_zero] at hC3; exact hC3.done
              subst hFm
              have hll : liveL G = liveL Fm := sim_live hH3.rising HRs.out (by rw [List.take_zero] at hS3; exact hS3)
              have HRg2 := Lib.hid (op_range hH3 ByteArray.empty 64 (by simp) (by omega) b mb hb pb w wq hO3)
              rw [rangeL_all, hll, HR.out] at HRg2
              obtain ⟨a3, p3, rfl, P3⟩ := pairsAt_own hR3
              have HP3 := Lib.hid P3
              clear hO3 hH3 hC3 hS3 hR3 hU3 hll P3
              go_wp2_with fail
              refine HRg2.out.mono ?_; rintro e w8 ⟨v8, rfl, o8, hb8, hown8⟩
              obtain ⟨a8, p8, rfl, P8⟩ := pairsAt_own hown8
              have HS8 := Lib.hid (same16 a3 a8 p3 p8 R w8 (HP3.out.below hb8) P8 (by omega))
              have HO8 := Lib.hid o8
              clear o8 hb8 hown8 P8
              go_wp2_with fail
              refine HS8.out.mono ?_; rintro e w9 ⟨rfl, hb9⟩
              have HO9 := Lib.hid (HO8.out.below hb9)
              clear hb9
              go_wp2_with fail
              go_ret
              exact ⟨rfl, HO9.out.low⟩
theorem back_walk (a : Option Addr) (len cap : Nat) (I : List Cl) (up : Option Addr) (ul uc : Nat) (X : List Cl) (w : World) (hI : ClsIn w a len I) (hkl : ∀ c ∈ I, c.kl ≤ 1048576) (hX : ClsIn w up ul X) (_ : ∀ c ∈ X, c.kl ≤ 1048576) :
    Calls Try.prog 11 #[.slice a len cap, .slice up ul uc] w fun e w' => e = .returned (.bool true) ∧ Below w.heap.size w w' := by
  by_cases h : 200 < len ∨ 200 < ul
  · exact back_long len cap ul uc a up w h
  · exact back_good a len cap I up ul uc X w hI hX hkl (by omega) (by omega)
end Go.Proofs.Ytljommhbhpappaa
