/-
  Layer 9 (locks): the walk of Arcs.
-/
import Derived.Test.YtileamjmhhifaaaLk17
namespace Go.Proofs.Ytileamjmhhifaaa
open Go.RowKit Go.Joins Go.Sort Go.Shelf
set_option linter.unusedVariables false
set_option linter.unusedSimpArgs false

section
variable {w : World} {B t nb wb : Nat} {turn : Int} {M : List (Nm × Value)} {E : Nm → Ent} {Wt : List (Int × Value)}
set_option maxHeartbeats 3000000 in
set_option maxRecDepth 100000 in
theorem arcs_any (h : TabAt w B t nb wb turn M E Wt) (hM : M.length ≤ 1000) (hN : ∀ n, (qOf M E n).H.length + (qOf M E n).W.length ≤ 1000) :
    Calls Try.prog 18 #[.pointer (some ⟨t, 0, none⟩)] w fun e w' => ∃ (v : Value) (A : List Pr), e = .returned v ∧ w'.ownsRow w.heap.size 48 2 v A.length (arRow A) ∧ A.Pairwise ltP ∧ (∀ p, p ∈ A ↔ ∃ n, p ∈ arcsQ (qOf M E n)) ∧ Below w.heap.size w w' := by
  have mixed : Try.prog.follows Departure.mixedOrders = true := by kernel_rfl
  have HT := Lib.hid h
  have HM := Lib.hid hM
  have HN := Lib.hid hN
  obtain ⟨c0, -, -⟩ := h.cells
  obtain ⟨oi, hrng, hR0⟩ := range_k (P := Try.prog) keyLaw_nm.inj Try.underlying51 h.names
  have hb2 : Below w.heap.size w (w.alloc oi) := (Below.refl _ _).alloc (Nat.le_refl _) _
  have HA : Hid (ArcAt w nb w.heap.size M (fun k => k ∈ keysM M) M.length (.slice none 0 0) [] (w.alloc oi)) := Lib.hid ⟨⟨rfl, .inl ⟨rfl, rfl⟩⟩, hR0, hb2, h.names.lt, Nat.le_refl _⟩
  clear h hM hN hR0 hb2
  go_enter Try.func18, Try.ntmps18
  go_wp2_with fail
  generalize w.alloc oi = W3 at *
  obtain ⟨ri, hri⟩ : ∃ ri, w.heap.size = ri := ⟨_, rfl⟩
  have HA2 : Hid (ArcAt w nb ri M (fun k => k ∈ keysM M) M.length (.slice none 0 0) [] W3) := Lib.hid (by rw [← hri]; exact HA.out)
  rw [hri]
  clear hri HA hrng c0
  go_loopg [3] M.length (fun gg tl wr => ∃ L left cnt, ArcAt w nb ri M left cnt tl L wr ∧ (∀ p, p ∈ L ↔ ∃ n, n ∈ keysM M ∧ ¬ left n ∧ p ∈ arcsQ (E n).Q) ∧ L.length + cnt * 4000000 ≤ M.length * 4000000 ∧ cnt ≤ gg)
  case atStart => exact ⟨_, _, _, HA2.out, fun p => ⟨fun h => (by cases h), fun ⟨n, h1, h2, _⟩ => absurd h1 h2⟩, by simp, Nat.le_refl _⟩
  case round =>
    clear HA2
    obtain ⟨L, left, cnt, hA, hmem, hlen, hcnt⟩ := hrel
    obtain ⟨wo, rfl⟩ : ∃ wo : World, wo = wr := ⟨_, rfl⟩
    have HA := Lib.hid hA
    have HMem := Lib.hid hmem
    have HLen := Lib.hid hlen
    have HCnt := Lib.hid hcnt
    clear hmem hlen hcnt
    rcases hA.rng.next (P := Try.prog) keyLaw_nm.inj with ⟨h0, hnone, hNx⟩ | ⟨kn, v, w2, cnt', hkv, hleft, hNx, hR2, hlt2, hg2, hsz2, hent⟩
    · have HNo := Lib.hid hnone
      have hl9 : L.length ≤ 4000000000000 := by
        have h1 := HLen.out
        have h2 := HM.out
        have : M.length * 4000000 ≤ 1000 * 4000000 := Nat.mul_le_mul_right _ h2
        omega
      have HSo := Lib.hid (sort_arcs L hl9 w.heap.size _ wo HA.out.own)
      clear hA hnone h0 hl9
      go_wp2_with fail
      refine HSo.out.mono ?_
      rintro e w5 ⟨rfl, R, hperm, hsort, hown5, hmv5⟩
      have hRl : R.length ≤ 4000000000000 := by
        have h0 := hperm.length_eq
        have h1 := HLen.out
        have h2 := HM.out
        have : M.length * 4000000 ≤ 1000 * 4000000 := Nat.mul_le_mul_right _ h2
        omega
      have HCo := Lib.hid (compact_any R hRl w.heap.size _ w5 hown5)
      obtain ⟨d1, d2, -⟩ := dd_sorted R hsort R.length (Nat.le_refl _)
      have hlow5 := HA.out.low.trans ((hmv5.toBelow (B := w.heap.size) HA.out.low.size fun i hi => (HA.out.own.lt i hi).1))
      have HD1 := Lib.hid d1
      have HD2 : Hid (∀ p, p ∈ dd R R.length ↔ p ∈ L) := Lib.hid fun p => by rw [d2 p, List.take_length]; exact hperm.mem_iff
      have HLow := Lib.hid hlow5
      have HO5 := Lib.hid hown5
      clear hsort hperm hmv5 hown5 hRl d1 d2 hlow5
      go_wp2_with fail
      refine HCo.out.mono ?_
      rintro e w6 ⟨v6, rfl, hown6, hmv6⟩
      have HB6 := Lib.hid (HLow.out.trans (hmv6.toBelow (B := w.heap.size) HLow.out.size fun i hi => (HO5.out.lt i hi).1))
      have HO6 := Lib.hid hown6
      clear hown6 hmv6
      go_wp2_with fail
      go_ret
      refine ⟨_, _, rfl, HO6.out, HD1.out, fun p => ?_, HB6.out⟩
      rw [HD2.out p, HMem.out p]
      constructor
      · rintro ⟨n, h1, -, h3⟩
        exact ⟨n, by rw [qOf_in h1]; exact h3⟩
      · rintro ⟨n, h3⟩
        by_cases h1 : n ∈ keysM M
        · rw [qOf_in h1] at h3; exact ⟨n, h1, HNo.out n, h3⟩
        · rw [qOf_out h1] at h3; cases h3
    · have hkk : kn ∈ keysM M := List.mem_map.2 ⟨_, hkv, rfl⟩
      obtain ⟨⟨qb, hv, wv, Q⟩, hen⟩ : ∃ en, E kn = en := ⟨_, rfl⟩
      have hve : v = .pointer (some ⟨qb, 0, none⟩) := by have := HT.out.ptr _ hkv; rw [hen] at this; exact this
      subst hve
      have hN' : ∀ ty, (Instr.next (.pointer (some ⟨ri, 0, none⟩)) false ty).run Try.prog wo = .ok (.tuple #[.bool true, .agg #[.int .i64 kn.s, .string kn.i], .pointer (some ⟨qb, 0, none⟩)]) w2 := hNx
      have hent' : (Instr.entry (.pointer (some ⟨ri, 0, none⟩))).run Try.prog w2 = .ok (.tuple #[.agg #[.int .i64 kn.s, .string kn.i], .pointer (some ⟨qb, 0, none⟩)]) w2 := hent
      have ho3 := own_keep (w' := w2) hA.own fun g hg => hg2.block g (hA.own.lt g hg).2 fun e => (by
        obtain ⟨c, hc⟩ := own_blkv hA.own hg
        obtain ⟨s, se, c9, hi⟩ := hA.rng.iter
        rw [Option.some.inj e, hi] at hc
        cases hc)
      have HA3 : Hid (ArcAt w nb ri M (fun j => left j ∧ j ≠ kn) cnt' _ L w2) := Lib.hid ⟨ho3, hR2, hA.low.grown hg2 hA.low.size fun q hq => (by cases hq; exact hA.ri), hA.nbl, hA.ri⟩
      have hq : QAt w B qb hv wv Q := by have h1 := HT.out.qat kn hkk; rw [hen] at h1; exact h1
      have hlen : Q.H.length + Q.W.length ≤ 1000 := by have h2 := HN.out kn; rw [qOf_in hkk, hen] at h2; exact h2
      have hq2 := hq.below HA3.out.low
      obtain ⟨ah, ch, rfl, hch, hmh, hah⟩ := own_cap hq.held
      obtain ⟨aw, cw, rfl, hcw, hmw, haw⟩ := own_cap hq.wish
      have hk0 := hq2.cell0
      have hk1 := hq2.cell1
      have hlq := (hq2.lt (.inl rfl)).2
      have HQ := Lib.hid hq
      have HKk := Lib.hid hkk
      have HEn := Lib.hid hen
      have HLeft := Lib.hid hleft
      have HLt := Lib.hid hlt2
      have HQl := Lib.hid hlen
      have hl1 : Q.H.length ≤ 9223372036854775807 := by omega
      have hl2 : Q.W.length ≤ 9223372036854775807 := by omega
      have HL0 : Hid (L.length ≤ 4000000000) := Lib.hid (by
        have h1 := HLen.out
        have h2 := HM.out
        have : M.length * 4000000 ≤ 1000 * 4000000 := Nat.mul_le_mul_right _ h2
        omega)
      clear hA hkv hleft hNx hR2 hlt2 hg2 hent hkk hen hsz2 hq hq2 hlen hch hmh hcw hmw
      go_wp2_with fail
      clear hk0 hk1 hlq hN' hent'
      go_loopw [3, 30] (fun tl ti wr => ∃ k, k ≤ Q.H.length ∧ ti = .int .i64 k ∧ ArcAt w nb ri M (fun j => left j ∧ j ≠ kn) cnt' tl (L ++ hArcs Q k) wr) (fun _ ti _ => Q.H.length - (intOf ti).toNat)
      case atStart => exact ⟨0, by omega, rfl, by rw [hArcs, List.append_nil]; exact HA3.out⟩
      case round =>
        obtain ⟨k, hk, rfl, hA4⟩ := hrel
        obtain ⟨w4, rfl⟩ : ∃ w4 : World, w4 = wr := ⟨_, rfl⟩
        have HA4 := Lib.hid hA4
        clear hA4
        by_cases hlt : k < Q.H.length
        · obtain ⟨gb, rfl, hgb, hgl⟩ := hah.resolve_left (by omega)
          have hki : decide ((k : Int) < (Q.H.length : Int)) = true := by simp; omega
          obtain ⟨d0, d1, d2, d3⟩ := hd_cells (HQ.out.below HA4.out.low).held k hlt
          have hz4 := HA4.out.low.size
          have HS := Lib.hid (hArcs_succ Q k hlt)
          have hlen4 := hArcs_len Q (by have := HQl.out; omega) k
          have HL4 : Hid ((L ++ hArcs Q k).length ≤ 5000000000) := Lib.hid (by
            rw [List.length_append]
            have h1 := HL0.out
            have h2 := HQl.out
            have : k * 1000 ≤ 1000 * 1000 := Nat.mul_le_mul_right _ (by omega)
            omega)
          clear hlen4
          generalize Q.H[k] = hd at *
          have HQ5 := Lib.hid ((HQ.out.below HA4.out.low).below ((Below.refl w4.heap.size w4).alloc (Nat.le_refl _) (.cells #[.int .i64 hd.x, .int .i64 hd.m, .int .i64 hd.w, .int .i64 hd.t] 64)))
          have HA5 := Lib.hid (HA4.out.alloc (.cells #[.int .i64 hd.x, .int .i64 hd.m, .int .i64 hd.w, .int .i64 hd.t] 64))
          by_cases hw : hd.w = 0
          · have hwb : (hd.w != 0) = false := by simp [hw]
            have HW := Lib.hid hwb
            clear hw
            go_wp2_with fail
            refine ⟨⟨k + 1, by omega, by go_num, ?_⟩, by simp [intOf]; omega⟩
            rw [HS.out, HW.out, if_neg (by simp), List.append_nil]
            exact HA5.out
          · have hwb : (hd.w != 0) = true := by simp [hw]
            have HW := Lib.hid hwb
            have HAg := Lib.hid (against_any HQ5.out hd.x hd.w (by have := HQl.out; omega))
            have hk6 : (agL hd.x hd.w Q.H).length ≤ 1000000000000 := by
              have h1 := agL_len hd.x hd.w Q.H
              have h2 := HQl.out
              omega
            obtain ⟨K4, hK4⟩ : ∃ K4, agL hd.x hd.w Q.H = K4 := ⟨_, rfl⟩
            obtain ⟨L4, hL4⟩ : ∃ L4, L ++ hArcs Q k = L4 := ⟨_, rfl⟩
            rw [hK4] at HAg hk6
            rw [hL4] at HA5 HL4
            have HK4 := Lib.hid hK4
            have HL5 := Lib.hid hL4
            clear hw hK4 hL4
            go_wp2_with fail
            refine HAg.out.mono ?_
            rintro e w6 ⟨v6, rfl, ho6, hb6⟩
            have hA6 := HA5.out.below hb6
            have HA6 := Lib.hid hA6
            have hl6 := HL4.out
            have hz6 : w.heap.size ≤ w6.heap.size := hA6.low.size
            have hown6 := hA6.own
            clear hb6 hA6
            go_wp2_with (at_builtin; refine app_pr rfl _ _ rfl w.heap.size _ _ v6 L4 K4 rfl hown6 rfl ho6 (by omega) hk6 hz6 ?_)
            intro v7 w7 ho7 hg7
            have HA7 := Lib.hid (HA6.out.grown (L' := L4 ++ K4) hg7 (by rw [List.length_append]; simpa using ho7))
            clear ho6 hown6 ho7 hg7 hl6 hz6 hk6
            go_wp2_with fail
            refine ⟨⟨k + 1, by omega, by go_num, ?_⟩, by simp [intOf]; omega⟩
            rw [HS.out, HW.out, if_pos rfl, ← List.append_assoc, HL5.out, HK4.out]
            exact HA7.out
        · have hki : decide ((k : Int) < (Q.H.length : Int)) = false := by simp; omega
          have hkk : k = Q.H.length := by omega
          subst hkk
          have hq4 := HQ.out.below HA4.out.low
          have hk1 := hq4.cell1
          have hlq := (hq4.lt (.inl rfl)).2
          have hlen4 := hArcs_len Q (by have := HQl.out; omega) Q.H.length
          have HL4 : Hid ((L ++ hArcs Q Q.H.length).length ≤ 5000000000) := Lib.hid (by
            rw [List.length_append]
            have h1 := HL0.out
            have h2 := HQl.out
            have : Q.H.length * 1000 ≤ 1000 * 1000 := Nat.mul_le_mul_right _ (by omega)
            omega)
          clear hq4 hlen4
          obtain ⟨L1, hL1⟩ : ∃ L1, L ++ hArcs Q Q.H.length = L1 := ⟨_, rfl⟩
          rw [hL1] at HA4 HL4
          have HL1 := Lib.hid hL1
          clear hL1
          go_wp2_with fail
          go_loopw [3, 51] (fun tl ti wr => ∃ i, i ≤ Q.W.length ∧ ti = .int .i64 i ∧ ArcAt w nb ri M (fun j => left j ∧ j ≠ kn) cnt' tl (L1 ++ wArcs Q i) wr) (fun _ ti _ => Q.W.length - (intOf ti).toNat)
          case atStart => exact ⟨0, by omega, rfl, by rw [wArcs, List.append_nil]; exact HA4.out⟩
          case round =>
            clear HA4 hk1 hlq
            obtain ⟨i, hi, rfl, hA5⟩ := hrel
            obtain ⟨w5, rfl⟩ : ∃ w5 : World, w5 = wr := ⟨_, rfl⟩
            have HA5 := Lib.hid hA5
            clear hA5
            by_cases hlt2 : i < Q.W.length
            · obtain ⟨gw, rfl, hgw, hgwl⟩ := haw.resolve_left (by omega)
              have hki2 : decide ((i : Int) < (Q.W.length : Int)) = true := by simp; omega
              obtain ⟨d0, d1⟩ := ws_cells (HQ.out.below HA5.out.low).wish i hlt2
              have hz5 := HA5.out.low.size
              have HS := Lib.hid (wArcs_succ Q i hlt2)
              have hlen5 := wArcs_len Q HQl.out i
              have HL5 : Hid ((L1 ++ wArcs Q i).length ≤ 6000000000) := Lib.hid (by
                rw [List.length_append]
                have h1 := HL4.out
                have h2 := HQl.out
                have : i * 3000 ≤ 1000 * 3000 := Nat.mul_le_mul_right _ (by omega)
                omega)
              clear hlen5
              generalize Q.W[i] = y at *
              have hbx := heap_alloc_new w5 (.cells #[.int .i64 y.x, .int .i64 y.m] 66)
              have HQ6 := Lib.hid ((HQ.out.below HA5.out.low).below ((Below.refl w5.heap.size w5).alloc (Nat.le_refl _) (.cells #[.int .i64 y.x, .int .i64 y.m] 66)))
              have HA6 := Lib.hid (HA5.out.alloc (.cells #[.int .i64 y.x, .int .i64 y.m] 66))
              have HBx := Lib.hid hbx
              have HAg := Lib.hid (against_any HQ6.out y.x y.m (by have := HQl.out; omega))
              have hk6 : (agL y.x y.m Q.H).length ≤ 1000000000000 := by
                have h1 := agL_len y.x y.m Q.H
                have h2 := HQl.out
                omega
              obtain ⟨K5, hK5⟩ : ∃ K5, agL y.x y.m Q.H = K5 := ⟨_, rfl⟩
              obtain ⟨L5, hL5⟩ : ∃ L5, L1 ++ wArcs Q i = L5 := ⟨_, rfl⟩
              have hK5l : K5.length ≤ 1000 := by
                rw [← hK5]
                have h1 := agL_len y.x y.m Q.H
                have h2 := HQl.out
                omega
              have HK5l := Lib.hid hK5l
              rw [hK5] at HAg hk6
              rw [hL5] at HA6 HL5
              have HK5 := Lib.hid hK5
              have HLL5 := Lib.hid hL5
              clear hK5 hL5 hbx hK5l
              go_wp2_with fail
              refine HAg.out.mono ?_
              rintro e w7 ⟨v7, rfl, ho7, hb7⟩
              have hA7 := HA6.out.below hb7
              have HA7 := Lib.hid hA7
              have hl6 := HL5.out
              have hz6 : w.heap.size ≤ w7.heap.size := hA7.low.size
              have hbx7 := (hb7.block _ (Array.getElem?_eq_some_iff.1 HBx.out).1).trans HBx.out
              have HBx7 := Lib.hid hbx7
              have hown6 := hA7.own
              clear hb7 hA7 hbx7
              go_wp2_with (at_builtin; refine app_pr rfl _ _ rfl w.heap.size _ _ v7 L5 K5 rfl hown6 rfl ho7 (by omega) hk6 hz6 ?_)
              intro v8 w8 ho8 hg8
              have HA8 := Lib.hid (HA7.out.grown (L' := L5 ++ K5) hg8 (by rw [List.length_append]; simpa using ho8))
              have HBx8 := Lib.hid ((hg8.block _ (Array.getElem?_eq_some_iff.1 HBx7.out).1 fun e => own_ne_bl HA7.out.own HBx7.out (by decide) e.symm).trans HBx7.out)
              have HL8 : Hid ((L5 ++ K5).length ≤ 6000001000) := Lib.hid (by rw [List.length_append]; have := HL5.out; have := HK5l.out; omega)
              clear ho7 hown6 ho8 hg8 hl6 hz6 hk6 d0 d1 HA7 HBx7 HAg HBx HA6 HQ6
              obtain ⟨L6, hL6⟩ : ∃ L6, L5 ++ K5 = L6 := ⟨_, rfl⟩
              rw [hL6] at HA8 HL8
              have HL6 := Lib.hid hL6
              clear hL6
              have hq8 := HQ.out.below HA8.out.low
              have hk0 := hq8.cell0
              have hlq := (hq8.lt (.inl rfl)).2
              obtain ⟨bx, hbxe⟩ : ∃ bx, w5.heap.size = bx := ⟨_, rfl⟩
              rw [hbxe] at HBx8
              rw [hbxe]
              clear hbxe hq8
              go_wp2_with fail
              go_loopw [3, 69] (fun tl ti wr => ∃ k, k ≤ Q.H.length ∧ ti = .int .i64 k ∧ ArcAt w nb ri M (fun j => left j ∧ j ≠ kn) cnt' tl (L6 ++ wantX y.x (Q.H.take k)) wr ∧ wr.heap[bx]? = some (.cells #[.int .i64 y.x, .int .i64 y.m] 66)) (fun _ ti _ => Q.H.length - (intOf ti).toNat)
              case atStart => exact ⟨0, by omega, rfl, by rw [List.take_zero, show wantX y.x [] = [] from rfl, List.append_nil]; exact HA8.out, HBx8.out⟩
              case round =>
                clear HA8 HBx8 hk0 hlq
                obtain ⟨k, hk, rfl, hA9, hbx9⟩ := hrel
                obtain ⟨w9, rfl⟩ : ∃ w9 : World, w9 = wr := ⟨_, rfl⟩
                have HA9 := Lib.hid hA9
                have HBx9 := Lib.hid hbx9
                clear hA9 hbx9
                have hz9 := HA9.out.low.size
                by_cases hlt3 : k < Q.H.length
                · obtain ⟨gb, rfl, hgb, hgl⟩ := hah.resolve_left (by omega)
                  have hki3 : decide ((k : Int) < (Q.H.length : Int)) = true := by simp; omega
                  obtain ⟨d0, d1, d2, d3⟩ := hd_cells (HQ.out.below HA9.out.low).held k hlt3
                  have HS9 := Lib.hid (wantX_succ y.x Q.H k hlt3)
                  have HL9 : Hid ((L6 ++ wantX y.x (Q.H.take k)).length ≤ 6000002000) := Lib.hid (by
                    have h1 := wantX_len y.x (Q.H.take k)
                    have h2 := HQl.out
                    have h3 := HL8.out
                    rw [List.length_take] at h1
                    rw [List.length_append]; omega)
                  generalize Q.H[k] = hd at *
                  obtain ⟨L7, hL7⟩ : ∃ L7, L6 ++ wantX y.x (Q.H.take k) = L7 := ⟨_, rfl⟩
                  rw [hL7] at HA9 HL9
                  have HL7 := Lib.hid hL7
                  have hb9 : Below w9.heap.size w9 (w9.alloc (.cells #[.int .i64 hd.x, .int .i64 hd.m, .int .i64 hd.w, .int .i64 hd.t] 64)) := (Below.refl _ _).alloc (Nat.le_refl _) _
                  have HA10 := Lib.hid (HA9.out.below hb9)
                  have hbxl := (Array.getElem?_eq_some_iff.1 HBx9.out).1
                  have HBx10 := Lib.hid ((hb9.block bx hbxl).trans HBx9.out)
                  have hbc0 : w9.cell? ⟨bx, 0, none⟩ = some (.int .i64 y.x) := (cell_of_block HBx9.out 0).trans rfl
                  have hbxl2 : bx < w9.heap.size := hbxl
                  clear hL7 hb9
                  by_cases hw : hd.w = 0
                  · have hwb : (hd.w != 0) = false := by simp [hw]
                    have HW := Lib.hid hwb
                    clear hw
                    go_wp2_with fail
                    refine ⟨⟨k + 1, by omega, by go_num, ?_, HBx10.out⟩, by simp [intOf]; omega⟩
                    rw [HS9.out, HW.out, if_neg (by simp), List.append_nil, HL7.out]
                    exact HA10.out
                  · have hwb : (hd.w != 0) = true := by simp [hw]
                    have HW := Lib.hid hwb
                    have ho10 := own_made1 (w9.alloc (.cells #[.int .i64 hd.x, .int .i64 hd.m, .int .i64 hd.w, .int .i64 hd.t] 64)) y.x hd.x
                    rw [World.size_alloc] at ho10
                    have HA11 := Lib.hid (HA10.out.alloc (.cells #[.int .i64 y.x, .int .i64 hd.x] 48))
                    have hbx11 : ((w9.alloc (.cells #[.int .i64 hd.x, .int .i64 hd.m, .int .i64 hd.w, .int .i64 hd.t] 64)).alloc (.cells #[.int .i64 y.x, .int .i64 hd.x] 48)).heap[bx]? = some (.cells #[.int .i64 y.x, .int .i64 y.m] 66) := (Below.heap_alloc _ _ _ (by rw [World.size_alloc]; omega)).trans HBx10.out
                    have HBx11 := Lib.hid hbx11
                    have hown11 := HA11.out.own
                    have hl11 := HL9.out
                    have hz11 := HA11.out.low.size
                    clear hw hbx11
                    go_wp2_with (at_builtin; refine app_pr rfl _ _ rfl w.heap.size _ _ (.slice (some ⟨w9.heap.size + 1, 0, none⟩) 1 1) L7 [(y.x, hd.x)] rfl hown11 rfl ho10 (by omega) (by simp) hz11 ?_)
                    intro v12 w12 ho12 hg12
                    have HA12 := Lib.hid (HA11.out.grown (L' := L7 ++ [(y.x, hd.x)]) hg12 (by rw [List.length_append]; simpa using ho12))
                    have HBx12 := Lib.hid ((hg12.block _ (Array.getElem?_eq_some_iff.1 HBx11.out).1 fun e => own_ne_bl HA11.out.own HBx11.out (by decide) e.symm).trans HBx11.out)
                    clear ho10 hown11 ho12 hg12 hl11 hz11 HA11 HBx11 HA10 HBx10
                    go_wp2_with fail
                    refine ⟨⟨k + 1, by omega, by go_num, ?_, HBx12.out⟩, by simp [intOf]; omega⟩
                    rw [HS9.out, HW.out, if_pos rfl, ← List.append_assoc, HL7.out]
                    exact HA12.out
                · have hki3 : decide ((k : Int) < (Q.H.length : Int)) = false := by simp; omega
                  have hkk : k = Q.H.length := by omega
                  subst hkk
                  rw [List.take_length] at HA9
                  have HL9 : Hid ((L6 ++ wantX y.x Q.H).length ≤ 6000002000) := Lib.hid (by
                    have h1 := wantX_len y.x Q.H
                    have h2 := HQl.out
                    have h3 := HL8.out
                    rw [List.length_append]; omega)
                  obtain ⟨L7, hL7⟩ : ∃ L7, L6 ++ wantX y.x Q.H = L7 := ⟨_, rfl⟩
                  rw [hL7] at HA9 HL9
                  have HL7 := Lib.hid hL7
                  have hq9 := HQ.out.below HA9.out.low
                  have hk1 := hq9.cell1
                  have hlq := (hq9.lt (.inl rfl)).2
                  have hcw : Q.W.length ≤ cw := by
                    obtain ⟨_, _, he, hc, -, -⟩ := own_cap hq9.wish
                    cases he; exact hc
                  have hs1 : i ≤ cw := by omega
                  have hs2 : (i : Int) ≤ (cw : Int) := by omega
                  have hs3 : (0 : Int) ≤ (i : Int) := Int.natCast_nonneg _
                  have hs4 : i ≤ 9223372036854775807 := by omega
                  clear hL7 hq9 hlt3
                  go_wp2_with fail
                  go_loopw [3, 92] (fun tl ti wr => ∃ j, j ≤ i ∧ ti = .int .i64 j ∧ ArcAt w nb ri M (fun j => left j ∧ j ≠ kn) cnt' tl (L7 ++ prevX y.x (Q.W.take j)) wr ∧ wr.heap[bx]? = some (.cells #[.int .i64 y.x, .int .i64 y.m] 66)) (fun _ ti _ => i - (intOf ti).toNat)
                  case atStart => exact ⟨0, by omega, rfl, by rw [List.take_zero, show prevX y.x [] = [] from rfl, List.append_nil]; exact HA9.out, HBx9.out⟩
                  case round =>
                    clear HA9 HBx9 hk1 hlq
                    obtain ⟨j, hj, rfl, hA13, hbx13⟩ := hrel
                    obtain ⟨w13, rfl⟩ : ∃ w13 : World, w13 = wr := ⟨_, rfl⟩
                    have HA13 := Lib.hid hA13
                    have HBx13 := Lib.hid hbx13
                    clear hA13 hbx13
                    have hz13 := HA13.out.low.size
                    by_cases hlt4 : j < i
                    · have hki4 : decide ((j : Int) < (i : Int)) = true := by simp; omega
                      have hjw : j < Q.W.length := by omega
                      obtain ⟨d0, d1⟩ := ws_cells (HQ.out.below HA13.out.low).wish j hjw
                      have HS13 := Lib.hid (prevX_succ y.x Q.W j hjw)
                      have HL13 : Hid ((L7 ++ prevX y.x (Q.W.take j)).length ≤ 6000004000) := Lib.hid (by
                        have h2 := HQl.out
                        have h3 := HL9.out
                        rw [List.length_append, prevX, List.length_map, List.length_take]; omega)
                      generalize Q.W[j] = z at *
                      obtain ⟨L8, hL8⟩ : ∃ L8, L7 ++ prevX y.x (Q.W.take j) = L8 := ⟨_, rfl⟩
                      rw [hL8] at HA13 HL13
                      have HL8' := Lib.hid hL8
                      have hb13 : Below w13.heap.size w13 (w13.alloc (.cells #[.int .i64 z.x, .int .i64 z.m] 66)) := (Below.refl _ _).alloc (Nat.le_refl _) _
                      have HA14 := Lib.hid (HA13.out.below hb13)
                      have hbxl := (Array.getElem?_eq_some_iff.1 HBx13.out).1
                      have HBx14 := Lib.hid ((hb13.block bx hbxl).trans HBx13.out)
                      have hbc0 : w13.cell? ⟨bx, 0, none⟩ = some (.int .i64 y.x) := (cell_of_block HBx13.out 0).trans rfl
                      have hbxl2 : bx < w13.heap.size := hbxl
                      have ho14 := own_made1 (w13.alloc (.cells #[.int .i64 z.x, .int .i64 z.m] 66)) y.x z.x
                      rw [World.size_alloc] at ho14
                      have HA15 := Lib.hid (HA14.out.alloc (.cells #[.int .i64 y.x, .int .i64 z.x] 48))
                      have hbx15 : ((w13.alloc (.cells #[.int .i64 z.x, .int .i64 z.m] 66)).alloc (.cells #[.int .i64 y.x, .int .i64 z.x] 48)).heap[bx]? = some (.cells #[.int .i64 y.x, .int .i64 y.m] 66) := (Below.heap_alloc _ _ _ (by rw [World.size_alloc]; omega)).trans HBx14.out
                      have HBx15 := Lib.hid hbx15
                      have hown15 := HA15.out.own
                      have hl15 := HL13.out
                      have hz15 := HA15.out.low.size
                      clear hL8 hb13 hbx15
                      go_wp2_with (at_builtin; refine app_pr rfl _ _ rfl w.heap.size _ _ (.slice (some ⟨w13.heap.size + 1, 0, none⟩) 1 1) L8 [(y.x, z.x)] rfl hown15 rfl ho14 (by omega) (by simp) hz15 ?_)
                      intro v16 w16 ho16 hg16
                      have HA16 := Lib.hid (HA15.out.grown (L' := L8 ++ [(y.x, z.x)]) hg16 (by rw [List.length_append]; simpa using ho16))
                      have HBx16 := Lib.hid ((hg16.block _ (Array.getElem?_eq_some_iff.1 HBx15.out).1 fun e => own_ne_bl HA15.out.own HBx15.out (by decide) e.symm).trans HBx15.out)
                      clear ho14 hown15 ho16 hg16 hl15 hz15 HA15 HBx15 HA14 HBx14
                      go_wp2_with fail
                      refine ⟨⟨j + 1, by omega, by go_num, ?_, HBx16.out⟩, by simp [intOf]; omega⟩
                      rw [HS13.out, ← List.append_assoc, HL8'.out]
                      exact HA16.out
                    · have hki4 : decide ((j : Int) < (i : Int)) = false := by simp; omega
                      have hjj : j = i := by omega
                      subst hjj
                      clear hki4 hs1 hs2 hs3
                      have hk9 : ¬ j < j := by omega
                      go_wp2_with fail
                      refine ⟨⟨j + 1, by omega, by go_num, ?_⟩, by simp [intOf]; omega⟩
                      rw [HS.out, HK5.out, ← List.append_assoc, ← List.append_assoc, ← List.append_assoc, HLL5.out, HL6.out, HL7.out]
                      exact HA13.out
            · have hki2 : decide ((i : Int) < (Q.W.length : Int)) = false := by simp; omega
              have hii : i = Q.W.length := by omega
              subst hii
              go_wp2_with fail
              go_roundg cnt'
              case measure => have := HLt.out; have := HCnt.out; omega
              case rel =>
                have hall : L1 ++ wArcs Q Q.W.length = L ++ arcsQ Q := by rw [← HL1.out, List.append_assoc]; rfl
                have hA := HA5.out
                rw [hall] at hA
                refine ⟨L ++ arcsQ Q, _, cnt', hA, fun p => ?_, ?_, Nat.le_refl _⟩
                · rw [List.mem_append, HMem.out p]
                  constructor
                  · rintro (⟨n, h1, h2, h3⟩ | h)
                    · exact ⟨n, h1, fun h => h2 h.1, h3⟩
                    · exact ⟨kn, HKk.out, fun h => h.2 rfl, by rw [HEn.out]; exact h⟩
                  · rintro ⟨n, h1, h2, h3⟩
                    by_cases hn : n = kn
                    · rw [hn, HEn.out] at h3
                      exact .inr h3
                    · exact .inl ⟨n, h1, fun h => h2 ⟨h, hn⟩, h3⟩
                · have h1 := HLen.out
                  have h2 := HLt.out
                  have h3 := arcsQ_len Q HQl.out
                  have h4 : (cnt' + 1) * 4000000 ≤ cnt * 4000000 := Nat.mul_le_mul_right _ h2
                  rw [List.length_append]
                  rw [Nat.add_mul] at h4
                  omega
end
end Go.Proofs.Ytileamjmhhifaaa
