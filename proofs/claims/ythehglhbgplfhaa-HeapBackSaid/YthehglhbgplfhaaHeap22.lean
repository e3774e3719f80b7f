/-
  Layer 15 (heap): the walk of HeapBack.
-/
import Derived.Test.YthehglhbgplfhaaHeap21
namespace Go.Proofs.Ythehglhbgplfhaa
open Go.RowKit Go.Joins
set_option linter.unusedVariables false
set_option linter.unusedSimpArgs false

set_option maxHeartbeats 1000000 in
theorem format_small (b : Nat) (n : Int) (w : World) (h : n < 4) :
    Calls Try.prog 15 #[.pointer (some ⟨b, 0, none⟩), .int .i64 n] w fun e w' => e = .returned (.int .i64 1) ∧ w = w' := by
  go_enter Try.func15, Try.ntmps15
  go_wp2_with fail
  go_ret
  exact ⟨rfl, rfl⟩
theorem own_pk {w w' : World} {B n s : Nat} {e : TypeId} {v : Value} {xs : List Value} {cs : List Nat} (h : w.ownsRow B e s v n xs) (hp : Poked cs w w') (hc : ∀ q ∈ cs, v.ownBlock ≠ some q) : w'.ownsRow B e s v n xs := by
  refine ⟨h.1, ?_⟩
  rcases h.2 with h0 | ⟨g, cap, cur, rfl, h1, h2, h3⟩
  · exact .inl h0
  · exact .inr ⟨g, cap, cur, rfl, h1, (hp.block g (Array.getElem?_eq_some_iff.1 h2).1 (fun hm => hc g hm rfl)).trans h2, h3⟩
/-- a row of something else than pages lies apart from a stage -/
theorem own_st {w : World} {B n s : Nat} {e : TypeId} {v : Value} {xs : List Value} {b mb hb pb : Nat} {S : Vol} (h : w.ownsRow B e s v n xs) (he : e ≠ 41) (hs : StageAt w b mb hb pb S) : ∀ q ∈ [mb, pb], v.ownBlock ≠ some q := by
  intro q hq e'
  obtain ⟨-, ⟨es, c, hm, -⟩, hsh, -⟩ := hs
  rcases h.2 with ⟨rfl, _⟩ | ⟨g, cap, cur, rfl, _, hg, _⟩
  · cases e'
  · simp only [Value.ownBlock, Option.some.injEq] at e'
    subst e'
    simp only [List.mem_cons, List.not_mem_nil, or_false] at hq
    rcases hq with rfl | rfl
    · rw [hg] at hm; cases hm
    · have := hsh.2.1
      rw [hg] at this
      simp only [Option.some.injEq, Obj.cells.injEq] at this
      exact he this.2.1
theorem own_gr {w w' : World} {B n s mb pb : Nat} {e : TypeId} {v : Value} {xs : List Value} (h : w.ownsRow B e s v n xs) (hg : w.grownBy w' (some mb)) (hc : ∀ q ∈ [mb, pb], v.ownBlock ≠ some q) : w'.ownsRow B e s v n xs :=
  own_pk h (Poked.of_grown (cs := [mb, pb]) hg (by simp)) hc
theorem own_zero {w : World} {B n s : Nat} {e : TypeId} {v : Value} {xs : List Value} (h : w.ownsRow B e s v n xs) : w.ownsRow 0 e s v n xs := by
  refine ⟨h.1, ?_⟩
  rcases h.2 with h0 | ⟨g, cap, cur, h1, -, h2⟩
  · exact .inl h0
  · exact .inr ⟨g, cap, cur, h1, Nat.zero_le _, h2⟩

theorem own_not {w : World} {B n s q : Nat} {e t : TypeId} {v : Value} {xs : List Value} {c : Array Value} (h : w.ownsRow B e s v n xs) (hq : w.heap[q]? = some (.cells c t)) (he : e ≠ t) : some q ≠ v.ownBlock := by
  rcases own_ne_blk h hq he with h1 | h1
  · rw [h1]; simp
  · exact Ne.symm h1
/-- a row of undos grows beside a stage -/
theorem One.appended {w0 w w' : World} {b mb hb pb n : Nat} {S : Vol} {v : Value} {xs : List Value} (h : One w0 w b mb hb pb S) (hg : w.grownBy w' v.ownBlock) (ho : w.ownsRow w0.heap.size 36 7 v n xs) : One w0 w' b mb hb pb S := by
  have hm : some mb ≠ v.ownBlock := fun e => own_st ho (by decide) h.st mb (by simp) e.symm
  have hl := h.st.lt
  obtain ⟨t1, ⟨es, c, t2, t3⟩, ⟨t4, t5, t6⟩, t7⟩ := h.st
  refine ⟨h.low.grown hg h.low.size (fun q hq => (ho.lt q hq).1), ⟨(hg.block b hl.1 (own_not ho t1 (by decide))).trans t1, ⟨es, c, (hg.block mb hl.2.1 hm).trans t2, t3⟩, ⟨(hg.block hb hl.2.2.1 (own_not ho t4 (by decide))).trans t4, (hg.block pb hl.2.2.2 (own_not ho t5 (by decide))).trans t5, t6⟩, t7⟩, h.hi⟩
/-- one change is taken back -/
theorem Hist.back {C0 C D : List Pg} {U : List Un} {u : Un} (h : Hist C0 (u :: U) C) (hs : SameC D C) (hl : C.length ≤ D.length) :
    ∃ (k i : Nat) (Cp : List Pg), k < D.length ∧ i < 6 ∧ u.kind = 1 ∧ u.page = ((2 + k : Nat) : Int) ∧ u.slot = (i : Int) ∧ okC u.st u.d = true ∧ Hist C0 U Cp ∧ Cp.length ≤ D.length ∧ ∀ hk : k < D.length, SameC (D.set k (D[k].setC i u.st u.d)) Cp := by
  obtain ⟨Cp, h1, h2, h3, k, i, h4, h5, h6, h7, h8, h9, h10, h11⟩ := h
  refine ⟨k, i, Cp, by omega, h5, h3, h6, h7, h10, h1, by omega, fun hk k' i' hi' => ?_⟩
  have hc := cell_set hk i h5 u.st u.d k' i' hi'
  rw [hc.1, hc.2]
  by_cases e : k' = k ∧ i' = i
  · obtain ⟨rfl, rfl⟩ := e
    rw [if_pos ⟨rfl, rfl⟩, if_pos ⟨rfl, rfl⟩]
    exact ⟨h8, h9⟩
  · rw [if_neg e, if_neg e]
    have a := hs k' i' hi'
    have c := h11 k' i' hi' e
    exact ⟨a.1.trans c.1, a.2.trans c.2⟩

def BackAt (w wr : World) (b mb hb pb n N : Nat) : Prop := ∃ S C, One w wr b mb hb pb S ∧ Clean S n N C

theorem back_bad (n : Int) (h : n < 4 ∨ 32 < n) (vp up : Value) (w : World) :
    Calls Try.prog 9 #[.int .i64 n, vp, up] w fun e w' => e = .returned (.bool true) ∧ Below w.heap.size w w' := by
  have HA := Lib.hid (fun (w' : World) => awake15 w')
  have HM := Lib.hid (fun (w' : World) => memory_ok 32 (by omega) (by omega) w')
  have HN := Lib.hid (fun hb pb w' hB h h2 => new_one hb pb (List.replicate 32 Pg.zero) w w' hB h h2)
  by_cases h32 : 32 < n
  · clear h
    go_enter Try.func9, Try.ntmps9
    go_wp2_with fail
    refine (HA.out _).mono ?_; rintro e w0 ⟨rfl, hb0⟩
    have K0 := Lib.hid hb0
    clear hb0
    go_wp2_with fail
    refine (HM.out _).mono ?_; rintro e w1 ⟨hb, pb, rfl, hb1, q1, q2, hs1⟩
    have hz := K0.out.size
    have K1 : Hid (Below w.heap.size w w1) := Lib.hid (K0.out.trans (hb1.mono hz))
    have K2 := Lib.hid hs1
    clear hb1 hs1
    go_wp2_with fail
    refine (HN.out hb pb _ K1.out K2.out (by omega)).mono ?_; rintro e w2 ⟨b, mb, rfl, h2⟩
    have K3 := Lib.hid h2
    clear h2
    go_wp2_with fail
    go_ret
    exact ⟨rfl, K3.out.low⟩
  · have h4 : n < 4 := by omega
    have HFo := Lib.hid (fun b w' => format_small b n w' h4)
    clear h
    go_enter Try.func9, Try.ntmps9
    go_wp2_with fail
    refine (HA.out _).mono ?_; rintro e w0 ⟨rfl, hb0⟩
    have K0 := Lib.hid hb0
    clear hb0
    go_wp2_with fail
    refine (HM.out _).mono ?_; rintro e w1 ⟨hb, pb, rfl, hb1, q1, q2, hs1⟩
    have hz := K0.out.size
    have K1 : Hid (Below w.heap.size w w1) := Lib.hid (K0.out.trans (hb1.mono hz))
    have K2 := Lib.hid hs1
    clear hb1 hs1
    go_wp2_with fail
    refine (HN.out hb pb _ K1.out K2.out (by omega)).mono ?_; rintro e w2 ⟨b, mb, rfl, h2⟩
    have K3 := Lib.hid h2
    clear h2
    go_wp2_with fail
    refine (HFo.out _ _).mono ?_; rintro e w3 ⟨rfl, rfl⟩
    go_wp2_with fail
    go_ret
    exact ⟨rfl, K3.out.low⟩

set_option maxHeartbeats 8000000 in
set_option maxRecDepth 100000 in
theorem back_good (n : Nat) (hn4 : 4 ≤ n) (hn32 : n ≤ 32) (vp : Option Addr) (len cap : Nat) (V : List Cl) (up : Option Addr) (ul uc : Nat) (X : List Cl) (w : World) (hV : ClsIn w vp len V) (hX : ClsIn w up ul X) (hsz : ul * 240 ≤ 140737488351232) :
    Calls Try.prog 9 #[.int .i64 n, .slice vp len cap, .slice up ul uc] w fun e w' => e = .returned (.bool true) ∧ Below w.heap.size w w' := by
  have HA := Lib.hid (fun (w' : World) => awake15 w')
  have HM := Lib.hid (fun (w' : World) => memory_ok 32 (by omega) (by omega) w')
  have HN := Lib.hid (fun hb pb w' hB h h2 => new_one hb pb (List.replicate 32 Pg.zero) w w' hB h h2)
  have HFo := Lib.hid (fun b mb hb pb w' hs => format_start 32 n hn4 (by omega) b mb hb pb w' hs)
  have HMa := Lib.hid (fun b mb hb pb w' hs => make_start 32 n hn4 (by omega) hn32 b mb hb pb w' hs)
  have HLa := Lib.hid (fun b mb hb pb w' hs => land_any (H0_fit 32 n hn4 hn32 (by omega)) 0 b mb hb pb w' hs)
  obtain ⟨i0, hi, hz0, hz1, hz2⟩ := info_parts infoUn
  have HV := Lib.hid hV
  have HX := Lib.hid hX
  have hl1 := hV.1
  have hl2 := hV.2.1
  have hx1 := hX.1
  have hx2 := hX.2.1
  have n0 : (4 : Int) ≤ (n : Int) := by omega
  have n1 : (n : Int) ≤ 32 := by omega
  clear hV hX
  go_enter Try.func9, Try.ntmps9
  go_wp2_with fail
  refine (HA.out _).mono ?_; rintro e w0 ⟨rfl, hb0⟩
  have K0 := Lib.hid hb0
  clear hb0
  go_wp2_with fail
  refine (HM.out _).mono ?_; rintro e w1 ⟨hb, pb, rfl, hb1, q1, q2, hs1⟩
  have hz := K0.out.size
  have K1 : Hid (Below w.heap.size w w1) := Lib.hid (K0.out.trans (hb1.mono hz))
  have K2 := Lib.hid hs1
  clear hb1 hs1
  go_wp2_with fail
  refine (HN.out hb pb _ K1.out K2.out (by omega)).mono ?_; rintro e w2 ⟨b, mb, rfl, h2⟩
  have K3 := Lib.hid h2
  clear h2
  go_wp2_with fail
  refine (HFo.out b mb hb pb _ K3.out.st).mono ?_; rintro e w3 ⟨rfl, g3, s3⟩
  have K4 := Lib.hid (K3.out.grow g3 s3)
  clear g3 s3
  go_wp2_with fail
  refine (HMa.out b mb hb pb _ K4.out.st).mono ?_; rintro e w4 ⟨rfl, g4, s4⟩
  have K5 := Lib.hid (K4.out.grow g4 s4)
  clear g4 s4
  go_wp2_with fail
  refine (HLa.out b mb hb pb _ K5.out.st).mono ?_; rintro e w5 ⟨rfl, p5, s5⟩
  have K6 : Hid (BackAt w w5 b mb hb pb n 32) := Lib.hid ⟨_, _, K5.out.poke p5 s5, clean_start 32 n hn4 hn32 (by omega)⟩
  clear p5 s5
  go_wp2_with fail
  go_loopw [45] (fun i wr => ∃ j : Nat, j ≤ len ∧ i = .int .i64 j ∧ BackAt w wr b mb hb pb n 32) (fun i _ => len - (intOf i).toNat)
  case atStart => exact ⟨0, by omega, rfl, K6.out⟩
  case round =>
    obtain ⟨j, hj, rfl, S, C, hO, hC⟩ := hrel
    obtain ⟨wo, rfl⟩ : ∃ wo : World, wo = wr := ⟨_, rfl⟩
    have HO := Lib.hid hO
    have HC := Lib.hid hC
    by_cases hlt : j < len
    · have hVr := HV.out.below hO.low
      obtain ⟨bv, off, hvp, hbv, hrow⟩ := hVr.2.2.resolve_left (by omega)
      subst hvp
      obtain ⟨hrg, hok⟩ := hrow j (by omega)
      have hld := load_clIn hrg
      generalize V[j] = c at *
      have hO1 := hO.alloc (.cells c.cs 79)
      have hok1 := hok.below ((Below.refl wo.heap.size wo).alloc (Nat.le_refl _) (.cells c.cs 79))
      have HD := Lib.hid (do_any hC c b mb hb pb _ hO1.st hok1)
      have HO1 := Lib.hid hO1
      have hlv := load_clVar (rowAt_at wo c.cs 79 _ rfl)
      clear hVr hrow hbv hO hC hrg hok hO1 hok1
      go_wp2_with fail
      refine HD.out.mono ?_; rintro r w6 ⟨u, e, C', S', rfl, hp, hs, hcl, -⟩
      have K7 : Hid (BackAt w w6 b mb hb pb n 32) := Lib.hid ⟨S', C', HO1.out.poke hp hs, hcl⟩
      clear hp hs hcl
      go_wp2_with fail
      go_roundw
      case rel => exact ⟨j + 1, by omega, by go_num, K7.out⟩
      case measure => simp [intOf]; omega
    · have HL := Lib.hid (list_any hC.heap b mb hb pb wo hO.st)
      have htop := hC.heap.top
      have hrl := recs_len 2 C
      clear hO hC
      go_wp2_with fail
      refine HL.out.mono ?_; rintro e w7 ⟨v, rfl, hb7, hown⟩
      have K7 := Lib.hid (HO.out.below hb7)
      have hrl2 : (recs 2 C).length ≤ 200 := by omega
      obtain ⟨R, hR⟩ : ∃ R, recs 2 C = R := ⟨_, rfl⟩
      rw [hR] at hown hrl2
      have HOwn := Lib.hid (own_zero hown)
      have HR := Lib.hid hR
      clear hb7 hown hR hrl
      go_wp2_with fail
      go_loopw [14, 63] (fun uv ii wz => ∃ m : Nat, m ≤ ul ∧ ii = .int .i64 m ∧ ∃ S1 C1 U, One w wz b mb hb pb S1 ∧ Clean S1 n 32 C1 ∧ Hist C U C1 ∧ wz.ownsRow 0 90 3 v R.length (prRow R) ∧ wz.ownsRow w.heap.size 36 7 uv U.reverse.length (unRow U.reverse) ∧ U.reverse.length ≤ m) (fun _ ii _ => ul - (intOf ii).toNat)
      case atStart => exact ⟨0, by omega, rfl, S, C, [], K7.out, HC.out, ⟨SameC.refl C, Nat.le_refl _⟩, HOwn.out, World.ownsRow_nil _ _ _ _, by simp⟩
      case round =>
        obtain ⟨m, hm, rfl, S1, C1, U, hO1, hC1, hH1, hR1, hU1, hUm⟩ := hrel
        obtain ⟨wp, rfl⟩ : ∃ wp : World, wp = wr := ⟨_, rfl⟩
        by_cases hltm : m < ul
        · have hXr := HX.out.below hO1.low
          obtain ⟨bv, off, hvp, hbv, hrow⟩ := hXr.2.2.resolve_left (by omega)
          subst hvp
          obtain ⟨hrg, hok⟩ := hrow m (by omega)
          have hld := load_clIn hrg
          generalize X[m] = c at *
          have hO2 := hO1.alloc (.cells c.cs 79)
          have hok2 := hok.below ((Below.refl wp.heap.size wp).alloc (Nat.le_refl _) (.cells c.cs 79))
          have HD := Lib.hid (do_any hC1 c b mb hb pb _ hO2.st hok2)
          have HO2 := Lib.hid hO2
          have HR2 := Lib.hid (hR1.alloc (.cells c.cs 79))
          have HU2 := Lib.hid (hU1.alloc (.cells c.cs 79))
          have HH1 := Lib.hid hH1
          have hlv := load_clVar (rowAt_at wp c.cs 79 _ rfl)
          clear hXr hrow hbv hO1 hC1 hrg hok hO2 hok2 hR1 hU1 hH1
          go_wp2_with fail
          refine HD.out.mono ?_; rintro r w6 ⟨u, e, C2, S2, rfl, hp, hs, hcl, hst⟩
          have hO6 := HO2.out.poke hp hs
          have hR6 := own_pk HR2.out hp (own_st HR2.out (by decide) HO2.out.st)
          have hU6 := own_pk HU2.out hp (own_st HU2.out (by decide) HO2.out.st)
          have hO7 := hO6.alloc (.cells u.cs 36)
          have R17 := rowAt_at w6 u.cs 36 _ rfl
          have ck := (cell_row R17 0).trans (show _ = some (.int .i64 u.kind) from rfl)
          have HO7 := Lib.hid hO7
          have HC2 := Lib.hid hcl
          have HR7 := Lib.hid (hR6.alloc (.cells u.cs 36))
          have HU7 := Lib.hid (hU6.alloc (.cells u.cs 36))
          clear hp hs hcl hO6 hR6 hU6 hO7
          rcases HH1.out.step hst with ⟨rfl, hk1, hh⟩ | ⟨he, hh⟩
          · rw [hk1] at ck
            have HHn := Lib.hid hh
            clear hst hh hk1
            have hlow7 := HO7.out.low.size
            rw [World.size_alloc] at hlow7
            go_wp2_with (at_builtin; refine wpList_append_own _ rfl _ _ 93 rfl w.heap.size 36 i0 _ 7 72 Try.underlying93 hi hz0 hz1 hz2 rfl (by decide) _ _ _ rfl (HU7.out.alloc _) ⟨w6.heap.size + 1, 0, none⟩ 1 1 u.cs.toList rfl rfl ?c1 ?c2 ?c3 ?c4 ?c5 ?_)
            case c1 =>
              have hn := heap_alloc_new (w6.alloc (.cells u.cs 36)) (.cells u.cs 36)
              rw [World.size_alloc] at hn
              exact World.news_of_block hn
            case c2 => intro x hx; simp [Un.cs] at hx; rcases hx with rfl | rfl | rfl | rfl | rfl | rfl | rfl <;> rfl
            case c3 => simp only [maxLen]; omega
            case c4 => omega
            case c5 => simp only [World.size_alloc]; omega
            intro v9 w9 hown9 hgrow _
            have hU8 := HU7.out.alloc (.cells u.cs 36)
            have hR8 := HR7.out.alloc (.cells u.cs 36)
            have hO9 := (HO7.out.alloc (.cells u.cs 36)).appended hgrow hU8
            have hR9 := hR8.kept hgrow (own_ne hR8 hU8 (by decide))
            have hU9 : w9.ownsRow w.heap.size 36 7 v9 (u :: U).reverse.length (unRow (u :: U).reverse) := by
              rw [List.reverse_cons, unRow_snoc, List.length_append, List.length_singleton, List.length_reverse]
              exact hown9
            have HO9 := Lib.hid hO9
            have HR9 := Lib.hid hR9
            have HU9 := Lib.hid hU9
            clear hown9 hgrow hU8 hR8 hO9 hR9 hU9
            go_wp2_with fail
            go_roundw
            case rel => exact ⟨m + 1, by omega, by go_num, S2, C2, u :: U, HO9.out, HC2.out, HHn.out, HR9.out, HU9.out, by simp at hUm ⊢; omega⟩
            case measure => simp [intOf]; omega
          · have HHn := Lib.hid hh
            by_cases he0 : e = 0
            · subst he0
              have hk0 : u.kind = 0 := he.resolve_left (by simp)
              rw [hk0] at ck
              clear hst hh he
              go_wp2_with fail
              go_roundw
              case rel => exact ⟨m + 1, by omega, by go_num, S2, C2, U, HO7.out, HC2.out, HHn.out, HR7.out, HU7.out, by omega⟩
              case measure => simp [intOf]; omega
            · have e1 : (e == 0) = false := by simp [he0]
              clear hst hh he
              go_wp2_with fail
              go_roundw
              case rel => exact ⟨m + 1, by omega, by go_num, S2, C2, U, HO7.out, HC2.out, HHn.out, HR7.out, HU7.out, by omega⟩
              case measure => simp [intOf]; omega
        · rw [List.length_reverse] at hU1 hUm
          obtain ⟨ua, uc', hv⟩ : ∃ ua uc', u14 = .slice ua U.length uc' := by
            rcases ownsRow_forms hU1 with ⟨h1, h2⟩ | ⟨g, c, h1⟩
            · exact ⟨_, _, by rw [h1, h2]⟩
            · exact ⟨_, _, h1⟩
          subst hv
          have HO1 := Lib.hid hO1
          have HC1 := Lib.hid hC1
          have HH1 := Lib.hid hH1
          have HR1 := Lib.hid hR1
          have HU1 := Lib.hid hU1
          have hul : U.reverse.length = U.length := List.length_reverse
          have hub : U.length ≤ 600000000000 := by omega
          clear hO1 hC1 hH1 hR1 hU1
          go_wp2_with fail
          go_loopw [19] (fun ii wz => ∃ (m : Nat) (x : Int), m ≤ U.length ∧ ii = .int .i64 x ∧ x = (m : Int) - 1 ∧ ∃ S3 D C3, One w wz b mb hb pb S3 ∧ HeapOk S3 n D ∧ Hist C (U.drop (U.length - m)) C3 ∧ SameC D C3 ∧ C3.length ≤ D.length ∧ wz.ownsRow 0 90 3 v R.length (prRow R) ∧ wz.ownsRow w.heap.size 36 7 (.slice ua U.length uc') U.length (unRow U.reverse)) (fun ii _ => (intOf ii + 1).toNat)
          case atStart => exact ⟨U.length, _, Nat.le_refl _, rfl, by simp, S1, C1, C1, HO1.out, HC1.out.heap, by simpa using HH1.out, SameC.refl C1, Nat.le_refl _, HR1.out, HU1.out⟩
          case round =>
            obtain ⟨m2, x, hm2, rfl, hx, S3, D, C3, hO3, hH3, hHi, hSa, hle, hR3, hU3⟩ := hrel
            obtain ⟨wq, rfl⟩ : ∃ wq : World, wq = wr := ⟨_, rfl⟩
            by_cases hpos : 0 < m2
            · obtain ⟨m3, rfl⟩ : ∃ m3, m2 = m3 + 1 := ⟨m2 - 1, by omega⟩
              obtain rfl : x = (m3 : Int) := by omega
              clear hx
              obtain ⟨g, cap', hv⟩ := ownsRow_form hU3 (by omega)
              simp only [Value.slice.injEq] at hv
              obtain ⟨rfl, -, rfl⟩ := hv
              have hlr : m3 < U.reverse.length := by omega
              have hlu := load_un hU3 m3 hlr
              have hlu2 := hU3
              have hidx : U.length - (m3 + 1) < U.length := by omega
              have hel : U.reverse[m3] = U[U.length - (m3 + 1)] := by
                rw [List.getElem_reverse]
                congr 1
                omega
              rw [hel] at hlu
              rw [List.drop_eq_getElem_cons hidx] at hHi
              have hd : U.length - (m3 + 1) + 1 = U.length - m3 := by omega
              rw [hd] at hHi
              generalize U[U.length - (m3 + 1)] = u at *
              obtain ⟨k, i, Cp, hk, hi6, hu1, hu2, hu3, hu4, hh, hl3, hsame⟩ := hHi.back hSa hle
              have HRe := Lib.hid (restore_ok hH3 b mb hb pb u k i hk hi6 hu1 hu2 hu3 hu4 wq hO3.st)
              have hsc := h_setC D[k] i hi6 u.st u.d
              have hH4 := hH3.set k hk (D[k].setC i u.st u.d) (ok_setC (hH3.ok k hk) i hi6 u.st u.d hu4) ⟨hsc.1, hsc.2.2.1, hsc.2.2.2⟩
              have HO3 := Lib.hid hO3
              have HH4 := Lib.hid hH4
              have HHh := Lib.hid hh
              have HSa := Lib.hid (hsame hk)
              have HR3 := Lib.hid hR3
              have HU3 := Lib.hid hU3
              have HLe : Hid (Cp.length ≤ (D.set k (D[k].setC i u.st u.d)).length) := Lib.hid (by rw [List.length_set]; exact hl3)
              have hml : (m3 : Int) < ((U.length : Nat) : Int) := by omega
              clear hO3 hH3 hHi hSa hle hR3 hU3 hlu2 hel hidx hd hu1 hu2 hu3 hu4 hh hsame hsc hH4
              go_wp2_with fail
              refine HRe.out.mono ?_; rintro e w8 ⟨rfl, hg8, hs8⟩
              have HO8 := Lib.hid (HO3.out.grow hg8 hs8)
              have HR8 := Lib.hid (own_gr HR3.out hg8 (own_st HR3.out (by decide) HO3.out.st))
              have HU8 := Lib.hid (own_gr HU3.out hg8 (own_st HU3.out (by decide) HO3.out.st))
              clear hg8 hs8
              go_wp2_with fail
              go_roundw
              case rel => exact ⟨m3, _, by omega, rfl, by go_num, _, _, Cp, HO8.out, HH4.out, HHh.out, HSa.out, HLe.out, HR8.out, HU8.out⟩
              case measure => simp [intOf]
            · obtain rfl : m2 = 0 := by omega
              obtain rfl : x = -1 := by omega
              have e1 : decide ((0 : Int) ≤ -1) = false := rfl
              clear hx
              have hDC : SameC D C := by
                rw [Nat.sub_zero, List.drop_length] at hHi
                exact hSa.trans hHi.1
              have HL2 := Lib.hid (list_any hH3 b mb hb pb wq hO3.st)
              have hRR : recs 2 D = R := (recs_same hDC).trans HR.out
              rw [hRR] at HL2
              have HO3 := Lib.hid hO3
              have HR3 := Lib.hid hR3
              clear hO3 hH3 hHi hSa hle hR3 hU3 hDC hRR
              go_wp2_with fail
              refine HL2.out.mono ?_; rintro e w8 ⟨v8, rfl, hb8, hown8⟩
              have HO8 := Lib.hid (HO3.out.below hb8)
              have HS8 := Lib.hid (same15 0 _ v v8 R w8 (own_low HR3.out hb8) hown8 (by omega))
              clear hb8 hown8
              go_wp2_with fail
              refine HS8.out.mono ?_; rintro e w9 ⟨rfl, hb9⟩
              have HO9 := Lib.hid (HO8.out.below hb9)
              clear hb9
              go_wp2_with fail
              go_ret
              exact ⟨rfl, HO9.out.low⟩

theorem back_walk (n : Int) (vp : Option Addr) (len cap : Nat) (V : List Cl) (up : Option Addr) (ul uc : Nat) (X : List Cl) (w : World) (hV : ClsIn w vp len V) (hX : ClsIn w up ul X) (hsz : ul * 240 ≤ 140737488351232) :
    Calls Try.prog 9 #[.int .i64 n, .slice vp len cap, .slice up ul uc] w fun e w' => e = .returned (.bool true) ∧ Below w.heap.size w w' := by
  by_cases h : n < 4 ∨ 32 < n
  · exact back_bad n h _ _ w
  · obtain ⟨k, rfl⟩ := Int.eq_ofNat_of_zero_le (show 0 ≤ n by omega)
    exact back_good k (by omega) (by omega) vp len cap V up ul uc X w hV hX hsz

section
open Go.ChangeShapes Go.WideShapes Go.ChangeAt Go.Deep
variable {H : Type} {enc : TypeId × Value → H} {w : World} {base : Nat} {spare : Nat → Bool} {held : Bool}
set_option maxRecDepth 100000 in
/-- a slice of calls that came in, and what it weighs -/
theorem cls_sized {n : Nat} {c : Value} {x : DataW H × List MemPlace} (h : DataW.trod enc Try.prog w base spare held n 74 [c] = some x) :
    ∃ a len cap I, c = .slice a len cap ∧ ClsIn w a len I ∧ (len = 0 ∨ ∃ el sp, x.1 = .slice el sp ∧ len ≤ el.length + sp.length) := by
  obtain ⟨a, len, cap, I, hc, hI⟩ := cls_form h
  refine ⟨a, len, cap, I, hc, hI, ?_⟩
  rcases open_slice Try.underlying74 h with ⟨hcs, rfl⟩ | ⟨a', len', cap', m, n', D, Pl, hcs, hb, hl, hm, hmm, rfl, hx⟩
  · simp only [List.cons.injEq, and_true] at hcs
    rw [hc] at hcs
    simp only [Value.slice.injEq] at hcs
    exact .inl hcs.2.1
  · simp only [List.cons.injEq, and_true] at hcs
    rw [hc] at hcs
    simp only [Value.slice.injEq] at hcs
    refine .inr ⟨_, _, rfl, ?_⟩
    rw [hcs.2.1]
    simp
end
theorem bytesCl : Try.prog.bytesOf 79 = 240 := by kernel_rfl
end Go.Proofs.Ythehglhbgplfhaa
