/-
  Layer 15 (heap): the walk of HeapLists.
-/
import Derived.Test.YthehglhbgplfhaaHeap14
import Derived.Test.YthehglhbgplfhaaHeap16
import Derived.Test.YthehglhbgplfhaaHeap17
namespace Go.Proofs.Ythehglhbgplfhaa
open Go.RowKit Go.Joins
set_option linter.unusedVariables false
set_option linter.unusedSimpArgs false

/-- where a law stands: a clean heap -/
def CleanAt (w wr : World) (b mb hb pb n N : Nat) : Prop := ∃ S C, One w wr b mb hb pb S ∧ Clean S n N C

theorem own_base' {w : World} {B n s : Nat} {e : TypeId} {v : Value} {xs : List Value} (h : w.ownsRow B e s v n xs) : w.ownsRow 0 e s v n xs := by
  refine ⟨h.1, ?_⟩
  rcases h.2 with h0 | ⟨g, cap, cur, h1, -, h2⟩
  · exact .inl h0
  · exact .inr ⟨g, cap, cur, h1, Nat.zero_le _, h2⟩
theorem lists_short (vp : Option Addr) (len cap : Nat) (w : World) (h : 100 < len) (hl : len ≤ 9223372036854775807) :
    Calls Try.prog 11 #[.slice vp len cap] w fun e w' => e = .returned (.bool true) ∧ Below w.heap.size w w' := by
  have HA := Lib.hid (fun (w' : World) => awake15 w')
  have HM := Lib.hid (fun (w' : World) => memory_ok 40 (by omega) (by omega) w')
  have HN := Lib.hid (fun hb pb w' hB h h2 => new_one hb pb (List.replicate 40 Pg.zero) w w' hB h h2)
  go_enter Try.func11, Try.ntmps11
  go_wp2_with fail
  refine (HA.out _).mono ?_; rintro e w0 ⟨rfl, hb0⟩
  have K0 := Lib.hid hb0
  clear hb0
  go_wp2_with fail
  refine (HM.out _).mono ?_; rintro e w1 ⟨hb, pb, rfl, hb1, q1, q2, hs1⟩
  have hz := K0.out.size
  have K1 : Hid (Below w.heap.size w w1) := Lib.hid (K0.out.trans (hb1.mono hz))
  have K2 := Lib.hid hs1
  clear hb1 hs1
  go_wp2_with fail
  refine (HN.out hb pb _ K1.out K2.out (by omega)).mono ?_; rintro e w2 ⟨b, mb, rfl, h2⟩
  have K3 := Lib.hid h2
  clear h2
  go_wp2_with fail
  go_ret
  exact ⟨rfl, K3.out.low⟩

set_option maxHeartbeats 8000000 in
set_option maxRecDepth 100000 in
theorem lists_good (vp : Option Addr) (len cap : Nat) (V : List Cl) (w : World) (hV : ClsIn w vp len V) (h100 : ¬ 100 < len) :
    Calls Try.prog 11 #[.slice vp len cap] w fun e w' => e = .returned (.bool true) ∧ Below w.heap.size w w' := by
  have HA := Lib.hid (fun (w' : World) => awake15 w')
  have HM := Lib.hid (fun (w' : World) => memory_ok 40 (by omega) (by omega) w')
  have HN := Lib.hid (fun hb pb w' hB h h2 => new_one hb pb (List.replicate 40 Pg.zero) w w' hB h h2)
  have HFo := Lib.hid (fun b mb hb pb w' hs => format_start 40 40 (by omega) (by omega) b mb hb pb w' hs)
  have HMa := Lib.hid (fun b mb hb pb w' hs => make_start 40 40 (by omega) (by omega) (by omega) b mb hb pb w' hs)
  have HLa := Lib.hid (fun b mb hb pb w' hs => land_any (H0_fit 40 40 (by omega) (by omega) (by omega)) 0 b mb hb pb w' hs)
  have HV := Lib.hid hV
  have hl1 := hV.1
  have hl2 := hV.2.1
  clear hV
  go_enter Try.func11, Try.ntmps11
  go_wp2_with fail
  refine (HA.out _).mono ?_; rintro e w0 ⟨rfl, hb0⟩
  have K0 := Lib.hid hb0
  clear hb0
  go_wp2_with fail
  refine (HM.out _).mono ?_; rintro e w1 ⟨hb, pb, rfl, hb1, q1, q2, hs1⟩
  have hz := K0.out.size
  have K1 : Hid (Below w.heap.size w w1) := Lib.hid (K0.out.trans (hb1.mono hz))
  have K2 := Lib.hid hs1
  clear hb1 hs1
  go_wp2_with fail
  refine (HN.out hb pb _ K1.out K2.out (by omega)).mono ?_; rintro e w2 ⟨b, mb, rfl, h2⟩
  have K3 := Lib.hid h2
  clear h2
  go_wp2_with fail
  refine (HFo.out b mb hb pb _ K3.out.st).mono ?_; rintro e w3 ⟨rfl, g3, s3⟩
  have K4 := Lib.hid (K3.out.grow g3 s3)
  clear g3 s3
  go_wp2_with fail
  refine (HMa.out b mb hb pb _ K4.out.st).mono ?_; rintro e w4 ⟨rfl, g4, s4⟩
  have K5 := Lib.hid (K4.out.grow g4 s4)
  clear g4 s4
  go_wp2_with fail
  refine (HLa.out b mb hb pb _ K5.out.st).mono ?_; rintro e w5 ⟨rfl, p5, s5⟩
  have K6 : Hid (CleanAt w w5 b mb hb pb 40 40) := Lib.hid ⟨_, _, K5.out.poke p5 s5, clean_start 40 40 (by omega) (by omega) (by omega)⟩
  clear p5 s5
  go_wp2_with fail
  go_loopw [43] (fun i wr => ∃ j : Nat, j ≤ len ∧ i = .int .i64 j ∧ CleanAt w wr b mb hb pb 40 40) (fun i _ => len - (intOf i).toNat)
  case atStart => exact ⟨0, by omega, rfl, K6.out⟩
  case round =>
    obtain ⟨j, hj, rfl, S, C, hO, hC⟩ := hrel
    have HO := Lib.hid hO
    have HC := Lib.hid hC
    by_cases hlt : j < len
    · have hVr := HV.out.below hO.low
      obtain ⟨bv, off, hvp, hbv, hrow⟩ := hVr.2.2.resolve_left (by omega)
      subst hvp
      obtain ⟨hrg, hok⟩ := hrow j (by omega)
      have hld := load_clIn hrg
      generalize V[j] = c at *
      have hO1 := hO.alloc (.cells c.cs 79)
      have hok1 := hok.below ((Below.refl wr.heap.size wr).alloc (Nat.le_refl _) (.cells c.cs 79))
      have HD := Lib.hid (do_any hC c b mb hb pb _ hO1.st hok1)
      have HO1 := Lib.hid hO1
      have hlv := load_clVar (rowAt_at wr c.cs 79 _ rfl)
      clear hVr hrow hbv hO hC hrg hok hO1 hok1
      go_wp2_with fail
      refine HD.out.mono ?_; rintro r w6 ⟨u, e, C', S', rfl, hp, hs, hcl, -⟩
      have K7 : Hid (CleanAt w w6 b mb hb pb 40 40) := Lib.hid ⟨S', C', HO1.out.poke hp hs, hcl⟩
      clear hp hs hcl
      go_wp2_with fail
      go_roundw
      case rel => exact ⟨j + 1, by omega, by go_num, K7.out⟩
      case measure => simp [intOf]; omega
    · have HL := Lib.hid (list_any hC.heap b mb hb pb wr hO.st)
      have htop := hC.heap.top
      have hrl := recs_len 2 C
      clear hO hC
      go_wp2_with fail
      refine HL.out.mono ?_; rintro e w7 ⟨v, rfl, hb7, hown⟩
      have K7 := Lib.hid (HO.out.below hb7)
      have hcount := count_recs C (by omega)
      have HCt := Lib.hid hcount
      have HOwn := Lib.hid hown
      obtain ⟨va, vc, hv⟩ : ∃ va vc, v = .slice va (recs 2 C).length vc := by
        rcases ownsRow_forms hown with ⟨h1, h2⟩ | ⟨g, c, h1⟩
        · exact ⟨_, _, by rw [h1, h2]⟩
        · exact ⟨_, _, h1⟩
      subst hv
      have hsmall := recs_small (C := C) (by omega)
      have hrise := recs_rise 2 C
      have HRd := Lib.hid (fun x (hx : x ∈ recs 2 C) w' hs => read_rec HC.out.heap b mb hb pb x hx w' hs)
      have HRh := Lib.hid (fun (m : Nat) (hm : m < 9223372036854775808) w' hs => read_hit HC.out.heap b mb hb pb m hm w' hs)
      have hrl2 : (recs 2 C).length ≤ 240 := by omega
      obtain ⟨R, hR⟩ : ∃ R, recs 2 C = R := ⟨_, rfl⟩
      rw [hR] at HOwn HCt hsmall hrise HRd hrl2
      rw [hR]
      have HSm := Lib.hid hsmall
      have HRi := Lib.hid hrise
      clear hb7 hown hcount hsmall hrise hR hrl
      go_wp2_with fail
      go_loopw [10, 61] (fun la i wr => ∃ j : Nat, j ≤ R.length ∧ la = .int .i64 (lastOf R j) ∧ i = .int .i64 j ∧ One w wr b mb hb pb S ∧ wr.ownsRow 0 90 3 (.slice va R.length vc) R.length (prRow R)) (fun _ i _ => R.length - (intOf i).toNat)
      case atStart => exact ⟨0, by omega, rfl, rfl, K7.out, own_base' HOwn.out⟩
      case round =>
        obtain ⟨j, hj, rfl, rfl, hO2, hown2⟩ := hrel
        by_cases hlt2 : j < R.length
        · obtain ⟨g, cap', hv⟩ := ownsRow_form hown2 (by omega)
          simp only [Value.slice.injEq] at hv
          obtain ⟨rfl, -, rfl⟩ := hv
          obtain ⟨c0, c1, c2⟩ := pr_cells hown2 j hlt2
          have hmem := List.getElem_mem hlt2
          have hpos := HSm.out _ hmem
          have hlast := lastOf_lt HRi.out (fun x hx => (HSm.out x hx).1) j hlt2
          have hnext := lastOf_succ R j hlt2
          obtain ⟨x, hx⟩ : ∃ x, R[j] = x := ⟨_, rfl⟩
          rw [hx] at c1 c2 hmem hpos hlast hnext
          have hO3 := hO2.alloc (.cells #[.string ⟨#[]⟩, .int .i64 x.1, .string x.2] 90)
          have HR2 := Lib.hid (HRd.out x hmem _ hO3.st)
          have HO3 := Lib.hid hO3
          have HOw := Lib.hid (hown2.alloc (.cells #[.string ⟨#[]⟩, .int .i64 x.1, .string x.2] 90))
          have Rx := rowAt_at wr #[.string ⟨#[]⟩, .int .i64 x.1, .string x.2] 90 _ rfl
          have hNx := Lib.hid hnext
          have hle : decide (x.1 ≤ lastOf R j) = false := by simp; omega
          generalize lastOf R j = la at *
          clear hO2 hown2 hO3 hmem hx hnext
          go_wp2_with fail
          refine HR2.out.mono ?_; rintro e w8 ⟨rfl, hb8⟩
          have R8 := (rowAt_below hb8 (by simp)).trans Rx
          have d0 : w8.cell? ⟨wr.heap.size, 0, none⟩ = some (.string ⟨#[]⟩) := (cell_row R8 0).trans rfl
          have d1 : w8.cell? ⟨wr.heap.size, 1, none⟩ = some (.int .i64 x.1) := (cell_row R8 1).trans rfl
          have d2 : w8.cell? ⟨wr.heap.size, 2, none⟩ = some (.string x.2) := (cell_row R8 2).trans rfl
          have HO8 := Lib.hid (HO3.out.below hb8)
          have HOw8 := Lib.hid (own_low HOw.out hb8)
          clear hb8 R8 Rx c0 c1 c2
          go_wp2_with fail
          go_roundw
          case rel => exact ⟨j + 1, by omega, by rw [hNx.out], by go_num, HO8.out, HOw8.out⟩
          case measure => simp [intOf]; omega
        · have hje : j = R.length := by omega
          subst hje
          have HO2 := Lib.hid hO2
          clear hO2 hown2
          go_wp2_with fail
          go_loopw [15, 16] (fun nn id wr => ∃ m : Nat, m ≤ 320 ∧ nn = .int .i64 (cntTo C m : Nat) ∧ id = .int .i64 m ∧ One w wr b mb hb pb S) (fun _ id _ => 320 - (intOf id).toNat)
          case atStart => exact ⟨0, by omega, rfl, rfl, HO2.out⟩
          case round =>
            obtain ⟨m, hm, rfl, rfl, hO4⟩ := hrel
            by_cases hlt3 : m < 320
            · have HR4 := Lib.hid (HRh.out m (by omega) _ hO4.st)
              have HO4 := Lib.hid hO4
              have hs1 := cntTo_succ C m
              have hle2 := cntTo_le C m
              by_cases hh : hitC C m = true
              · rw [if_pos hh] at hs1 HR4
                have HS1 := Lib.hid hs1
                clear hO4 hs1 hh
                go_wp2_with fail
                refine HR4.out.mono ?_; rintro e w9 ⟨⟨d, rfl⟩, hb9⟩
                have HO9 := Lib.hid (HO4.out.below hb9)
                clear hb9
                go_wp2_with fail
                go_roundw
                case rel => exact ⟨m + 1, by omega, by first | (rw [HS1.out]; done) | (rw [HS1.out]; go_num), by go_num, HO9.out⟩
                case measure => simp [intOf]; omega
              · rw [if_neg hh] at hs1 HR4
                have HS1 := Lib.hid hs1
                clear hO4 hs1 hh
                go_wp2_with fail
                refine HR4.out.mono ?_; rintro e w9 ⟨⟨d, rfl⟩, hb9⟩
                have HO9 := Lib.hid (HO4.out.below hb9)
                clear hb9
                go_wp2_with fail
                go_roundw
                case rel => exact ⟨m + 1, by omega, by first | (rw [HS1.out]; done) | (rw [HS1.out]; go_num), by go_num, HO9.out⟩
                case measure => simp [intOf]; omega
            · have hme : m = 320 := by omega
              subst hme
              have hfin : cntTo C 320 = R.length := HCt.out
              rw [hfin]
              have HO4 := Lib.hid hO4
              clear hO4 hfin
              go_wp2_with fail
              go_ret
              exact ⟨rfl, HO4.out.low⟩

theorem lists_walk (vp : Option Addr) (len cap : Nat) (V : List Cl) (w : World) (hV : ClsIn w vp len V) :
    Calls Try.prog 11 #[.slice vp len cap] w fun e w' => e = .returned (.bool true) ∧ Below w.heap.size w w' := by
  by_cases h : 100 < len
  · exact lists_short vp len cap w h hV.1
  · exact lists_good vp len cap V w hV h
end Go.Proofs.Ythehglhbgplfhaa
