/-
  Layer 9 (locks): the walk of LocksRuns.
-/
import Derived.Test.YtileamjmhhifaaaGreatPkH
import Derived.Test.YtileamjmhhifaaaGreatFrame09b
import Derived.Deep.RegionHeld3
namespace Go.Proofs.YtileamjmhhifaaaGreat
open Go.RowKit Go.Joins Go.Sort Go.Shelf
set_option linter.unusedVariables false
set_option linter.unusedSimpArgs false

theorem same_holds9 {B1 B2 : Nat} {A : List Ho} {L : List Dr} {v1 v2 : Value} {w w' : World} (h1 : w.ownsRow B1 80 5 v1 A.length (A.flatMap hoL)) (he : A = L.map hoD) (hb : Below w.heap.size w w') (hl : L.length ≤ 4000000) (h2 : w'.ownsRow B2 80 5 v2 (L.map hoD).length ((L.map hoD).flatMap hoL)) :
    Calls Tryz.prog 14 #[v1, v2] w' fun e w'' => e = .returned (.bool true) ∧ Below w'.heap.size w' w'' := by
  subst he
  exact (sameHolds_any (L.map hoD) (by rw [List.length_map]; exact hl) (own_keep h1 fun g hg => hb.block g (h1.lt g hg).2) h2).mono fun e w'' hh => ⟨hh.1, hh.2.below⟩
theorem same_arcs9 {B1 B2 : Nat} {A L : List Pr} {v1 v2 : Value} {w w' : World} (h1 : w.ownsRow B1 86 2 v1 A.length (A.flatMap prL)) (he : A = L) (hb : Below w.heap.size w w') (hl : L.length ≤ 4000000) (h2 : w'.ownsRow B2 86 2 v2 L.length (L.flatMap prL)) :
    Calls Tryz.prog 17 #[v1, v2] w' fun e w'' => e = .returned (.bool true) ∧ Below w'.heap.size w' w'' := by
  subst he
  exact (sameArcs_any A hl (own_keep h1 fun g hg => hb.block g (h1.lt g hg).2) h2).mono fun e w'' hh => ⟨hh.1, hh.2.below⟩
set_option maxHeartbeats 32000000 in
set_option maxRecDepth 100000 in
theorem runs_walk9 (a : Option Addr) (l cp : Nat) (I : List Ca) (w : World) (hI : CasIn w a l I) :
    Calls Tryz.prog 3 #[.slice a l cp] w fun e w' => e = .returned (.bool true) ∧ Below w.heap.size w w' := by
  have HI := Lib.hid hI
  have hl9 := hI.1
  clear hI
  go_enter Tryz.func3, Tryz.ntmps3
  go_wp2_with fail
  refine (awake9 w).mono ?_
  rintro e w3 ⟨rfl, hb3⟩
  have HNew := Lib.hid (la_new hb3)
  clear hb3
  go_wp2_with fail
  refine HNew.out.mono ?_
  rintro e w4 ⟨t, O4, rfl, l4, -, -⟩
  have HT4 : Hid (TA w (w4.alloc (.cells #[.slice none 0 0, .int .i64 0] 29)) t O4 LS.empty 0 w4.heap.size (.slice none 0 0) [] 0) := Lib.hid ⟨l4.alloc _, ⟨l4.low.size, heap_alloc_new w4 _, ⟨rfl, .inl ⟨rfl, rfl⟩⟩, by simp⟩, fun i hi hd => by
    have h1 := (l4.lt.lt hi).2
    rcases hd with e | e
    · omega
    · cases e⟩
  clear l4 HNew
  obtain ⟨tb, htb⟩ : ∃ tb, w4.heap.size = tb := ⟨_, rfl⟩
  go_wp2_with fail
  rw [htb] at HT4
  clear htb
  generalize w4.alloc (.cells #[.slice none 0 0, .int .i64 0] 29) = wA at *
  go_loopw [20] (fun ti wr => ∃ (k : Nat) (O : Nat → Prop) (S : LS) (rv : Value) (R : List Dr) (T : Int), k ≤ l ∧ k ≤ 300 ∧ ti = .int .i64 k ∧ TA w wr t O S k tb rv R T ∧ Twins S R T ∧ 0 ≤ T ∧ T ≤ k ∧ R.length ≤ k) (fun ti _ => l - (intOf ti).toNat)
  case atStart => exact ⟨0, O4, LS.empty, _, [], 0, by omega, by omega, rfl, HT4.out, Twins.empty, by omega, by omega, by simp⟩
  case round =>
    clear HT4
    obtain ⟨k, O, S, rv, R, T, hk, hk2, rfl, hta, htw, hT0, hTk, hRk⟩ := hrel
    obtain ⟨wo, rfl⟩ : ∃ wo : World, wo = wr := ⟨_, rfl⟩
    have HT := Lib.hid hta
    have HTw := Lib.hid htw
    have HTR : Hid (0 ≤ T ∧ T ≤ k ∧ R.length ≤ k) := Lib.hid ⟨hT0, hTk, hRk⟩
    clear hta htw hT0 hTk hRk
    by_cases hlt : k < l
    · have hki : decide ((k : Int) < (l : Int)) = true := by simp; omega
      have hkI : k < I.length := by rw [HI.out.2.1]; exact hlt
      obtain ⟨b, off, rfl, hbl, d0, d1, d2, d3⟩ := (HI.out.below HT.out.la.low).cells k hkI
      generalize I[k] = c at *
      have hz := HT.out.la.low.size
      by_cases h200 : k = 300
      · have h2b : ((k : Int) == 300) = true := by simp; omega
        have HL2 := Lib.hid (HT.out.la.alloc (.cells #[.int .i64 c.x, .int .i64 c.n.s, .string c.n.i, .int .i64 c.m] 33))
        subst h200
        go_wp2_with fail
        go_ret
        exact ⟨rfl, HL2.out.low⟩
      · have h2b : ((k : Int) == 300) = false := by simp; omega
        have HK200 := Lib.hid (show k < 300 by omega)
        have HM5 := Lib.hid (HT.out.box (.cells #[.int .i64 c.x, .int .i64 c.n.s, .string c.n.i, .int .i64 c.m] 33))
        have HT5 := Lib.hid (HT.out.below ((Below.refl wo.heap.size wo).alloc (Nat.le_refl _) (.cells #[.int .i64 c.x, .int .i64 c.n.s, .string c.n.i, .int .i64 c.m] 33)))
        go_upto_region 11 with fail
        clear d0 d1 d2 d3 hbl HT hz h200 h2b hk2
        generalize wo.heap.size = bx at *
        generalize wo.alloc (.cells #[.int .i64 c.x, .int .i64 c.n.s, .string c.n.i, .int .i64 c.m] 33) = w5 at *
        have c0 : w5.cell? ⟨bx, 0, none⟩ = some (.int .i64 c.x) := (cell_of_block HM5.out.at' 0).trans rfl
        have c1 : w5.cell? ⟨bx, 1, none⟩ = some (.int .i64 c.n.s) := (cell_of_block HM5.out.at' 1).trans rfl
        have c2 : w5.cell? ⟨bx, 2, none⟩ = some (.string c.n.i) := (cell_of_block HM5.out.at' 2).trans rfl
        have c3 : w5.cell? ⟨bx, 3, none⟩ = some (.int .i64 c.m) := (cell_of_block HM5.out.at' 3).trans rfl
        have hbl5 := HM5.out.lt
        go_upto_if 29 with fail
        go_cut [] (fun wc => ∃ (O' : Nat → Prop) (S' : LS) (rv' : Value) (R' : List Dr) (T' : Int), TA w wc t O' S' (k + 1) tb rv' R' T' ∧ Twins S' R' T' ∧ (0 ≤ T' ∧ T' ≤ ((k + 1 : Nat) : Int) ∧ R'.length ≤ k + 1) ∧ Bx wc O' tb rv' bx (.cells #[.int .i64 c.x, .int .i64 c.n.s, .string c.n.i, .int .i64 c.m] 33))
        case first =>
          by_cases hm : c.m = 0
          · have hmb : (c.m == 0) = true := by simp [hm]
            have HRl := Lib.hid (ta_releaseA HT5.out (by have := HK200.out; omega) c.x)
            go_wp2_with fail
            refine HRl.out.mono ?_
            rintro e w6 ⟨rfl, S', O', hr, ht6, hk6⟩
            have HM6 := Lib.hid (HM5.out.keptA hk6)
            have HR := Lib.hid hr
            have HRd := Lib.hid (ta_releaseD ht6 HTw.out.dok c.x)
            have hbl6 := HM6.out.lt
            clear hr ht6 hk6 c0 c1 c2 c3 hbl5
            have e0 : w6.cell? ⟨bx, 0, none⟩ = some (.int .i64 c.x) := (cell_of_block HM6.out.at' 0).trans rfl
            have e1 : w6.cell? ⟨bx, 1, none⟩ = some (.int .i64 c.n.s) := (cell_of_block HM6.out.at' 1).trans rfl
            have e2 : w6.cell? ⟨bx, 2, none⟩ = some (.string c.n.i) := (cell_of_block HM6.out.at' 2).trans rfl
            have e3 : w6.cell? ⟨bx, 3, none⟩ = some (.int .i64 c.m) := (cell_of_block HM6.out.at' 3).trans rfl
            go_wp2_with fail
            refine HRd.out.mono ?_
            rintro e w7 ⟨rfl, R', rv', hg, hl, ht7, hk7⟩
            have HM7 := Lib.hid (HM6.out.keptD hk7)
            have HT7 := Lib.hid (ht7.mono (Nat.le_succ k))
            have HTw7 := Lib.hid (HTw.out.release HR.out hg)
            have HL7 := Lib.hid hl
            clear hg hl ht7 hk7 e0 e1 e2 e3 hbl6
            go_wp2_with fail
            go_meet
            exact ⟨O', S', rv', R', T, HT7.out, HTw7.out, by have := HTR.out; have := HL7.out; omega, HM7.out⟩
          · have hmb : (c.m == 0) = false := by simp [hm]
            have hAs := ta_askA HT5.out (by have := HK200.out; omega) c.x c.m c.n
            obtain ⟨r1, hr1⟩ : ∃ r1, (askR S c.x c.n c.m).1 = r1 := ⟨_, rfl⟩
            obtain ⟨r2, hr2⟩ : ∃ r2, (askR S c.x c.n c.m).2 = r2 := ⟨_, rfl⟩
            rw [hr1, hr2] at hAs
            have HR1 := Lib.hid hr1
            have HR2 := Lib.hid hr2
            have HAs := Lib.hid hAs
            clear hAs hr1 hr2
            go_wp2_with fail
            refine HAs.out.mono ?_
            rintro e w6 ⟨rfl, O', ht6, hk6⟩
            have HM6 := Lib.hid (HM5.out.keptA hk6)
            have HRd := Lib.hid (ta_askD ht6 (by have := HTR.out; have := HK200.out; omega) (by have := HTR.out; have := HK200.out; omega) c.x c.m c.n)
            have hbl6 := HM6.out.lt
            clear ht6 hk6 c0 c1 c2 c3 hbl5 HAs
            have e0 : w6.cell? ⟨bx, 0, none⟩ = some (.int .i64 c.x) := (cell_of_block HM6.out.at' 0).trans rfl
            have e1 : w6.cell? ⟨bx, 1, none⟩ = some (.int .i64 c.n.s) := (cell_of_block HM6.out.at' 1).trans rfl
            have e2 : w6.cell? ⟨bx, 2, none⟩ = some (.string c.n.i) := (cell_of_block HM6.out.at' 2).trans rfl
            have e3 : w6.cell? ⟨bx, 3, none⟩ = some (.int .i64 c.m) := (cell_of_block HM6.out.at' 3).trans rfl
            go_wp2_with fail
            refine HRd.out.mono ?_
            rintro e w7 ⟨r3, r4, R', T', rv', rfl, hask, ht7, hk7⟩
            obtain ⟨tw7, hres⟩ := HTw.out.ask hask
            have hr3 : r1 = r3 := by rw [← HR1.out, hres]
            have hr4 : r2 = r4 := by rw [← HR2.out, hres]
            have HM7 := Lib.hid (HM6.out.keptD hk7)
            have HT7 := Lib.hid ht7
            have HTw7 := Lib.hid tw7
            have HL7 := Lib.hid hask.len
            clear hask ht7 hk7 tw7 hres e0 e1 e2 e3 hbl6 HR1 HR2
            subst hr3 hr4
            have hnn : (r1 != r1) = false := by simp
            have hnn2 : (r2 != r2) = false := by simp
            go_wp2_with fail
            go_meet
            exact ⟨O', askT S c.x c.n c.m, rv', R', T', HT7.out, HTw7.out, by have := HTR.out; have := HL7.out; omega, HM7.out⟩
        case rest =>
          obtain ⟨O', S', rv', R', T', ht9, htw9, htr9, hbx9⟩ := hcut
          obtain ⟨wc', rfl⟩ : ∃ wc' : World, wc' = wc := ⟨_, rfl⟩
          clear c0 c1 c2 c3 hbl5 HT5 HM5 HTw HTR
          have HT := Lib.hid ht9
          have HTw := Lib.hid htw9
          have HTR := Lib.hid htr9
          have HBx := Lib.hid hbx9
          clear ht9 htw9 htr9 hbx9
          obtain ⟨mv, hmv⟩ : ∃ mv, modeL c.x (S'.q c.n).H = mv := ⟨_, rfl⟩
          obtain ⟨wq, hwq⟩ : ∃ wq, S'.wt c.x = wq := ⟨_, rfl⟩
          have HF10 : Hid (∀ W, Below wc'.heap.size wc' W → Calls Tryz.prog 10 #[.pointer (some ⟨t, 0, none⟩), .int .i64 c.x, .agg #[.int .i64 c.n.s, .string c.n.i]] W fun e w' => e = .returned (.int .i64 mv) ∧ Below W.heap.size W w') := Lib.hid fun W hW => (lt_modeG (HT.out.below hW).la.lt c.x c.n).mono fun e w' hh => ⟨by rw [hh.1, hmv], hh.2.below⟩
          have HF11 : Hid (∀ W, Below wc'.heap.size wc' W → Calls Tryz.prog 11 #[.pointer (some ⟨tb, 0, none⟩), .int .i64 c.x, .agg #[.int .i64 c.n.s, .string c.n.i]] W fun e w' => e = .returned (.int .i64 mv) ∧ Below W.heap.size W w') := Lib.hid fun W hW => (ta_modeD (HT.out.below hW) HTw.out c.x c.n).mono fun e w' hh => ⟨by rw [hh.1, hmv], hh.2⟩
          have HF12 : Hid (∀ W, Below wc'.heap.size wc' W → Calls Tryz.prog 12 #[.pointer (some ⟨t, 0, none⟩), .int .i64 c.x] W fun e w' => e = .returned (.bool wq) ∧ Below W.heap.size W w') := Lib.hid fun W hW => (lt_waitingG (HT.out.below hW).la.lt c.x).mono fun e w' hh => ⟨by rw [hh.1, hwq], hh.2.below⟩
          have HF13 : Hid (∀ W, Below wc'.heap.size wc' W → Calls Tryz.prog 13 #[.pointer (some ⟨tb, 0, none⟩), .int .i64 c.x] W fun e w' => e = .returned (.bool wq) ∧ Below W.heap.size W w') := Lib.hid fun W hW => (ta_waitD (HT.out.below hW) HTw.out c.x).mono fun e w' hh => ⟨by rw [hh.1, hwq], hh.2⟩
          have HF15 := Lib.hid fun W (hW : Below wc'.heap.size wc' W) => ta_allA (HT.out.below hW) (by have := HK200.out; omega) HTw.out
          have HF16 := Lib.hid fun W (hW : Below wc'.heap.size wc' W) => dall_any (HT.out.below hW).da (by have := HTR.out; have := HK200.out; omega)
          have HF18 := Lib.hid fun W (hW : Below wc'.heap.size wc' W) => ta_arcsA (HT.out.below hW) (by have := HK200.out; omega) HTw.out
          have HF19 := Lib.hid fun W (hW : Below wc'.heap.size wc' W) => darcs_any (HT.out.below hW).da (by have := HTR.out; have := HK200.out; omega)
          have HS : Hid (∀ W, Below wc'.heap.size wc' W → W.cell? ⟨bx, 0, none⟩ = some (.int .i64 c.x) ∧ W.cell? ⟨bx, 1, none⟩ = some (.int .i64 c.n.s) ∧ W.cell? ⟨bx, 2, none⟩ = some (.string c.n.i) ∧ W.cell? ⟨bx, 3, none⟩ = some (.int .i64 c.m)) := Lib.hid fun W hW => by
            have hb := (HBx.out.below hW).at'
            exact ⟨(cell_of_block hb 0).trans rfl, (cell_of_block hb 1).trans rfl, (cell_of_block hb 2).trans rfl, (cell_of_block hb 3).trans rfl⟩
          have HB0 : Hid (Below wc'.heap.size wc' wc') := Lib.hid (Below.refl _ _)
          have HBz : Hid (Below wc'.heap.size wc' wc'.drew) := Lib.hid HB0.out.drew
          have HS0 := Lib.hid (HS.out _ HB0.out)
          have HSz := Lib.hid (HS.out _ HBz.out)
          clear hmv hwq
          go_upto_region 18 with fail
          first | (go_region_held3 (fun W => W.cell? ⟨bx, 0, none⟩ = some (.int .i64 c.x) ∧ W.cell? ⟨bx, 1, none⟩ = some (.int .i64 c.n.s) ∧ W.cell? ⟨bx, 2, none⟩ = some (.string c.n.i) ∧ W.cell? ⟨bx, 3, none⟩ = some (.int .i64 c.m)) (first | exact HS0.out | exact HSz.out | exact HS.out _ HB11.out | exact HS.out _ HB11.out.drew | exact HS.out _ HB12.out | exact HS.out _ HB12.out.drew | exact HS.out _ HB13.out | exact HS.out _ HB13.out.drew | exact HS.out _ HB14.out | exact HS.out _ HB14.out.drew | exact HS.out _ HB15.out | exact HS.out _ HB15.out.drew | exact HS.out _ HB16.out | exact HS.out _ HB16.out.drew | exact HS.out _ HB17.out | exact HS.out _ HB17.out.drew | exact HS.out _ HB18.out | exact HS.out _ HB18.out.drew | exact HS.out _ HB19.out | exact HS.out _ HB19.out.drew | exact HS.out _ HB20.out | exact HS.out _ HB20.out.drew | go_keep) (first
            | ((go_at_call 10; refine (HF10.out _ HBz.out).mono ?_; rintro e w11 ⟨rfl, hb11⟩; have HB11 := Lib.hid (HBz.out.trans (hb11.mono HBz.out.size)); clear hb11))
            | ((go_at_call 11; refine (HF11.out _ HB11.out).mono ?_; rintro e w12 ⟨rfl, hb12⟩; have HB12 := Lib.hid (HB11.out.trans (hb12.mono HB11.out.size)); clear hb12))
            | ((go_at_call 12; refine (HF12.out _ HB12.out).mono ?_; rintro e w13 ⟨rfl, hb13⟩; have HB13 := Lib.hid (HB12.out.trans (hb13.mono HB12.out.size)); clear hb13))
            | ((go_at_call 13; refine (HF13.out _ HB13.out).mono ?_; rintro e w14 ⟨rfl, hb14⟩; have HB14 := Lib.hid (HB13.out.trans (hb14.mono HB13.out.size)); clear hb14))
            | ((go_at_call 15; refine (HF15.out _ HB14.out).mono ?_; rintro e w15 ⟨v15, A15, rfl, ho15, hal15, hb15⟩; have HB15 := Lib.hid (HB14.out.trans (hb15.mono HB14.out.size)); have HO15 := Lib.hid ho15; have HAl := Lib.hid hal15; clear ho15 hal15; clear hb15))
            | ((go_at_call 16; refine (HF16.out _ HB15.out).mono ?_; rintro e w16 ⟨v16, L16, rfl, hs16, ho16, hb16⟩; have HB16 := Lib.hid (HB15.out.trans (hb16.mono HB15.out.size)); have HSm := Lib.hid (same_holds9 HO15.out (HAl.out L16 hs16) hb16 (by rw [hs16.len]; have := HTR.out; have := HK200.out; omega) ho16); clear hs16 ho16; clear hb16))
            | ((go_at_call 14; refine (HSm.out).mono ?_; rintro e w17 ⟨rfl, hb17⟩; have HB17 := Lib.hid (HB16.out.trans (hb17.mono HB16.out.size)); clear hb17))
            | ((go_at_call 18; refine (HF18.out _ HB17.out).mono ?_; rintro e w18 ⟨v18, A18, rfl, ho18, hal18, hb18⟩; have HB18 := Lib.hid (HB17.out.trans (hb18.mono HB17.out.size)); have HO18 := Lib.hid ho18; have HAr := Lib.hid hal18; clear ho18 hal18; clear hb18))
            | ((go_at_call 19; refine (HF19.out _ HB18.out).mono ?_; rintro e w19 ⟨v19, L19, rfl, hp19, hm19, hn19, ho19, hb19⟩; have HB19 := Lib.hid (HB18.out.trans (hb19.mono HB18.out.size)); have HSa := Lib.hid (same_arcs9 HO18.out (HAr.out L19 hp19 hm19) hb19 (by omega) ho19); clear hp19 hm19 hn19 ho19; clear hb19))
            | ((go_at_call 17; refine (HSa.out).mono ?_; rintro e w20 ⟨rfl, hb20⟩; have HB20 := Lib.hid (HB19.out.trans (hb20.mono HB19.out.size)); clear hb20)))) | fail
          all_goals
            go_wp2_with fail
            exact ⟨⟨k + 1, O', S', rv', R', T', by omega, by have := HK200.out; omega, by go_num, HT.out.below (by first | exact HB20.out | exact HB20.out.drew), HTw.out, HTR.out.1, HTR.out.2.1, HTR.out.2.2⟩, by simp [intOf]; omega⟩
    · have hki : decide ((k : Int) < (l : Int)) = false := by simp; omega
      go_wp2_with fail
      go_ret
      exact ⟨rfl, HT.out.la.low⟩
end Go.Proofs.YtileamjmhhifaaaGreat
