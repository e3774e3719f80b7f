/-
  Layer 15 (heap): the walk of HeapKept.
-/
import Derived.Test.YthehglhbgplfhaaHeap14
import Derived.Test.YthehglhbgplfhaaHeap19
namespace Go.Proofs.Ythehglhbgplfhaa
open Go.RowKit Go.Joins
set_option linter.unusedVariables false
set_option linter.unusedSimpArgs false

/-- where the law stands: a clean heap -/
def KeptAt (w wr : World) (b mb hb pb n N : Nat) : Prop := ∃ S C, One w wr b mb hb pb S ∧ Clean S n N C
theorem own_base0 {w : World} {B n s : Nat} {e : TypeId} {v : Value} {xs : List Value} (h : w.ownsRow B e s v n xs) : w.ownsRow 0 e s v n xs := by
  refine ⟨h.1, ?_⟩
  rcases h.2 with h0 | ⟨g, cap, cur, h1, -, h2⟩
  · exact .inl h0
  · exact .inr ⟨g, cap, cur, h1, Nat.zero_le _, h2⟩
theorem own_grown0 {w w' : World} {B n s mb pb : Nat} {e : TypeId} {v : Value} {xs : List Value} (h : w.ownsRow B e s v n xs) (hg : w.grownBy w' (some mb)) (hc : ∀ q ∈ [mb, pb], v.ownBlock ≠ some q) : w'.ownsRow B e s v n xs :=
  own_poked h (Poked.of_grown (cs := [mb, pb]) hg (by simp)) hc

set_option maxHeartbeats 8000000 in
set_option maxRecDepth 100000 in
theorem kept_walk (vp : Option Addr) (len cap : Nat) (V : List Cl) (kp : Option Addr) (kl kc : Nat) (zs : List Int) (w : World) (hV : ClsIn w vp len V) (hK : RowOk w kp kl zs) :
    Calls Try.prog 10 #[.slice vp len cap, .slice kp kl kc] w fun e w' => e = .returned (.bool true) ∧ Below w.heap.size w w' := by
  have HA := Lib.hid (fun (w' : World) => awake15 w')
  have HM := Lib.hid (fun (w' : World) => memory_ok 40 (by omega) (by omega) w')
  have HN := Lib.hid (fun hb pb w' hB h h2 => new_one hb pb (List.replicate 40 Pg.zero) w w' hB h h2)
  have HFo := Lib.hid (fun b mb hb pb w' hs => format_start 40 40 (by omega) (by omega) b mb hb pb w' hs)
  have HMa := Lib.hid (fun b mb hb pb w' hs => make_start 40 40 (by omega) (by omega) (by omega) b mb hb pb w' hs)
  have HLa := Lib.hid (fun b mb hb pb w' hs => land_any (H0_fit 40 40 (by omega) (by omega) (by omega)) 0 b mb hb pb w' hs)
  have HV := Lib.hid hV
  have HKp := Lib.hid hK
  have hl1 := hV.1
  have hl2 := hV.2.1
  have hk1 := hK.1
  clear hV hK
  go_enter Try.func10, Try.ntmps10
  go_wp2_with fail
  refine (HA.out _).mono ?_; rintro e w0 ⟨rfl, hb0⟩
  have K0 := Lib.hid hb0
  clear hb0
  go_wp2_with fail
  refine (HM.out _).mono ?_; rintro e w1 ⟨hb, pb, rfl, hb1, q1, q2, hs1⟩
  have hz := K0.out.size
  have K1 : Hid (Below w.heap.size w w1) := Lib.hid (K0.out.trans (hb1.mono hz))
  have K2 := Lib.hid hs1
  clear hb1 hs1
  go_wp2_with fail
  refine (HN.out hb pb _ K1.out K2.out (by omega)).mono ?_; rintro e w2 ⟨b, mb, rfl, h2⟩
  have K3 := Lib.hid h2
  clear h2
  go_wp2_with fail
  refine (HFo.out b mb hb pb _ K3.out.st).mono ?_; rintro e w3 ⟨rfl, g3, s3⟩
  have K4 := Lib.hid (K3.out.grow g3 s3)
  clear g3 s3
  go_wp2_with fail
  refine (HMa.out b mb hb pb _ K4.out.st).mono ?_; rintro e w4 ⟨rfl, g4, s4⟩
  have K5 := Lib.hid (K4.out.grow g4 s4)
  clear g4 s4
  go_wp2_with fail
  refine (HLa.out b mb hb pb _ K5.out.st).mono ?_; rintro e w5 ⟨rfl, p5, s5⟩
  have K6 : Hid (KeptAt w w5 b mb hb pb 40 40) := Lib.hid ⟨_, _, K5.out.poke p5 s5, clean_start 40 40 (by omega) (by omega) (by omega)⟩
  clear p5 s5
  by_cases h100 : 100 < len
  · go_wp2_with fail
    go_ret
    obtain ⟨S, C, h1, -⟩ := K6.out
    exact ⟨rfl, h1.low⟩
  go_wp2_with fail
  go_loopw [43] (fun i wr => ∃ j : Nat, j ≤ len ∧ i = .int .i64 j ∧ KeptAt w wr b mb hb pb 40 40) (fun i _ => len - (intOf i).toNat)
  case atStart => exact ⟨0, by omega, rfl, K6.out⟩
  case round =>
    obtain ⟨j, hj, rfl, S, C, hO, hC⟩ := hrel
    obtain ⟨wo, rfl⟩ : ∃ wo : World, wo = wr := ⟨_, rfl⟩
    have HO := Lib.hid hO
    have HC := Lib.hid hC
    by_cases hlt : j < len
    · have hVr := HV.out.below hO.low
      obtain ⟨bv, off, hvp, hbv, hrow⟩ := hVr.2.2.resolve_left (by omega)
      subst hvp
      obtain ⟨hrg, hok⟩ := hrow j (by omega)
      have hld := load_clIn hrg
      generalize V[j] = c at *
      have hO1 := hO.alloc (.cells c.cs 79)
      have hok1 := hok.below ((Below.refl wo.heap.size wo).alloc (Nat.le_refl _) (.cells c.cs 79))
      have HO1 := Lib.hid hO1
      have R1 := rowAt_at wo c.cs 79 _ rfl
      have ck := (cell_row R1 0).trans (show _ = some (.int .i64 c.kind) from rfl)
      by_cases hk0 : c.kind = 0
      · rw [hk0] at ck
        have HL := Lib.hid (list_any hC.heap b mb hb pb _ hO1.st)
        have htop := hC.heap.top
        clear hVr hrow hbv hO hC hrg hok hO1 hok1
        go_wp2_with fail
        refine HL.out.mono ?_; rintro e w6 ⟨v, rfl, hb6, hown⟩
        have hz6 := hb6.size
        rw [World.size_alloc] at hz6
        have hO6 := HO1.out.below hb6
        have R6 := (rowAt_below hb6 (by simp)).trans R1
        have cv := (cell_row R6 3).trans (show _ = some (.string c.val) from rfl)
        obtain ⟨va, vc, hv⟩ : ∃ va vc, v = .slice va (recs 2 C).length vc := by
          rcases ownsRow_forms hown with ⟨h1, h2⟩ | ⟨g, c, h1⟩
          · exact ⟨_, _, by rw [h1, h2]⟩
          · exact ⟨_, _, h1⟩
        subst hv
        have hne := own_stage hown hO6.st
        have HI := Lib.hid (insert_kept HC.out b mb hb pb c.val kp kl kc zs w6 hO6.st (HKp.out.below (hO6.low.mono (Nat.le_refl _))))
        have HOw := Lib.hid (own_base0 hown)
        have HNe := Lib.hid hne
        have HO6 := Lib.hid hO6
        have HR6 := Lib.hid R6
        have hlt6 := hO6.st.lt
        have hltr : wo.heap.size < w6.heap.size := by omega
        have hbr := HO.out.st.lt
        clear hb6 hown hne hO6 R6
        go_wp2_with fail
        refine HI.out.mono ?_; rintro e w7 (⟨u, S5, C', k, i, rfl, hp⟩ | ⟨u, e, S5, he, rfl, hp⟩)
        · obtain ⟨hkC, hra, hrd⟩ := hp.read
          have hnew := hp.new
          have hkeep := hp.keep
          have hsix := hp.six
          have h7 := (HO6.out.grow hp.grown hp.stage).alloc (.cells u.cs 36)
          have hz7 := hp.grown.size
          have R7 := (rowAt_past w7 (.cells u.cs 36) wo.heap.size (by omega)).trans ((rowAt_grown hp.grown hltr (by omega)).trans HR6.out)
          have ho7 := (own_grown0 HOw.out hp.grown HNe.out).alloc (.cells u.cs 36)
          have HLn := Lib.hid (land_any hp.fit 0 b mb hb pb _ h7.st)
          have hrc := fun w' hs => read_cell hp.clean.heap b mb hb pb k i hkC hsix hra w' hs
          rw [hrd] at hrc
          obtain ⟨id, hid⟩ : ∃ id : Int, ((2 + k : Nat) : Int) * 8 + (i : Int) = id := ⟨_, rfl⟩
          rw [hid] at hrc hnew hkeep ⊢
          have HRc := Lib.hid hrc
          have HCl := Lib.hid hp.clean
          have H7 := Lib.hid h7
          have HR7 := Lib.hid R7
          have HO7 := Lib.hid ho7
          have HNw := Lib.hid hnew
          have HKe := Lib.hid hkeep
          clear hp h7 R7 ho7 hrc hnew hkeep hra hrd hid hkC cv
          go_wp2_with fail
          refine HLn.out.mono ?_; rintro r w8 ⟨rfl, hp8, hs8⟩
          have h8 := H7.out.poke hp8 hs8
          have hz8 := hp8.size
          rw [World.size_alloc] at hz8
          have R8 := (hp8.row (show wo.heap.size < (w7.alloc (.cells u.cs 36)).heap.size by simp; omega) (by simp; omega)).trans HR7.out
          have ho8 := own_poked HO7.out hp8 HNe.out
          have H8 := Lib.hid h8
          have HR8 := Lib.hid R8
          have HO8 := Lib.hid ho8
          have HK8 := Lib.hid (HKp.out.below h8.low)
          clear hp8 hs8 h8 R8 ho8
          go_wp2_with fail
          go_loopw [78] (fun ii wz => ∃ m : Nat, m ≤ kl ∧ ii = .int .i64 m ∧ wz = w8) (fun ii _ => kl - (intOf ii).toNat)
          case atStart => exact ⟨0, by omega, rfl, by first | rfl | trivial⟩
          case round =>
            obtain ⟨m, hm, rfl, rfl⟩ := hrel
            by_cases hltm : m < kl
            · obtain ⟨gb, go, hka, hgb, hcell⟩ := HK8.out.2.resolve_left (by omega)
              have hcm := hcell m hltm
              have hny : zs.getD m 0 ≠ id := fun e => by
                have := (inRow_iff zs kl id).2 ⟨m, hltm, e⟩
                rw [HKe.out] at this; cases this
              subst hka
              obtain ⟨y, hy⟩ : ∃ y, zs.getD m 0 = y := ⟨_, rfl⟩
              rw [hy] at hcm hny
              have e1 : (y == id) = false := by simp [hny]
              clear hcell hy hny
              go_wp2_with fail
              go_roundw
              case rel => exact ⟨m + 1, by omega, by go_num, by first | rfl | trivial⟩
              case measure => simp [intOf]; omega
            · have hme : m = kl := by omega
              subst hme
              go_wp2_with fail
              have hrl : (recs 2 C).length ≤ 240 := by have := recs_len 2 C; omega
              go_loopw [88] (fun ii wz => ∃ m : Nat, m ≤ (recs 2 C).length ∧ ii = .int .i64 m ∧ One w wz b mb hb pb (S5.after 0) ∧ rowAt wz wo.heap.size = some c.cs ∧ wo.heap.size < wz.heap.size ∧ wz.ownsRow 0 90 3 (.slice va (recs 2 C).length vc) (recs 2 C).length (prRow (recs 2 C))) (fun ii _ => (recs 2 C).length - (intOf ii).toNat)
              case atStart => exact ⟨0, by omega, rfl, H8.out, HR8.out, by omega, HO8.out⟩
              case round =>
                obtain ⟨m, hm, rfl, hOz, hRz, hzz, howz⟩ := hrel
                by_cases hltm : m < (recs 2 C).length
                · obtain ⟨g, cap', hv⟩ := ownsRow_form howz (by omega)
                  simp only [Value.slice.injEq] at hv
                  obtain ⟨rfl, -, rfl⟩ := hv
                  obtain ⟨c0, c1, c2⟩ := pr_cells howz m hltm
                  have hny := HNw.out _ (List.getElem_mem hltm)
                  obtain ⟨x, hx⟩ : ∃ x, (recs 2 C)[m] = x := ⟨_, rfl⟩
                  rw [hx] at c1 c2 hny
                  have e1 : (x.1 == id) = false := by simp [hny]
                  have Hz := Lib.hid (hOz.alloc (.cells #[.string ⟨#[]⟩, .int .i64 x.1, .string x.2] 90))
                  have HRz := Lib.hid ((rowAt_past _ (.cells #[.string ⟨#[]⟩, .int .i64 x.1, .string x.2] 90) _ hzz).trans hRz)
                  have HOz := Lib.hid (howz.alloc (.cells #[.string ⟨#[]⟩, .int .i64 x.1, .string x.2] 90))
                  clear hOz hRz howz hx hny
                  go_wp2_with fail
                  go_roundw
                  case rel => exact ⟨m + 1, by omega, by go_num, Hz.out, HRz.out, by simp; omega, HOz.out⟩
                  case measure => simp [intOf]; omega
                · have hme : m = (recs 2 C).length := by omega
                  subst hme
                  have HRd := Lib.hid (HRc.out _ hOz.st)
                  have Hz := Lib.hid hOz
                  have HRz := Lib.hid hRz
                  clear hOz hRz howz
                  go_wp2_with fail
                  refine HRd.out.mono ?_; rintro e w9 ⟨rfl, hb9⟩
                  have cv9 := (cell_row ((rowAt_below hb9 hzz).trans HRz.out) 3).trans (show _ = some (.string c.val) from rfl)
                  have K9 : Hid (KeptAt w w9 b mb hb pb 40 40) := Lib.hid ⟨_, _, Hz.out.below hb9, HCl.out⟩
                  clear hb9
                  go_wp2_with fail
                  go_roundw
                  case rel => exact ⟨j + 1, by omega, by go_num, K9.out⟩
                  case measure => simp [intOf]; omega
        · have h7 := (HO6.out.grow hp.grown hp.stage).alloc (.cells u.cs 36)
          have HLn := Lib.hid (land_any hp.fit e b mb hb pb _ h7.st)
          have HCl := Lib.hid hp.clean
          have H7 := Lib.hid h7
          have e1 : (e == 0) = false := by rcases he with rfl | rfl <;> rfl
          clear hp h7 cv
          go_wp2_with fail
          refine HLn.out.mono ?_; rintro r w8 ⟨rfl, hp8, hs8⟩
          have K8 : Hid (KeptAt w w8 b mb hb pb 40 40) := Lib.hid ⟨_, _, H7.out.poke hp8 hs8, HCl.out⟩
          clear hp8 hs8
          go_wp2_with fail
          go_roundw
          case rel => exact ⟨j + 1, by omega, by go_num, K8.out⟩
          case measure => simp [intOf]; omega
      · have hkn : (c.kind == 0) = false := by simp [hk0]
        have HD := Lib.hid (do_any hC c b mb hb pb _ hO1.st hok1)
        have hlv := load_clVar R1
        clear hVr hrow hbv hO hC hrg hok hO1 hok1
        go_wp2_with fail
        refine HD.out.mono ?_; rintro r w6 ⟨u, e, C', S', rfl, hp, hs, hcl, -⟩
        have K7 : Hid (KeptAt w w6 b mb hb pb 40 40) := Lib.hid ⟨S', C', HO1.out.poke hp hs, hcl⟩
        clear hp hs hcl
        go_wp2_with fail
        go_roundw
        case rel => exact ⟨j + 1, by omega, by go_num, K7.out⟩
        case measure => simp [intOf]; omega
    · have HL := Lib.hid hO.low
      clear hO hC
      go_wp2_with fail
      go_ret
      exact ⟨rfl, HL.out⟩

section
open Go.ChangeShapes Go.WideShapes Go.ChangeAt Go.Deep
variable {H : Type} {enc : TypeId × Value → H} {w : World} {base : Nat} {spare : Nat → Bool} {held : Bool}
/-- a slice of integers that came in -/
theorem ints_form15 {n : Nat} {c : Value} {x : DataW H × List MemPlace} (h : DataW.trod enc Try.prog w base spare held n 77 [c] = some x) :
    ∃ a len cap zs, c = .slice a len cap ∧ RowOk w a len zs := by
  have k3 : Try.prog.cellsOf 3 = 1 := by kernel_rfl
  rcases open_ints Try.underlying77 Try.underlying3 k3 h with ⟨hcs, -⟩ | ⟨a, len, cap, zs, hcs, hb, hlc, hm, hzl, -, hcell, hwf⟩
  · simp only [List.cons.injEq, and_true] at hcs
    exact ⟨_, _, _, [], hcs, by omega, .inl rfl⟩
  · simp only [List.cons.injEq, and_true] at hcs
    refine ⟨_, _, _, zs, hcs, by simp only [maxLen] at hm; omega, ?_⟩
    by_cases hl0 : len = 0
    · exact .inl hl0
    · have hlz : len ≤ zs.length := by rw [hzl]; split <;> omega
      have hc0 := hcell 0 (by omega)
      obtain ⟨b, off, spot⟩ := a
      have hspot : spot = none := by simpa [Addr.add] using World.cell?_spot hc0
      subst hspot
      refine .inr ⟨b, off, rfl, World.block_lt_of_cell? w _ (by simpa [Addr.add] using hc0), fun i hi => ?_⟩
      have := hcell i (by omega)
      rwa [Addr.add_lit] at this
end
end Go.Proofs.Ythehglhbgplfhaa
