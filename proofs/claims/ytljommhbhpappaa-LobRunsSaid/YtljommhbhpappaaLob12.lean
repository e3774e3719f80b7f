/-
  Layer 17 (lob): the walk of LobApart.
-/
import Derived.Test.YtljommhbhpappaaLob11
namespace Go.Proofs.Ytljommhbhpappaa
open Go.RowKit Go.Joins
set_option linter.unusedVariables false
set_option linter.unusedSimpArgs false

/-- a law's volume, with the world that the law began in -/
theorem volume_at {w w1 w2 : World} {b mb hb pb : Nat} (h1 : Below w.heap.size w w1) (h : One w1 w2 b mb hb pb (I0 1024 1024 3)) : LobAt w w2 b mb hb pb (fun _ => none) 3 :=
  LobAt.new ⟨h1.trans (h.low.mono h1.size), h.st, by have := h1.size; have := h.hi; omega⟩

set_option maxHeartbeats 4000000 in
set_option maxRecDepth 100000 in
theorem apart_walk (a : Option Addr) (len cap : Nat) (I : List Ao) (mine : ByteArray) (w : World) (hI : AosIn w a len I) (hms : mine.size ≤ maxLen) :
    Calls Try.prog 6 #[.slice a len cap, .string mine] w fun e w' => e = .returned (.bool true) ∧ Below w.heap.size w w' := by
  have HA := Lib.hid (fun w' => awake17 w')
  have HV := Lib.hid (fun w' => volume17 w')
  have HIn := Lib.hid hI
  have hlen := hI.1
  clear hI
  by_cases hl : len ≤ 40 ∧ mine.size ≤ 64
  · have hl1 : decide ((40 : Int) < (len : Int)) = false := by simp; omega
    have hl2 : decide ((64 : Int) < (mine.size : Int)) = false := by simp; omega
    go_enter Try.func6, Try.ntmps6
    go_wp2_with fail
    refine (HA.out _).mono ?_; rintro e w1 ⟨rfl, hb1⟩
    have B1 := Lib.hid hb1
    clear hb1
    go_wp2_with fail
    refine (HV.out _).mono ?_; rintro e w2 ⟨b, mb, hb, pb, rfl, h2⟩
    have L2 := Lib.hid (volume_at B1.out h2)
    have HN := op_new L2.out { kind := 18, num := 500 } rfl
    have E1 := opR_new (M := fun _ => none) (n := 500) (by omega) rfl
    rw [show (opR (fun _ => none) { kind := 18, num := 500 }).1 = 0 from by rw [E1]] at HN
    have HN1 := Lib.hid HN
    clear HN h2
    go_wp2_with fail
    refine HN1.out.mono ?_; rintro e w3 ⟨v3, rfl, hs3⟩
    obtain ⟨a3, cp3, rfl, l3, t3⟩ := StepsOut.at L2.out hs3
    have HL := land_op l3 _ (by rw [E1]) (by omega) a3 cp3 t3
    rw [E1] at HL
    have HL3 := Lib.hid HL
    clear HL hs3 l3 t3
    generalize (opL (fun _ => none) { kind := 18, num := 500 }).length = n3 at *
    go_wp2_with fail
    refine HL3.out.mono ?_; rintro e w4 ⟨rfl, l4, -⟩
    have L4 : Hid (LobAt w w4 b mb hb pb (updO (fun _ => none) 500 (some ByteArray.empty)) 7) := Lib.hid l4
    generalize hM4 : updO (fun _ => none) 500 (some ByteArray.empty) = M4 at *
    have m4 : M4 500 = some ByteArray.empty := by rw [← hM4]; rfl
    have HW := op_write L4.out { kind := 21, num := 500, pos := 0, val := mine } rfl
    have E2 := opR_behind (M := M4) (n := 500) (x := ByteArray.empty) (p := mine) (by omega) m4 hl.2 (by simp; omega)
    rw [show ((ByteArray.empty.size : Nat) : Int) = 0 from rfl, show ByteArray.empty ++ mine = mine from by simp] at E2
    rw [E2] at HW
    have HW4 := Lib.hid HW
    clear HW l4
    go_wp2_with fail
    refine HW4.out.mono ?_; rintro e w5 ⟨v5, rfl, hs5⟩
    obtain ⟨a5, cp5, rfl, l5, t5⟩ := StepsOut.at L4.out hs5
    have HL := land_op l5 _ (by rw [E2]) (by omega) a5 cp5 t5
    rw [E2] at HL
    have HL5 := Lib.hid HL
    clear HL hs5 l5 t5
    generalize (opL M4 { kind := 21, num := 500, pos := 0, val := mine }).length = n5 at *
    go_wp2_with fail
    refine HL5.out.mono ?_; rintro e w6 ⟨rfl, l6, -⟩
    have L6 : Hid (LobAt w w6 b mb hb pb (updO M4 500 (some mine)) 11) := Lib.hid l6
    generalize hM6 : updO M4 500 (some mine) = M6 at *
    have m6 : M6 500 = some mine := by rw [← hM6]; rfl
    clear l6 hM6 hM4 E1 E2
    go_wp2_with fail
    go_loopw [64] (fun v wr => ∃ (k : Nat) (M : Mo) (q : Nat), k ≤ len ∧ v = .int .i64 k ∧ LobAt w wr b mb hb pb M q ∧ q ≤ 11 + 4 * k ∧ M 500 = some mine) (fun v _ => len - (intOf v).toNat)
    case atStart => exact ⟨0, M6, 11, by omega, rfl, L6.out, by omega, m6⟩
    case round =>
      obtain ⟨k, M, q, hk', rfl, hO, hq, hm⟩ := hrel
      obtain ⟨wo, rfl⟩ : ∃ wo : World, wo = wr := ⟨_, rfl⟩
      by_cases hlt : k < len
      · have hVr := HIn.out.below hO.low
        have hIl := HIn.out.2.1
        obtain ⟨bv, off, hvp, hbv, hrow⟩ := hVr.2.2.resolve_left (by omega)
        subst hvp
        obtain ⟨hrg, hok⟩ := hrow k (by omega)
        have hld := load_aoIn hrg
        generalize I[k] = c at *
        have HO1 := Lib.hid (hO.below ((Below.refl _ _).alloc (Nat.le_refl _) (.cells c.cs 44)))
        have R1 := rowAt_at wo c.cs 44 _ rfl
        have c0 := (cell_row R1 0).trans (show _ = some (.int .i64 c.kind) from rfl)
        have c4 := (cell_row R1 4).trans (show _ = some (.int .i64 c.num) from rfl)
        have hlv := load_aoVar R1
        clear hVr hrow hbv hO hrg hok
        by_cases k0 : c.num = 500
        · rw [k0] at c4
          clear hlv
          go_wp2_with fail
          exact ⟨⟨k + 1, M, q, by omega, by go_num, HO1.out, by omega, hm⟩, by simp [intOf]; omega⟩
        by_cases k1 : c.kind = 18
        · rw [k1] at c0
          have HSt := Lib.hid (steps17 HO1.out c)
          have HRd := Lib.hid (fun M' q' w' (h : LobAt w w' b mb hb pb M' q') (hm : M' 500 = some mine) => by
            have := op_read h 500 0 (mine.size : Int)
            rw [byR_some (by omega) hm, rd_all] at this
            exact this)
          by_cases e0 : (opR M c).1 = 0
          · have HL := fun a' cp' w' (h : LobAt w w' b mb hb pb M q) ht => land_op h c e0 (by omega) a' cp' ht
            rw [e0] at HSt
            have HLh := Lib.hid HL
            clear HL
            have hm' : updO M c.num (opR M c).2 500 = some mine := by rw [updO_other (Ne.symm k0)]; exact hm
            generalize updO M c.num (opR M c).2 = M' at *
            generalize opL M c = Lc at *
            go_wp2_with fail
            refine HSt.out.mono ?_; rintro e w3 ⟨v3, rfl, hs3⟩
            obtain ⟨a3, cp3, rfl, l3, t3⟩ := StepsOut.at HO1.out hs3
            have HL3 := Lib.hid (HLh.out a3 cp3 _ l3 t3)
            clear hs3 l3 t3
            go_wp2_with fail
            refine HL3.out.mono ?_; rintro e w4 ⟨rfl, l4, -⟩
            have HR4 := Lib.hid (HRd.out _ _ _ l4 hm')
            have L4 := Lib.hid l4
            clear l4
            go_wp2_with fail
            refine HR4.out.mono ?_; rintro e w5 ⟨rfl, hb5⟩
            have L5 := Lib.hid (L4.out.below hb5)
            clear hb5
            go_wp2_with fail
            exact ⟨⟨k + 1, _, _, by omega, by go_num, L5.out, by omega, hm'⟩, by simp [intOf]; omega⟩
          · generalize (opR M c).1 = er at *
            generalize opL M c = Lc at *
            go_wp2_with fail
            refine HSt.out.mono ?_; rintro e w3 ⟨v3, rfl, hs3⟩
            have L3 := Lib.hid (HO1.out.below hs3.1)
            have HR4 := Lib.hid (HRd.out _ _ _ L3.out hm)
            clear hs3
            go_wp2_with fail
            refine HR4.out.mono ?_; rintro e w5 ⟨rfl, hb5⟩
            have L5 := Lib.hid (L3.out.below hb5)
            clear hb5
            go_wp2_with fail
            exact ⟨⟨k + 1, _, _, by omega, by go_num, L5.out, by omega, hm⟩, by simp [intOf]; omega⟩
        by_cases k2 : c.kind = 21
        · rw [k2] at c0
          have HSt := Lib.hid (steps17 HO1.out c)
          have HRd := Lib.hid (fun M' q' w' (h : LobAt w w' b mb hb pb M' q') (hm : M' 500 = some mine) => by
            have := op_read h 500 0 (mine.size : Int)
            rw [byR_some (by omega) hm, rd_all] at this
            exact this)
          by_cases e0 : (opR M c).1 = 0
          · have HL := fun a' cp' w' (h : LobAt w w' b mb hb pb M q) ht => land_op h c e0 (by omega) a' cp' ht
            rw [e0] at HSt
            have HLh := Lib.hid HL
            clear HL
            have hm' : updO M c.num (opR M c).2 500 = some mine := by rw [updO_other (Ne.symm k0)]; exact hm
            generalize updO M c.num (opR M c).2 = M' at *
            generalize opL M c = Lc at *
            go_wp2_with fail
            refine HSt.out.mono ?_; rintro e w3 ⟨v3, rfl, hs3⟩
            obtain ⟨a3, cp3, rfl, l3, t3⟩ := StepsOut.at HO1.out hs3
            have HL3 := Lib.hid (HLh.out a3 cp3 _ l3 t3)
            clear hs3 l3 t3
            go_wp2_with fail
            refine HL3.out.mono ?_; rintro e w4 ⟨rfl, l4, -⟩
            have HR4 := Lib.hid (HRd.out _ _ _ l4 hm')
            have L4 := Lib.hid l4
            clear l4
            go_wp2_with fail
            refine HR4.out.mono ?_; rintro e w5 ⟨rfl, hb5⟩
            have L5 := Lib.hid (L4.out.below hb5)
            clear hb5
            go_wp2_with fail
            exact ⟨⟨k + 1, _, _, by omega, by go_num, L5.out, by omega, hm'⟩, by simp [intOf]; omega⟩
          · generalize (opR M c).1 = er at *
            generalize opL M c = Lc at *
            go_wp2_with fail
            refine HSt.out.mono ?_; rintro e w3 ⟨v3, rfl, hs3⟩
            have L3 := Lib.hid (HO1.out.below hs3.1)
            have HR4 := Lib.hid (HRd.out _ _ _ L3.out hm)
            clear hs3
            go_wp2_with fail
            refine HR4.out.mono ?_; rintro e w5 ⟨rfl, hb5⟩
            have L5 := Lib.hid (L3.out.below hb5)
            clear hb5
            go_wp2_with fail
            exact ⟨⟨k + 1, _, _, by omega, by go_num, L5.out, by omega, hm⟩, by simp [intOf]; omega⟩
        by_cases k3 : c.kind = 22
        · rw [k3] at c0
          have HSt := Lib.hid (steps17 HO1.out c)
          have HRd := Lib.hid (fun M' q' w' (h : LobAt w w' b mb hb pb M' q') (hm : M' 500 = some mine) => by
            have := op_read h 500 0 (mine.size : Int)
            rw [byR_some (by omega) hm, rd_all] at this
            exact this)
          by_cases e0 : (opR M c).1 = 0
          · have HL := fun a' cp' w' (h : LobAt w w' b mb hb pb M q) ht => land_op h c e0 (by omega) a' cp' ht
            rw [e0] at HSt
            have HLh := Lib.hid HL
            clear HL
            have hm' : updO M c.num (opR M c).2 500 = some mine := by rw [updO_other (Ne.symm k0)]; exact hm
            generalize updO M c.num (opR M c).2 = M' at *
            generalize opL M c = Lc at *
            go_wp2_with fail
            refine HSt.out.mono ?_; rintro e w3 ⟨v3, rfl, hs3⟩
            obtain ⟨a3, cp3, rfl, l3, t3⟩ := StepsOut.at HO1.out hs3
            have HL3 := Lib.hid (HLh.out a3 cp3 _ l3 t3)
            clear hs3 l3 t3
            go_wp2_with fail
            refine HL3.out.mono ?_; rintro e w4 ⟨rfl, l4, -⟩
            have HR4 := Lib.hid (HRd.out _ _ _ l4 hm')
            have L4 := Lib.hid l4
            clear l4
            go_wp2_with fail
            refine HR4.out.mono ?_; rintro e w5 ⟨rfl, hb5⟩
            have L5 := Lib.hid (L4.out.below hb5)
            clear hb5
            go_wp2_with fail
            exact ⟨⟨k + 1, _, _, by omega, by go_num, L5.out, by omega, hm'⟩, by simp [intOf]; omega⟩
          · generalize (opR M c).1 = er at *
            generalize opL M c = Lc at *
            go_wp2_with fail
            refine HSt.out.mono ?_; rintro e w3 ⟨v3, rfl, hs3⟩
            have L3 := Lib.hid (HO1.out.below hs3.1)
            have HR4 := Lib.hid (HRd.out _ _ _ L3.out hm)
            clear hs3
            go_wp2_with fail
            refine HR4.out.mono ?_; rintro e w5 ⟨rfl, hb5⟩
            have L5 := Lib.hid (L3.out.below hb5)
            clear hb5
            go_wp2_with fail
            exact ⟨⟨k + 1, _, _, by omega, by go_num, L5.out, by omega, hm⟩, by simp [intOf]; omega⟩
        by_cases k4 : c.kind = 23
        · rw [k4] at c0
          have HSt := Lib.hid (steps17 HO1.out c)
          have HRd := Lib.hid (fun M' q' w' (h : LobAt w w' b mb hb pb M' q') (hm : M' 500 = some mine) => by
            have := op_read h 500 0 (mine.size : Int)
            rw [byR_some (by omega) hm, rd_all] at this
            exact this)
          by_cases e0 : (opR M c).1 = 0
          · have HL := fun a' cp' w' (h : LobAt w w' b mb hb pb M q) ht => land_op h c e0 (by omega) a' cp' ht
            rw [e0] at HSt
            have HLh := Lib.hid HL
            clear HL
            have hm' : updO M c.num (opR M c).2 500 = some mine := by rw [updO_other (Ne.symm k0)]; exact hm
            generalize updO M c.num (opR M c).2 = M' at *
            generalize opL M c = Lc at *
            go_wp2_with fail
            refine HSt.out.mono ?_; rintro e w3 ⟨v3, rfl, hs3⟩
            obtain ⟨a3, cp3, rfl, l3, t3⟩ := StepsOut.at HO1.out hs3
            have HL3 := Lib.hid (HLh.out a3 cp3 _ l3 t3)
            clear hs3 l3 t3
            go_wp2_with fail
            refine HL3.out.mono ?_; rintro e w4 ⟨rfl, l4, -⟩
            have HR4 := Lib.hid (HRd.out _ _ _ l4 hm')
            have L4 := Lib.hid l4
            clear l4
            go_wp2_with fail
            refine HR4.out.mono ?_; rintro e w5 ⟨rfl, hb5⟩
            have L5 := Lib.hid (L4.out.below hb5)
            clear hb5
            go_wp2_with fail
            exact ⟨⟨k + 1, _, _, by omega, by go_num, L5.out, by omega, hm'⟩, by simp [intOf]; omega⟩
          · generalize (opR M c).1 = er at *
            generalize opL M c = Lc at *
            go_wp2_with fail
            refine HSt.out.mono ?_; rintro e w3 ⟨v3, rfl, hs3⟩
            have L3 := Lib.hid (HO1.out.below hs3.1)
            have HR4 := Lib.hid (HRd.out _ _ _ L3.out hm)
            clear hs3
            go_wp2_with fail
            refine HR4.out.mono ?_; rintro e w5 ⟨rfl, hb5⟩
            have L5 := Lib.hid (L3.out.below hb5)
            clear hb5
            go_wp2_with fail
            exact ⟨⟨k + 1, _, _, by omega, by go_num, L5.out, by omega, hm⟩, by simp [intOf]; omega⟩
        · clear hlv
          have d0 : decide (c.num = 500) = false := by simp [k0]
          have d1 : decide (c.kind = 18) = false := by simp [k1]
          have d2 : decide (c.kind = 21) = false := by simp [k2]
          have d3 : decide (c.kind = 22) = false := by simp [k3]
          have d4 : decide (c.kind = 23) = false := by simp [k4]
          go_wp2_with fail
          all_goals first
            | exact ⟨⟨k + 1, M, q, by omega, by go_num, HO1.out, by omega, hm⟩, by simp [intOf]; omega⟩
            | (exfalso; simp_all)
      · have hke : k = len := by omega
        subst hke
        have HO := Lib.hid hO
        have HLe := op_len hO 500
        rw [byR_some (by omega) hm] at HLe
        have HLn := Lib.hid HLe
        clear hO HLe
        go_wp2_with fail
        refine HLn.out.mono ?_; rintro e w3 ⟨rfl, hb3⟩
        have O3 := Lib.hid ((HO.out.below hb3).low)
        clear hb3
        go_wp2_with fail
        go_ret
        exact ⟨by simp, O3.out⟩
  · by_cases hl1 : len ≤ 40
    · have hl1i : decide ((40 : Int) < (len : Int)) = false := by simp; omega
      have hl2 : decide ((64 : Int) < (mine.size : Int)) = true := by simp; omega
      go_enter Try.func6, Try.ntmps6
      go_wp2_with fail
      refine (HA.out _).mono ?_; rintro e w1 ⟨rfl, hb1⟩
      have B1 := Lib.hid hb1
      clear hb1
      go_wp2_with fail
      refine (HV.out _).mono ?_; rintro e w2 ⟨b, mb, hb, pb, rfl, h2⟩
      have L2 := Lib.hid (B1.out.trans (h2.low.mono B1.out.size))
      clear h2
      go_wp2_with fail
      go_ret
      exact ⟨rfl, L2.out⟩
    · have hl1i : decide ((40 : Int) < (len : Int)) = true := by simp; omega
      go_enter Try.func6, Try.ntmps6
      go_wp2_with fail
      refine (HA.out _).mono ?_; rintro e w1 ⟨rfl, hb1⟩
      have B1 := Lib.hid hb1
      clear hb1
      go_wp2_with fail
      refine (HV.out _).mono ?_; rintro e w2 ⟨b, mb, hb, pb, rfl, h2⟩
      have L2 := Lib.hid (B1.out.trans (h2.low.mono B1.out.size))
      clear h2
      go_wp2_with fail
      go_ret
      exact ⟨rfl, L2.out⟩
end Go.Proofs.Ytljommhbhpappaa
