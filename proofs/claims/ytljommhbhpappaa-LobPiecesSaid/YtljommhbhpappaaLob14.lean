/-
  Layer 17 (lob): the walk of LobPieces.
-/
import Derived.Test.YtljommhbhpappaaLob12
import Derived.Test.YtljommhbhpappaaFrame17c
namespace Go.Proofs.Ytljommhbhpappaa
open Go.RowKit Go.Joins
set_option linter.unusedVariables false
set_option linter.unusedSimpArgs false

theorem LobAt.le {w0 w : World} {b mb hb pb : Nat} {M : Mo} {q q' : Nat} (h : LobAt w0 w b mb hb pb M q) (hq : q ≤ q') : LobAt w0 w b mb hb pb M q' := by
  obtain ⟨g, h1, h2⟩ := h
  exact ⟨g, h1.le hq, h2⟩
theorem ext_zero (x : ByteArray) : x.extract 0 0 = ByteArray.empty := by
  apply ByteArray.ext
  apply Array.eq_empty_of_size_eq_zero
  have : (x.extract 0 0).size = 0 := by rw [ByteArray.size_extract]; omega
  exact this
theorem rd_part {x : ByteArray} {p : Nat} {n : Int} (h0 : 0 ≤ n) (h1 : n ≤ (x.size : Int) - p) (hp : p ≤ x.size) : rdR (x, 0) (p : Int) n = (0, x.extract p (p + n.toNat)) := by
  unfold rdR
  rw [if_neg (by simp), if_neg (by simp only; omega)]
  have e : ((p : Int) + n).toNat = p + n.toNat := by omega
  rw [e]; rfl
theorem ext_join (x : ByteArray) (p n : Nat) : x.extract 0 p ++ x.extract p (p + n) = x.extract 0 (p + n) := by
  rw [ByteArray.extract_append_extract]; congr 1 <;> omega
theorem ext_whole (x : ByteArray) (p : Nat) (hp : p ≤ x.size) : x.extract 0 p ++ x.extract p x.size = x := by
  have := ext_join x p (x.size - p)
  rw [show p + (x.size - p) = x.size from by omega] at this
  rw [this]; simp

set_option maxHeartbeats 4000000 in
set_option maxRecDepth 100000 in
theorem pieces_walk (a : Option Addr) (len cap : Nat) (I : List ByteArray) (a2 : Option Addr) (len2 cap2 : Nat) (Z : List Int) (w : World) (hI : StrsIn w a len I) (hZ : RowOk w a2 len2 Z) :
    Calls Try.prog 4 #[.slice a len cap, .slice a2 len2 cap2] w fun e w' => e = .returned (.bool true) ∧ Below w.heap.size w w' := by
  have HA := Lib.hid (fun w' => awake17 w')
  have HV := Lib.hid (fun w' => volume17 w')
  have HIn := Lib.hid hI
  have HZn := Lib.hid hZ
  have hlen := hI.1
  have hlen2 := hZ.1
  clear hI hZ
  by_cases hl : len ≤ 20
  · have hl1 : decide ((20 : Int) < (len : Int)) = false := by simp; omega
    go_enter Try.func4, Try.ntmps4
    go_wp2_with fail
    refine (HA.out _).mono ?_; rintro e w1 ⟨rfl, hb1⟩
    have B1 := Lib.hid hb1
    clear hb1
    go_wp2_with fail
    refine (HV.out _).mono ?_; rintro e w2 ⟨b, mb, hb, pb, rfl, h2⟩
    have L2 := Lib.hid (volume_at B1.out h2)
    have HN := op_new L2.out { kind := 18, num := 5 } rfl
    have E1 := opR_new (M := fun _ => none) (n := 5) (by omega) rfl
    rw [show (opR (fun _ => none) { kind := 18, num := 5 }).1 = 0 from by rw [E1]] at HN
    have HN1 := Lib.hid HN
    clear HN h2
    go_wp2_with fail
    refine HN1.out.mono ?_; rintro e w3 ⟨v3, rfl, hs3⟩
    obtain ⟨a3, cp3, rfl, l3, t3⟩ := StepsOut.at L2.out hs3
    have HL := land_op l3 _ (by rw [E1]) (by omega) a3 cp3 t3
    rw [E1] at HL
    have HL3 := Lib.hid HL
    clear HL hs3 l3 t3
    generalize (opL (fun _ => none) { kind := 18, num := 5 }).length = n3 at *
    go_wp2_with fail
    refine HL3.out.mono ?_; rintro e w4 ⟨rfl, l4, -⟩
    have L4 : Hid (LobAt w w4 b mb hb pb (updO (fun _ => none) 5 (some ByteArray.empty)) 7) := Lib.hid l4
    generalize hM4 : updO (fun _ => none) 5 (some ByteArray.empty) = M4 at *
    have m4 : M4 5 = some ByteArray.empty := by rw [← hM4]; rfl
    clear l4 hM4 E1
    go_wp2_with fail
    go_loopw [9, 52] (fun s v wr => ∃ (k : Nat) (all : ByteArray) (M : Mo), k ≤ len ∧ v = .int .i64 k ∧ s = .string all ∧ all.size ≤ 64 * k ∧ M 5 = some all ∧ LobAt w wr b mb hb pb M (7 + 4 * k)) (fun _ v _ => len - (intOf v).toNat)
    case atStart => exact ⟨0, ByteArray.empty, M4, by omega, rfl, rfl, by simp, m4, L4.out⟩
    case round =>
      obtain ⟨k, all, M, hk', rfl, rfl, hal, hm, hO⟩ := hrel
      obtain ⟨wo, rfl⟩ : ∃ wo : World, wo = wr := ⟨_, rfl⟩
      by_cases hlt : k < len
      · have hVr := HIn.out.below hO.low
        have hIl := HIn.out.2.1
        obtain ⟨bv, off, hvp, hbv, hrow⟩ := hVr.2.2.resolve_left (by omega)
        subst hvp
        have hc := hrow k (by omega)
        generalize I[k] = p at *
        have HWr := op_write hO { kind := 21, num := 5, pos := (all.size : Int), val := p } rfl
        have HO1 := Lib.hid hO
        clear hVr hrow hbv hO
        by_cases hp : 64 < p.size
        · have hpi : decide ((64 : Int) < (p.size : Int)) = true := by simp; omega
          rw [opR_long (by omega) hm hp] at HWr
          have HW := Lib.hid HWr
          clear HWr
          go_wp2_with fail
          refine HW.out.mono ?_; rintro e w5 ⟨v5, rfl, hs5⟩
          have L5 : Hid (LobAt w w5 b mb hb pb M (7 + 4 * (k + 1))) := Lib.hid ((HO1.out.below hs5.1).le (by omega))
          clear hs5
          go_wp2_with fail
          exact ⟨⟨k + 1, all, M, by omega, by go_num, rfl, by omega, hm, L5.out⟩, by simp [intOf]; omega⟩
        · have hpi : decide ((64 : Int) < (p.size : Int)) = false := by simp; omega
          have E2 := opR_behind (M := M) (n := 5) (x := all) (p := p) (by omega) hm (by omega) (by omega)
          have hts : ¬ 9223372036854775807 < all.size + p.size := by omega
          have hsz2 : (all ++ p).size = all.size + p.size := ByteArray.size_append
          rw [E2] at HWr
          have HW := Lib.hid HWr
          clear HWr
          go_wp2_with fail
          refine HW.out.mono ?_; rintro e w5 ⟨v5, rfl, hs5⟩
          obtain ⟨a5, cp5, rfl, l5, t5⟩ := StepsOut.at HO1.out hs5
          have HL := land_op l5 _ (by rw [E2]) (by omega) a5 cp5 t5
          rw [E2] at HL
          have HL5 := Lib.hid HL
          have hm6 : updO M 5 (some (all ++ p)) 5 = some (all ++ p) := rfl
          clear HL hs5 l5 t5 E2
          generalize (opL M { kind := 21, num := 5, pos := (all.size : Int), val := p }).length = n5 at *
          go_wp2_with fail
          refine HL5.out.mono ?_; rintro e w6 ⟨rfl, l6, -⟩
          have L6 : Hid (LobAt w w6 b mb hb pb (updO M 5 (some (all ++ p))) (7 + 4 * (k + 1))) := Lib.hid l6
          clear l6
          go_wp2_with fail
          exact ⟨⟨k + 1, all ++ p, _, by omega, by go_num, rfl, by rw [hsz2]; omega, hm6, L6.out⟩, by simp [intOf]; omega⟩
      · have hke : k = len := by omega
        have hall : all.size ≤ 1280 := by omega
        have HO := Lib.hid hO
        clear hO hal hke
        go_wp2_with fail
        go_loopw [14, 15, 83] (fun ta tg v wr => ∃ (j p : Nat), j ≤ len2 ∧ v = .int .i64 j ∧ ta = .int .i64 p ∧ tg = .string (all.extract 0 p) ∧ p ≤ all.size ∧ LobAt w wr b mb hb pb M (7 + 4 * k)) (fun _ _ v _ => len2 - (intOf v).toNat)
        case atStart => exact ⟨0, 0, by omega, rfl, rfl, (congrArg Value.string (ext_zero all)).symm, by omega, HO.out⟩
        case round =>
          obtain ⟨j, p, hj, rfl, rfl, rfl, hp, hO⟩ := hrel
          obtain ⟨wo, rfl⟩ : ∃ wo : World, wo = wr := ⟨_, rfl⟩
          have hw : IntKind.wrap .i64 ((all.size : Int) - (p : Int)) = (all.size : Int) - (p : Int) := by rw [IntKind.wrap_i64]; omega
          by_cases hlt : j < len2
          · have hVr := HZn.out.below hO.low
            obtain ⟨bv, off, hvp, hbv, hrow⟩ := hVr.2.resolve_left (by omega)
            subst hvp
            have hc := hrow j hlt
            generalize Z.getD j 0 = n at *
            have HRd := op_read hO 5 (p : Int) n
            rw [byR_some (by omega) hm] at HRd
            have HO1 := Lib.hid hO
            clear hVr hrow hbv hO
            by_cases h0 : n < 0
            · have h0i : decide (n < 0) = true := by simp [h0]
              clear HRd
              go_wp2_with fail
              exact ⟨⟨j + 1, p, by omega, by go_num, rfl, rfl, hp, HO1.out⟩, by simp [intOf]; omega⟩
            have h0i : decide (n < 0) = false := by simp; omega
            by_cases h1 : (all.size : Int) - (p : Int) < n
            · have h1i : decide ((all.size : Int) - (p : Int) < n) = true := by simp [h1]
              clear HRd
              go_wp2_with fail
              exact ⟨⟨j + 1, p, by omega, by go_num, rfl, rfl, hp, HO1.out⟩, by simp [intOf]; omega⟩
            have h1i : decide ((all.size : Int) - (p : Int) < n) = false := by simp; omega
            rw [rd_part (by omega) (by omega) hp] at HRd
            have HR := Lib.hid HRd
            have hj2 := ext_join all p n.toNat
            obtain ⟨X, hX⟩ : ∃ X, all.extract 0 p = X := ⟨_, rfl⟩
            obtain ⟨Y, hY⟩ : ∃ Y, all.extract p (p + n.toNat) = Y := ⟨_, rfl⟩
            have hXs : X.size = p := by rw [← hX, ByteArray.size_extract]; omega
            have hYs : Y.size ≤ all.size := by rw [← hY, ByteArray.size_extract]; omega
            have hts : ¬ 9223372036854775807 < X.size + Y.size := by omega
            have hw2 : IntKind.wrap .i64 ((p : Int) + n) = ((p + n.toNat : Nat) : Int) := by rw [IntKind.wrap_i64]; omega
            rw [hX, hY] at hj2
            rw [hY] at HR
            rw [hX]
            clear HRd hX hY
            go_wp2_with fail
            refine HR.out.mono ?_; rintro e w5 ⟨rfl, hb5⟩
            have L5 := Lib.hid (HO1.out.below hb5)
            clear hb5
            go_wp2_with fail
            go_roundw
            case rel => exact ⟨j + 1, p + n.toNat, by omega, by go_num, by first | rfl | (congr 1; omega), by first | rfl | rw [hj2], by omega, L5.out⟩
            case measure => simp [intOf]; omega
          · have HRd := op_read hO 5 (p : Int) ((all.size : Int) - (p : Int))
            rw [byR_some (by omega) hm, rd_part (by omega) (by omega) hp] at HRd
            have hx : p + ((all.size : Int) - (p : Int)).toNat = all.size := by omega
            rw [hx] at HRd
            have hja := ext_whole all p hp
            obtain ⟨X, hX⟩ : ∃ X, all.extract 0 p = X := ⟨_, rfl⟩
            obtain ⟨Y, hY⟩ : ∃ Y, all.extract p all.size = Y := ⟨_, rfl⟩
            rw [hX, hY] at hja
            rw [hY] at HRd
            rw [hX]
            have hXs : X.size = p := by rw [← hX, ByteArray.size_extract]; omega
            have hYs : Y.size ≤ all.size := by rw [← hY, ByteArray.size_extract]; omega
            have hts : ¬ 9223372036854775807 < X.size + Y.size := by omega
            have HR := Lib.hid HRd
            have HO1 := Lib.hid hO
            have HLn := Lib.hid (fun w' (h : LobAt w w' b mb hb pb M (7 + 4 * k)) => by
              have := op_len h 5
              rw [byR_some (by omega) hm] at this
              exact this)
            clear HRd hX hY hO
            go_wp2_with fail
            refine HR.out.mono ?_; rintro e w5 ⟨rfl, hb5⟩
            have L5 := Lib.hid (HO1.out.below hb5)
            clear hb5
            go_wp2_with fail
            refine (HLn.out _ L5.out).mono ?_; rintro e w6 ⟨rfl, hb6⟩
            have L6 := Lib.hid ((L5.out.below hb6).low)
            clear hb6
            go_wp2_with fail
            go_ret
            refine ⟨?_, L6.out⟩
            simp [hja]
  · have hl1i : decide ((20 : Int) < (len : Int)) = true := by simp; omega
    go_enter Try.func4, Try.ntmps4
    go_wp2_with fail
    refine (HA.out _).mono ?_; rintro e w1 ⟨rfl, hb1⟩
    have B1 := Lib.hid hb1
    clear hb1
    go_wp2_with fail
    refine (HV.out _).mono ?_; rintro e w2 ⟨b, mb, hb, pb, rfl, h2⟩
    have L2 := Lib.hid (B1.out.trans (h2.low.mono B1.out.size))
    clear h2
    go_wp2_with fail
    go_ret
    exact ⟨rfl, L2.out⟩
end Go.Proofs.Ytljommhbhpappaa
