/-
  Layer 16 (tree): the walk of TreeKept.
-/
import Derived.Test.YtljommhbhpappaaPkKept
namespace Go.Proofs.Ytljommhbhpappaa
open Go.RowKit Go.Joins
set_option linter.unusedVariables false
set_option linter.unusedSimpArgs false

set_option maxHeartbeats 8000000 in
set_option maxRecDepth 100000 in
theorem kept_walk (a : Option Addr) (len cap : Nat) (I : List Cl) (key : ByteArray) (w : World) (hI : ClsIn w a len I) (_ : key.size ≤ maxLen) :
    Calls Try.prog 9 #[.slice a len cap, .string key] w fun e w' => e = .returned (.bool true) ∧ Below w.heap.size w w' := by
  have HA := Lib.hid (fun w' => awake16 w')
  have HWr := Lib.hid (fun w' => wrong16 key w')
  have HV := Lib.hid (fun w' => volume16 150 (by omega) (by omega) w')
  have HIn := Lib.hid hI
  have hlen := hI.1
  clear hI
  by_cases hl : len ≤ 150
  · have hl1 : decide ((150 : Int) < (len : Int)) = false := by simp; omega
    by_cases hk : KeyOk key
    · rw [if_pos hk] at HWr
      go_enter Try.func9, Try.ntmps9
      go_wp2_with fail
      refine (HA.out _).mono ?_; rintro e w1 ⟨rfl, hb1⟩
      have B1 := Lib.hid hb1
      clear hb1
      go_wp2_with fail
      refine (HWr.out _).mono ?_; rintro e w1' ⟨rfl, rfl⟩
      go_wp2_with fail
      refine (HV.out _).mono ?_; rintro e w2 ⟨b, mb, hb, pb, rfl, h2⟩
      have K2 := Lib.hid (h2.low.trans (Below.refl _ _))
      have O2 : Hid (One w w2 b mb hb pb (I0 150 150 2).laid) := Lib.hid ⟨B1.out.trans (h2.low.mono B1.out.size), h2.st, by have := B1.out.size; have := h2.hi; omega⟩
      clear h2
      go_wp2_with fail
      refine (kept_put key hk b mb hb pb w _ O2.out).mono ?_; rintro e w3 ⟨u0, S3, F3, rfl, h3, n3, e3, f3⟩
      have O3 := Lib.hid (h3.alloc (.cells u0.cs 86))
      have N3 := Lib.hid n3
      have F3h := Lib.hid f3
      have E3 := Lib.hid e3
      clear h3 n3 f3 e3
      go_wp2_with fail
      refine (kept_cut N3.out key _ F3h.out b mb hb pb w _ O3.out).mono ?_; rintro e w4 ⟨S4, F4, rfl, h4, r4, f4⟩
      have AT4 := Lib.hid (ready_land (er := 0) (F := []) (S := (I0 150 150 2).laid) (I0_at 150 (by omega) (by omega)) ⟨r4.1, r4.2.1.trans E3.out, r4.2.2⟩ (fun h => absurd rfl h))
      obtain ⟨u, hu⟩ : ∃ u, unC key ⟨key, 1, ⟨#[107, 101, 112, 116]⟩⟩ = u := ⟨_, rfl⟩
      have HU := Lib.hid hu
      rw [hu]
      have O4 := Lib.hid (h4.alloc (.cells u.cs 86))
      have R4 := Lib.hid (rowAt_at w4 u.cs 86 _ rfl)
      have F4h := Lib.hid f4
      have hz4 : (w4.alloc (.cells u.cs 86)).heap.size = w4.heap.size + 1 := World.size_alloc ..
      have hmb4 := h4.st.lt
      have HL4 := Lib.hid (land16 r4.1 0 b mb hb pb w _ O4.out)
      clear h4 r4 f4 hu
      go_wp2_with fail
      refine HL4.out.mono ?_; rintro e w5 ⟨rfl, h5, hz5, hr5⟩
      have O5 := Lib.hid h5
      have R5 := Lib.hid ((hr5 w4.heap.size (by omega) (by omega) (by omega)).trans R4.out)
      clear h5 hr5
      go_wp2_with fail
      have e16 : S4.then16 0 = S4.laid := if_pos rfl
      obtain ⟨UB, hUB⟩ : ∃ UB, w4.heap.size = UB := ⟨_, rfl⟩
      rw [hUB] at R5 hz4 ⊢
      go_loopw [62] (fun v wr => ∃ (k : Nat) (S : Vol) (F : List NC), k ≤ len ∧ v = .int .i64 k ∧ One w wr b mb hb pb S ∧ IdxAt S 150 2 F ∧ (⟨key, 2, ⟨#[107, 101, 112, 116]⟩⟩ : NC) ∈ F ∧ rowAt wr UB = some u.cs ∧ UB < wr.heap.size) (fun v _ => len - (intOf v).toNat)
      case atStart => exact ⟨0, _, F4, by omega, rfl, O5.out, AT4.out, F4h.out, R5.out, by omega⟩
      case round =>
        obtain ⟨k, S, F, hk', rfl, hO, hAt, hF, hR, hUl⟩ := hrel
        obtain ⟨wo, rfl⟩ : ∃ wo : World, wo = wr := ⟨_, rfl⟩
        have HO := Lib.hid hO
        have HAt := Lib.hid hAt
        have HF := Lib.hid hF
        have HR := Lib.hid hR
        by_cases hlt : k < len
        · have hVr := HIn.out.below hO.low
          have hIl := HIn.out.2.1
          obtain ⟨bv, off, hvp, hbv, hrow⟩ := hVr.2.2.resolve_left (by omega)
          subst hvp
          obtain ⟨hrg, hok⟩ := hrow k (by omega)
          have hld := load_clIn hrg
          generalize I[k] = c at *
          have HO1 := Lib.hid (hO.alloc (.cells c.cs 92))
          have R1 := rowAt_at wo c.cs 92 _ rfl
          have ck := (cell_row R1 1).trans (show _ = some (.string c.key) from rfl)
          have RU := Lib.hid ((rowAt_past wo (.cells c.cs 92) UB hUl).trans hR)
          have hzo : (wo.alloc (.cells c.cs 92)).heap.size = wo.heap.size + 1 := World.size_alloc ..
          have hbq := beq_eq c.key key
          have hlv := load_clVar R1
          clear hVr hrow hbv hO hAt hF hR hrg hok
          by_cases hke : c.key = key
          · have hq : (c.key.toList == key.toList) = true := by rw [hbq]; simp [hke]
            rw [hke] at ck hq
            go_wp2_with fail
            first
              | exact ⟨⟨k + 1, S, F, by omega, by go_num, HO1.out, HAt.out, HF.out, RU.out, by omega⟩, by simp [intOf]; omega⟩
              | (go_roundw; case rel => exact ⟨k + 1, S, F, by omega, by go_num, HO1.out, HAt.out, HF.out, RU.out, by omega⟩; case measure => simp [intOf]; omega)
          · have hq : (c.key.toList == key.toList) = false := by rw [hbq]; simp [hke]
            have O2k := Lib.hid (HO1.out.alloc (.cells #[.string key] 9))
            have SK : StrAt ((wo.alloc (.cells c.cs 92)).alloc (.cells #[.string key] 9)) (some ⟨wo.heap.size + 1, 0, none⟩) [key] := ⟨by simp, .inr ⟨wo.heap.size + 1, rfl, by go_size, fun i hi => by
              obtain rfl : i = 0 := by simpa using hi
              exact cell_row (rowAt_at (wo.alloc (.cells c.cs 92)) #[.string key] 9 _ (by go_size)) 0⟩⟩
            have HDo := Lib.hid (do16 (Has.of_at HAt.out) c (some ⟨wo.heap.size + 1, 0, none⟩) 1 [key] b mb hb pb w _ O2k.out SK (by simp))
            have RU2 := Lib.hid ((rowAt_past _ (.cells #[.string key] 9) UB (by omega)).trans RU.out)
            clear SK
            go_wp2_with fail
            refine HDo.out.mono ?_; rintro e wd ⟨ud, er, Sd, Fd, rfl, hd1, hd2, hd3, hd4⟩
            have hsame : er ≠ 0 → Fd = F := fun he => by
              rcases hd2 with ⟨-, ⟨h, -⟩ | ⟨-, -, h⟩⟩ | ⟨-, ⟨h, -⟩ | ⟨-, -, h, -⟩⟩ | ⟨-, ⟨h, -⟩ | ⟨-, -, h, -⟩⟩ | ⟨-, -, -, -, h, -⟩
              · exact absurd h he
              · exact h
              · exact absurd h he
              · exact h
              · exact absurd h he
              · exact h
              · exact absurd h he
            have hFd := did_kept hd2 hke HF.out rfl
            have hAd := ready_land HAt.out hd3 hsame
            have hzd := hd4.size
            have hz2 : ((wo.alloc (.cells c.cs 92)).alloc (.cells #[.string key] 9)).heap.size = wo.heap.size + 1 + 1 := by go_size
            have RUd := Lib.hid ((rowAt_past wd (.cells ud.cs 86) UB (by omega)).trans ((rowAt_grown hd4 (by omega) (by omega)).trans RU2.out))
            have Od := Lib.hid (hd1.alloc (.cells ud.cs 86))
            have hzu : (wd.alloc (.cells ud.cs 86)).heap.size = wd.heap.size + 1 := World.size_alloc ..
            have HLd := Lib.hid (land16 hd3.1 er b mb hb pb w _ Od.out)
            have HFd := Lib.hid hFd
            have HAd := Lib.hid hAd
            clear hd1 hd2 hd3 hd4 hFd hAd hsame hlv hld R1 ck
            go_wp2_with fail
            refine HLd.out.mono ?_; rintro e we ⟨rfl, he1, he2, he3⟩
            have RUe := Lib.hid ((he3 UB (by omega) (by omega) (by omega)).trans RUd.out)
            have Oe := Lib.hid he1
            have HSk := Lib.hid (op_seek (Has.of_at HAd.out) key b mb hb pb w _ he1)
            have hsk : seekL key Fd = some ⟨key, 2, ⟨#[107, 101, 112, 116]⟩⟩ := seekL_there (Has.of_at HAd.out).rising HFd.out
            rw [hsk] at HSk
            simp only [seekV] at HSk
            clear he1 he3 hsk
            go_wp2_with fail
            refine HSk.out.mono ?_; rintro e wf ⟨rfl, hf1, hf2⟩
            have hzf := hf2.size
            have RUf := Lib.hid ((rowAt_below hf2 (by omega)).trans RUe.out)
            have Of := Lib.hid hf1
            clear hf1 hf2
            go_wp2_with fail
            first
              | exact ⟨⟨k + 1, _, Fd, by omega, by go_num, Of.out, HAd.out, HFd.out, RUf.out, by omega⟩, by simp [intOf]; omega⟩
              | (go_roundw; case rel => exact ⟨k + 1, _, Fd, by omega, by go_num, Of.out, HAd.out, HFd.out, RUf.out, by omega⟩; case measure => simp [intOf]; omega)
        · have hke : k = len := by omega
          subst hke
          have r7 : row7 (rowAt wo UB) = true := by rw [HR.out]; rfl
          have hur : UnOk u (fun _ => ⟨key, 1, ⟨#[107, 101, 112, 116]⟩⟩) := by
            rw [← HU.out]
            exact ⟨rfl, rfl, hk, .inr ⟨⟨key, 1, ⟨#[107, 101, 112, 116]⟩⟩, ⟨.inl rfl, hk.1, hk.2, by show (4 : Nat) ≤ 20; omega⟩, rfl, rfl, rfl, rfl⟩⟩
          have hukey : u.key = key := by rw [← HU.out]
          have HRe := Lib.hid (op_restore (Has.of_at HAt.out) u _ hur b mb hb pb w _ HO.out)
          clear hO hAt hF hur
          go_wp2_with fail
          refine HRe.out.mono ?_; rintro e wg ⟨er, Sg, Fg, rfl, hg1, hg2, hg3⟩
          rw [hukey] at hg2
          rcases hg2 with ⟨rfl, x, hx, hxk, rfl⟩ | ⟨-, -, h⟩
          · have hin : (⟨key, 1, ⟨#[107, 101, 112, 116]⟩⟩ : NC) ∈ setC ⟨key, 1, ⟨#[107, 101, 112, 116]⟩⟩ F := List.mem_map.2 ⟨_, HF.out, by simp⟩
            have HGe := Lib.hid (op_get hg3 key hk b mb hb pb w _ hg1)
            rw [show getL key (setC ⟨key, 1, ⟨#[107, 101, 112, 116]⟩⟩ F) = some ⟨#[107, 101, 112, 116]⟩ from getL_there hg3.rising hin] at HGe
            simp only [getV] at HGe
            clear hg1 hg3 hin
            go_wp2_with fail
            refine HGe.out.mono ?_; rintro e wh ⟨rfl, hh1, -⟩
            have Oh := Lib.hid hh1
            clear hh1
            go_wp2_with fail
            go_ret
            exact ⟨rfl, Oh.out.low⟩
          · exact absurd rfl (h _ HF.out)
    · rw [if_neg hk] at HWr
      go_enter Try.func9, Try.ntmps9
      go_wp2_with fail
      refine (HA.out _).mono ?_; rintro e w1 ⟨rfl, hb1⟩
      have B1 := Lib.hid hb1
      clear hb1
      go_wp2_with fail
      refine (HWr.out _).mono ?_; rintro e w1' ⟨rfl, rfl⟩
      go_wp2_with fail
      go_ret
      exact ⟨rfl, B1.out⟩
  · have hl1 : decide ((150 : Int) < (len : Int)) = true := by simp; omega
    go_enter Try.func9, Try.ntmps9
    go_wp2_with fail
    refine (HA.out _).mono ?_; rintro e w1 ⟨rfl, hb1⟩
    have B1 := Lib.hid hb1
    clear hb1
    go_wp2_with fail
    go_ret
    exact ⟨rfl, B1.out⟩
end Go.Proofs.Ytljommhbhpappaa
