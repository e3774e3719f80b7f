/-
  Layer 14 (space): what Forget and Find refuse; the walk of SpaceStores.
-/
import Derived.Test.YtmbeicijljlejaaLowest
namespace Go.Proofs.Ytmbeicijljlejaa
open Go.RowKit Go.Joins
set_option linter.unusedVariables false
set_option linter.unusedSimpArgs false

set_option maxHeartbeats 2000000 in
set_option maxRecDepth 100000 in
theorem forget_bad {P : Nat → Prop} {w0 w : World} {b hb : Nat} {S : Vol} {d m : Pg} {n : Nat} (L : Lay P w0 w b hb S) (h : VolOk S d m n) (st : Int) (hst : st < 1 ∨ 6 < st ∨ ∃ k : Nat, k < 6 ∧ st = (k : Int) + 1 ∧ d.a k = 0) :
    Calls Try.prog 14 #[.pointer (some ⟨b, 0, none⟩), .int .i64 st] w fun e w' => e = .returned (.int .i64 1) ∧ Lay P w0 w' b hb S := by
  obtain ⟨mb, pb, hs, h4⟩ := L.at'
  have HD := Lib.hid (fun w' hh => dir_ok S b mb hb pb d w' hh h.dir)
  have HS := Lib.hid hs
  have HL := Lib.hid L
  by_cases k1 : st < 1
  · clear hs h L hst h4
    go_enter Try.func14, Try.ntmps14
    go_wp2_with fail
    refine (HD.out _ HS.out).mono ?_; rintro e w1 ⟨rfl, hb1⟩
    have hsz := hb1.size
    have HB1 := Lib.hid hb1
    clear hb1
    go_wp2_with fail
    go_ret
    exact ⟨rfl, HL.out.step (HB1.out.alloc (by omega) (.cells d.cs 50))⟩
  by_cases k2 : 6 < st
  · clear hs h L hst h4
    go_enter Try.func14, Try.ntmps14
    go_wp2_with fail
    refine (HD.out _ HS.out).mono ?_; rintro e w1 ⟨rfl, hb1⟩
    have hsz := hb1.size
    have HB1 := Lib.hid hb1
    clear hb1
    go_wp2_with fail
    go_ret
    exact ⟨rfl, HL.out.step (HB1.out.alloc (by omega) (.cells d.cs 50))⟩
  · obtain ⟨k, hk, rfl, ha⟩ := (hst.resolve_left k1).resolve_left k2
    have ca := cs_a d k hk
    rw [ha] at ca
    clear hs h L hst h4 k1 k2 ha
    go_enter Try.func14, Try.ntmps14
    go_wp2_with fail
    refine (HD.out _ HS.out).mono ?_; rintro e w1 ⟨rfl, hb1⟩
    have hsz := hb1.size
    have HB1 := Lib.hid hb1
    clear hb1
    go_wp2_with fail
    go_ret
    exact ⟨rfl, HL.out.step (HB1.out.alloc (by omega) (.cells d.cs 50))⟩

set_option maxHeartbeats 2000000 in
set_option maxRecDepth 100000 in
theorem find_free {P : Nat → Prop} {w0 w : World} {b hb : Nat} {S : Vol} {d m : Pg} {n : Nat} (L : Lay P w0 w b hb S) (h : VolOk S d m n) (k : Nat) (hk : k < 6) (ha : d.a k = 0) (st : Int) (hst : st = (k : Int) + 1) :
    Calls Try.prog 12 #[.pointer (some ⟨b, 0, none⟩), .int .i64 st] w fun e w' => e = .returned (.tuple #[.int .i64 0, .int .i64 0, .int .i64 0, .int .i64 190]) ∧ Lay P w0 w' b hb S := by
  obtain ⟨mb, pb, hs, h4⟩ := L.at'
  have HD := Lib.hid (fun w' hh => dir_ok S b mb hb pb d w' hh h.dir)
  have HS := Lib.hid hs
  have HL := Lib.hid L
  subst hst
  have ca := cs_a d k hk
  rw [ha] at ca
  clear hs h L h4 ha
  go_enter Try.func12, Try.ntmps12
  go_wp2_with fail
  refine (HD.out _ HS.out).mono ?_; rintro e w1 ⟨rfl, hb1⟩
  have hsz := hb1.size
  have HB1 := Lib.hid hb1
  clear hb1
  go_wp2_with fail
  exact ret_tmp4 rfl rfl ⟨rfl, HL.out.step (HB1.out.alloc (by omega) (.cells d.cs 50))⟩

def StoresAt (b hb : Nat) (w wr : World) (n : Nat) (S : Vol) (d m : Pg) : Prop :=
  n ≤ 6 ∧ Lay (· < w.heap.size) w wr b hb S ∧ VolOk S d m 32 ∧ S.Fit 32 ∧ S.M = [] ∧ (∀ j, j < 6 → d.a j = if j < n then 1 else 0) ∧ ∀ i, i < 32 → bitAt m i = decide (i < 2 + n)
theorem bits_made {S : Vol} {d m : Pg} {n : Nat} (h : VolOk S d m 32) (hn : n < 6) (hb : ∀ i, i < 32 → bitAt m i = decide (i < 2 + n)) : ∀ i, i < 32 → bitAt (markPg m (2 + n) true) i = decide (i < 2 + (n + 1)) := by
  intro j hj
  rw [bitAt_lt h _ _ _ hj (by omega)]
  by_cases e : j = 2 + n
  · subst e; simp
  · rw [if_neg e, hb j hj]
    by_cases h2 : j < 2 + n
    · have : j < 2 + (n + 1) := by omega
      simp [h2, this]
    · have : ¬ j < 2 + (n + 1) := by omega
      simp [h2, this]

set_option maxHeartbeats 4000000 in
set_option maxRecDepth 100000 in
theorem stores_walk (vp : Option Addr) (len cap : Nat) (zs : List Int) (fg : Int) (w : World) (hR : RowOk w vp len zs) :
    Calls Try.prog 6 #[.slice vp len cap, .int .i64 fg] w fun e w' => e = .returned (.bool true) ∧ Below w.heap.size w w' := by
  have HA := Lib.hid (fun (w' : World) => awake_any w')
  have HM := Lib.hid (fun (w' : World) => memory_ok 32 (by omega) (by omega) w')
  have HN := Lib.hid (fun hb pb w' hB h h1 h2 => new_lay hb pb (List.replicate 32 Pg.zero) w w' hB h h1 h2)
  have HFo := Lib.hid (fun w' b hb (L : Lay (· < w.heap.size) w w' b hb ⟨List.replicate 32 Pg.zero, []⟩) => format_lay L 32 (by omega) (by omega))
  have f0 : VolOk (Vol.formed ⟨List.replicate 32 Pg.zero, []⟩ 32) { k := 1 } (newMap 32) 32 := vol_new 32 32 (by omega) (by omega) (by omega)
  have g0 : (Vol.formed ⟨List.replicate 32 Pg.zero, []⟩ 32).Fit 32 := formed_fit (Vol.Fit.nil (List.replicate 32 Pg.zero) (by simp)) (by omega) (by omega)
  have HL := Lib.hid (fun (P : Nat → Prop) (w1 w' : World) b hb S (L : Lay P w1 w' b hb S) (h : S.Fit 32) e => land_lay L h e)
  have hL0 := Lib.hid (fun w' b hb (L : Lay (· < w.heap.size) w w' b hb (Vol.formed ⟨List.replicate 32 Pg.zero, []⟩ 32)) => land_lay L g0 0)
  have F0 := Lib.hid (f0.landed g0 (by omega))
  have G0 := Lib.hid (landed_fit g0)
  have e0 : (Vol.formed ⟨List.replicate 32 Pg.zero, []⟩ 32).after 0 = (Vol.formed ⟨List.replicate 32 Pg.zero, []⟩ 32).landed := if_pos rfl
  rw [e0] at hL0
  have HR := Lib.hid hR
  have hlen := hR.1
  have HMb := Lib.hid (fun p k (h : k < 1 ∨ 3 < k) w' => make_bad p k w' h)
  clear f0 g0 hR e0
  go_enter Try.func6, Try.ntmps6
  go_wp2_with fail
  refine (HA.out _).mono ?_; rintro e w0 ⟨rfl, hb0⟩
  have K0 := Lib.hid hb0
  have hz0 := hb0.size
  clear hb0
  go_wp2_with fail
  refine (HM.out _).mono ?_; rintro e w1 ⟨hb, pb, rfl, hb1, q1, q2, hs1⟩
  have K1 := Lib.hid (K0.out.trans (hb1.mono hz0))
  have K2 := Lib.hid hs1
  clear hb1 hs1
  go_wp2_with fail
  refine (HN.out hb pb _ K1.out K2.out (by omega) (by omega)).mono ?_; rintro e w2 ⟨b, rfl, L2⟩
  have K3 := Lib.hid L2
  clear L2
  go_wp2_with fail
  refine (HFo.out _ _ _ K3.out).mono ?_; rintro e w3 ⟨rfl, L3⟩
  have K4 := Lib.hid L3
  clear L3
  go_wp2_with fail
  refine (hL0.out _ _ _ K4.out).mono ?_; rintro e w4 ⟨rfl, L4⟩
  have HS0 : Hid (StoresAt b hb w w4 0 (Vol.formed ⟨List.replicate 32 Pg.zero, []⟩ 32).landed { k := 1 } (newMap 32)) :=
    Lib.hid ⟨by omega, L4, F0.out, G0.out, rfl, fun j hj => by rw [free_dir j hj]; rfl, fun i hi => newMap_bit _ _ (by omega)⟩
  clear L4 HFo HM HN HA hL0 F0 G0 K0 K1 K2 K3 K4
  go_wp2_with fail
  go_loopw [8, 41] (fun v i wr => ∃ k n : Nat, k ≤ len ∧ i = .int .i64 k ∧ v = .int .i64 n ∧ ∃ S d m, StoresAt b hb w wr n S d m) (fun _ i _ => len - (intOf i).toNat)
  case atStart => exact ⟨0, 0, by omega, rfl, rfl, _, _, _, HS0.out⟩
  case round =>
    obtain ⟨k, n, hk, rfl, rfl, S, d, m, hn, L, hV, hF, hMn, hA, hB⟩ := hrel
    clear HS0
    by_cases hlt : k < len
    · have hRk := HR.out.below L.low
      obtain ⟨rb, ro, hvp, hrb, hcell⟩ := hRk.2.resolve_left (by omega)
      subst hvp
      have hc := hcell k hlt
      generalize zs.getD k 0 = kd at *
      clear hcell hRk
      by_cases hbad : kd < 1 ∨ 3 < kd
      · have HC := Lib.hid (fun p w' => HMb.out p kd hbad w')
        have KS : Hid (∀ w', Lay (· < w.heap.size) w w' b hb S → StoresAt b hb w w' n S d m) := Lib.hid fun w' L' => ⟨hn, L', hV, hF, hMn, hA, hB⟩
        have e4 : S.after 1 = S := (if_neg (by decide)).trans (vol_nil hMn)
        have KF := Lib.hid hF
        have KL := Lib.hid L
        have E4 := Lib.hid e4
        clear L hV hF hMn hA hB e4
        by_cases k1 : kd < 1
        · clear hbad
          go_wp2_with fail
          refine (HC.out _ _).mono ?_; rintro e w5 ⟨rfl, rfl⟩
          go_wp2_with fail
          refine (HL.out _ _ _ _ _ _ KL.out KF.out 1).mono ?_; rintro e w5 ⟨rfl, L5⟩
          rw [E4.out] at L5
          have K5 := Lib.hid L5
          clear L5
          go_wp2_with fail
          go_roundw
          case rel => exact ⟨k + 1, n, by omega, by go_num, rfl, S, d, m, KS.out _ K5.out⟩
          case measure => simp [intOf]; omega
        · have k2 : 3 < kd := by omega
          clear hbad
          go_wp2_with fail
          refine (HC.out _ _).mono ?_; rintro e w5 ⟨rfl, rfl⟩
          go_wp2_with fail
          refine (HL.out _ _ _ _ _ _ KL.out KF.out 1).mono ?_; rintro e w5 ⟨rfl, L5⟩
          rw [E4.out] at L5
          have K5 := Lib.hid L5
          clear L5
          go_wp2_with fail
          go_roundw
          case rel => exact ⟨k + 1, n, by omega, by go_num, rfl, S, d, m, KS.out _ K5.out⟩
          case measure => simp [intOf]; omega
      · have k1 : 1 ≤ kd := by omega
        have k2 : kd ≤ 3 := by omega
        by_cases h6 : n = 6
        · subst h6
          have HC := Lib.hid (make_many L hV (fun j hj => by rw [hA j hj, if_pos hj]; decide) kd ⟨k1, k2⟩)
          have KS : Hid (∀ w', Lay (· < w.heap.size) w w' b hb S → StoresAt b hb w w' 6 S d m) := Lib.hid fun w' L' => ⟨hn, L', hV, hF, hMn, hA, hB⟩
          have e4 : S.after 192 = S := (if_neg (by decide)).trans (vol_nil hMn)
          have KF := Lib.hid hF
          have E4 := Lib.hid e4
          clear L hV hF hMn hA hB e4 hbad
          go_wp2_with fail
          refine HC.out.mono ?_; rintro e w5 ⟨rfl, L5⟩
          have K5 := Lib.hid L5
          clear L5
          go_wp2_with fail
          refine (HL.out _ _ _ _ _ _ K5.out KF.out 192).mono ?_; rintro e w6 ⟨rfl, L6⟩
          rw [E4.out] at L6
          have K6 := Lib.hid L6
          clear L6
          go_wp2_with fail
          go_roundw
          case rel => exact ⟨k + 1, 6, by omega, by go_num, rfl, S, d, m, KS.out _ K6.out⟩
          case measure => simp [intOf]; omega
        · have hn6 : n < 6 := by omega
          have h0 : (n == 6) = false := by simp [h6]
          have h0' : ((n : Int) == 6) = false := by simp; omega
          have HC := Lib.hid (make_lay L hV n hn6 (by rw [hA n hn6, if_neg (by omega)]) (fun j hj => by rw [hA j (by omega), if_pos hj]; decide) (2 + n) (by omega) (by rw [hB _ (by omega)]; simp) (fun j hj => by rw [hB j (by omega)]; simp [hj]) kd (by omega) ((n : Int) + 1) rfl)
          have hV2 := hV.make n (2 + n) kd hn6 (by omega) (by omega)
          have hF2 := made_fit hV hF (by omega) n (2 + n) kd hn6 (by omega) (by omega)
          have hV3 := hV2.landed hF2 (by omega)
          have hF3 := landed_fit hF2
          have hA3 : ∀ j, j < 6 → (d.setC n 1 (entryD kd (2 + n : Nat))).a j = if j < n + 1 then 1 else 0 := fun j hj => by
            rw [a_setC _ _ _ hn6 hj]
            by_cases e : j = n
            · subst e; simp
            · rw [if_neg e, hA j hj]
              by_cases h2 : j < n
              · have : j < n + 1 := by omega
                simp [h2, this]
              · have : ¬ j < n + 1 := by omega
                simp [h2, this]
          have hB3 := bits_made hV hn6 hB
          have HFi := Lib.hid (fun w' (L' : Lay (· < w.heap.size) w w' b hb (S.made d m n (2 + n) kd).landed) => find_lay L' hV3 n hn6 (by rw [hA3 n hn6, if_pos (by omega)]; decide) kd (2 + n : Nat) (by omega) (by omega) (by omega) (by omega) (by rw [d_setC _ _ _ hn6 hn6, if_pos rfl]) ((n : Int) + 1) rfl 1 (by rw [hA3 n hn6, if_pos (by omega)]))
          have KS : Hid (∀ w', Lay (· < w.heap.size) w w' b hb (S.made d m n (2 + n) kd).landed → StoresAt b hb w w' (n + 1) (S.made d m n (2 + n) kd).landed (d.setC n 1 (entryD kd (2 + n : Nat))) (markPg m (2 + n) true)) := Lib.hid fun w' L' => ⟨by omega, L', hV3, hF3, rfl, hA3, hB3⟩
          have KF := Lib.hid hF2
          clear L hV hF hMn hA hB hbad hV2 hF2 hV3 hF3 hA3 hB3
          go_wp2_with fail
          refine HC.out.mono ?_; rintro e w5 ⟨rfl, L5⟩
          have K5 := Lib.hid L5
          clear L5
          go_wp2_with fail
          refine (HL.out _ _ _ _ _ _ K5.out KF.out 0).mono ?_; rintro e w6 ⟨rfl, L6⟩
          have K6 := Lib.hid ((show (S.made d m n (2 + n) kd).after 0 = (S.made d m n (2 + n) kd).landed from if_pos rfl) ▸ L6)
          clear L6
          go_wp2_with fail
          refine (HFi.out _ K6.out).mono ?_; rintro e w7 ⟨rfl, L7⟩
          have K7 := Lib.hid L7
          clear L7
          go_wp2_with fail
          go_roundw
          case rel => exact ⟨k + 1, n + 1, by omega, by go_num, by go_num, _, _, _, KS.out _ K7.out⟩
          case measure => simp [intOf]; omega
    · have hke : k = len := by omega
      subst hke
      by_cases hf : fg < 1 ∨ (n : Int) < fg
      · have HC := Lib.hid (forget_bad L hV fg (by
          by_cases q1 : fg < 1
          · exact .inl q1
          by_cases q2 : 6 < fg
          · exact .inr (.inl q2)
          · refine .inr (.inr ⟨(fg - 1).toNat, by omega, by omega, ?_⟩)
            rw [hA _ (by omega), if_neg (by omega)]))
        clear L hV hF hMn hA hB
        by_cases q1 : fg < 1
        · have t1 : decide (fg < 1) = true := by simpa using q1
          clear hf
          go_wp2_with fail
          refine HC.out.mono ?_; rintro e w5 ⟨rfl, L5⟩
          have K5 := Lib.hid L5
          clear L5
          go_wp2_with fail
          go_ret
          exact ⟨rfl, K5.out.low⟩
        · have q2 : (n : Int) < fg := by omega
          have t1 : decide (fg < 1) = false := by simpa using q1
          have t2 : decide ((n : Int) < fg) = true := by simpa using q2
          clear hf
          go_wp2_with fail
          refine HC.out.mono ?_; rintro e w5 ⟨rfl, L5⟩
          have K5 := Lib.hid L5
          clear L5
          go_wp2_with fail
          go_ret
          exact ⟨rfl, K5.out.low⟩
      · obtain ⟨q, hq⟩ : ∃ q : Nat, fg = (q : Int) + 1 := ⟨(fg - 1).toNat, by omega⟩
        have hqn : q < n := by omega
        have hq6 : q < 6 := by omega
        have HC := Lib.hid (forget_lay L hV q hq6 (by rw [hA q hq6, if_pos hqn]; decide) fg hq)
        have hV2 := (hV.forget q hq6).2
        have ha5 : (d.setC q 0 ByteArray.empty).a q = 0 := by rw [a_setC _ _ _ hq6 hq6, if_pos rfl]
        have hbef : ∀ j, j < q → (d.setC q 0 ByteArray.empty).a j ≠ 0 := fun j hj => by
          rw [a_setC _ _ _ hq6 (by omega), if_neg (by omega), hA j (by omega), if_pos (by omega)]; decide
        have HFi := Lib.hid (fun w' (L' : Lay (· < w.heap.size) w w' b hb (S.forgot d m 32 q)) => find_free L' hV2 q hq6 ha5 fg hq)
        obtain ⟨id, hid, hfr, hbl⟩ := least (p := bitAt (m.forgot S 32 q)) (2 + n) (by rw [forgot_bit hV q (2 + n) (by omega), hB (2 + n) (by omega)]; simp)
        have HMa := Lib.hid (fun w' (L' : Lay (· < w.heap.size) w w' b hb (S.forgot d m 32 q)) => make_lay L' hV2 q hq6 ha5 hbef id (by omega) hfr hbl 1 (.inl rfl) fg hq)
        have t1 : decide (fg < 1) = false := by simp; omega
        have t2 : decide ((n : Int) < fg) = false := by simp; omega
        have f1 : ¬ fg < 1 := by omega
        have f2 : ¬ (n : Int) < fg := by omega
        clear L hV hF hMn hA hB hV2 ha5 hbef hfr hbl hf hq
        go_wp2_with fail
        refine HC.out.mono ?_; rintro e w5 ⟨rfl, L5⟩
        have K5 := Lib.hid L5
        clear L5
        go_wp2_with fail
        refine (HFi.out _ K5.out).mono ?_; rintro e w6 ⟨rfl, L6⟩
        have K6 := Lib.hid L6
        clear L6
        go_wp2_with fail
        refine (HMa.out _ K6.out).mono ?_; rintro e w7 ⟨rfl, L7⟩
        have K7 := Lib.hid L7
        clear L7
        go_wp2_with fail
        go_ret
        exact ⟨rfl, K7.out.low⟩
end Go.Proofs.Ytmbeicijljlejaa
