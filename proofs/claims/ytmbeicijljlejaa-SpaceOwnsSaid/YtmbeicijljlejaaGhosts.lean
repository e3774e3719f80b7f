/-
  Layer 14 (space): awake, and the walk of SpaceGhosts.
-/
import Derived.Test.YtmbeicijljlejaaSpace13
namespace Go.Proofs.Ytmbeicijljlejaa
open Go.RowKit Go.Joins
set_option linter.unusedVariables false
set_option linter.unusedSimpArgs false

/-- a new volume: its directory, its map -/
theorem vol_new (l n : Nat) (h4 : 4 ≤ n) (hn : n ≤ 1024) (hl : n ≤ l) : VolOk (Vol.formed ⟨List.replicate l Pg.zero, []⟩ n) { k := 1 } (newMap n) n := VolOk.new _ n [] h4 hn (by simpa using hl)
theorem free_dir (j : Nat) (hj : j < 6) : (({ k := 1 } : Pg).a j) = 0 := by
  have h6 : j = 0 ∨ j = 1 ∨ j = 2 ∨ j = 3 ∨ j = 4 ∨ j = 5 := by omega
  rcases h6 with rfl | rfl | rfl | rfl | rfl | rfl <;> rfl

set_option maxHeartbeats 2000000 in
set_option maxRecDepth 100000 in
theorem awake_any (w : World) :
    Calls Try.prog 7 #[] w fun e w' => e = .returned (.bool true) ∧ Below w.heap.size w w' := by
  have h0 := vol_new 8 8 (by omega) (by omega) (by omega)
  have h1 := h0.make 0 2 2 (by omega) (by omega) (by omega)
  have HM := Lib.hid (fun (w' : World) => memory_ok 8 (by omega) (by omega) w')
  have HN := Lib.hid (fun hb pb w' hB h h1 h2 => new_lay hb pb (List.replicate 8 Pg.zero) w w' hB h h1 h2)
  have HFo := Lib.hid (fun w' b hb (L : Lay (· < w.heap.size) w w' b hb ⟨List.replicate 8 Pg.zero, []⟩) => format_lay L 8 (by omega) (by omega))
  have HMa := Lib.hid (fun w' b hb (L : Lay (· < w.heap.size) w w' b hb _) => make_lay L h0 0 (by omega) (free_dir 0 (by omega)) (by omega) 2 (by omega) (by rw [newMap_bit _ _ (by omega)]; rfl) (fun j hj => by rw [newMap_bit _ _ (by omega)]; simp [hj]) 2 (by omega) 1 rfl)
  have HFi := Lib.hid (fun w' b hb (L : Lay (· < w.heap.size) w w' b hb _) => find_lay L h1 0 (by omega) (by rw [a_setC _ _ _ (by omega) (by omega)]; simp) 2 2 (by omega) (by omega) (by omega) (by omega) (by rw [d_setC _ _ _ (by omega) (by omega)]; rfl) 1 rfl 1 (by rw [a_setC _ _ _ (by omega) (by omega)]; rfl))
  have HFn := Lib.hid (fun w' => format_nil 8 w')
  clear h0 h1
  go_enter Try.func7, Try.ntmps7
  go_wp2_with fail
  refine (HM.out _).mono ?_; rintro e w1 ⟨hb, pb, rfl, hb1, q1, q2, hs1⟩
  have K1 := Lib.hid hb1
  have K2 := Lib.hid hs1
  clear hb1 hs1
  go_wp2_with fail
  refine (HN.out hb pb _ K1.out K2.out q1 q2).mono ?_; rintro e w2 ⟨b, rfl, L2⟩
  have K3 := Lib.hid L2
  clear L2
  go_wp2_with fail
  refine (HFo.out _ _ _ K3.out).mono ?_; rintro e w3 ⟨rfl, L3⟩
  have K4 := Lib.hid L3
  clear L3
  go_wp2_with fail
  refine (HMa.out _ _ _ K4.out).mono ?_; rintro e w4 ⟨rfl, L4⟩
  have K5 := Lib.hid L4
  clear L4
  go_wp2_with fail
  refine (HFi.out _ _ _ K5.out).mono ?_; rintro e w5 ⟨rfl, L5⟩
  have K6 := Lib.hid L5
  clear L5
  go_wp2_with fail
  refine (HFn.out _).mono ?_; rintro e w6 ⟨rfl, rfl⟩
  go_wp2_with fail
  go_ret
  exact ⟨rfl, K6.out.low⟩

set_option maxHeartbeats 2000000 in
set_option maxRecDepth 100000 in
theorem ghosts_bad (kd : Int) (bk : Bool) (hk : kd < 1 ∨ 3 < kd) (w : World) :
    Calls Try.prog 3 #[.int .i64 kd, .bool bk] w fun e w' => e = .returned (.bool true) ∧ Below w.heap.size w w' := by
  have HA := Lib.hid (fun (w' : World) => awake_any w')
  have HM := Lib.hid (fun (w' : World) => memory_ok 16 (by omega) (by omega) w')
  have HN := Lib.hid (fun hb pb w' hB h h1 h2 => new_lay hb pb (List.replicate 16 Pg.zero) w w' hB h h1 h2)
  have HFo := Lib.hid (fun w' b hb (L : Lay (· < w.heap.size) w w' b hb ⟨List.replicate 16 Pg.zero, []⟩) => format_lay L 16 (by omega) (by omega))
  have HMa := Lib.hid (fun p w' => make_bad p kd w' hk)
  by_cases k1 : kd < 1
  · clear hk
    go_enter Try.func3, Try.ntmps3
    go_wp2_with fail
    refine (HA.out _).mono ?_; rintro e w0 ⟨rfl, hb0⟩
    have K0 := Lib.hid hb0
    have hz0 := hb0.size
    clear hb0
    go_wp2_with fail
    refine (HM.out _).mono ?_; rintro e w1 ⟨hb, pb, rfl, hb1, q1, q2, hs1⟩
    have K1 := Lib.hid (K0.out.trans (hb1.mono hz0))
    have K2 := Lib.hid hs1
    clear hb1 hs1
    go_wp2_with fail
    refine (HN.out hb pb _ K1.out K2.out (by omega) (by omega)).mono ?_; rintro e w2 ⟨b, rfl, L2⟩
    have K3 := Lib.hid L2
    clear L2
    go_wp2_with fail
    refine (HFo.out _ _ _ K3.out).mono ?_; rintro e w3 ⟨rfl, L3⟩
    have K4 := Lib.hid L3
    clear L3
    go_wp2_with fail
    refine (HMa.out _ _).mono ?_; rintro e w4 ⟨rfl, rfl⟩
    go_wp2_with fail
    go_ret
    exact ⟨rfl, K4.out.low⟩
  · have k3 : 3 < kd := by omega
    clear hk
    go_enter Try.func3, Try.ntmps3
    go_wp2_with fail
    refine (HA.out _).mono ?_; rintro e w0 ⟨rfl, hb0⟩
    have K0 := Lib.hid hb0
    have hz0 := hb0.size
    clear hb0
    go_wp2_with fail
    refine (HM.out _).mono ?_; rintro e w1 ⟨hb, pb, rfl, hb1, q1, q2, hs1⟩
    have K1 := Lib.hid (K0.out.trans (hb1.mono hz0))
    have K2 := Lib.hid hs1
    clear hb1 hs1
    go_wp2_with fail
    refine (HN.out hb pb _ K1.out K2.out (by omega) (by omega)).mono ?_; rintro e w2 ⟨b, rfl, L2⟩
    have K3 := Lib.hid L2
    clear L2
    go_wp2_with fail
    refine (HFo.out _ _ _ K3.out).mono ?_; rintro e w3 ⟨rfl, L3⟩
    have K4 := Lib.hid L3
    clear L3
    go_wp2_with fail
    refine (HMa.out _ _).mono ?_; rintro e w4 ⟨rfl, rfl⟩
    go_wp2_with fail
    go_ret
    exact ⟨rfl, K4.out.low⟩
/-- the volumes that SpaceGhosts meets, one behind the other -/
def G0 : Vol := Vol.formed ⟨List.replicate 16 Pg.zero, []⟩ 16
def Gd1 (kd : Int) : Pg := ({ k := 1 } : Pg).setC 0 1 (entryD kd 2)
def Gm1 : Pg := markPg (newMap 16) 2 true
def G1 (kd : Int) : Vol := G0.made { k := 1 } (newMap 16) 0 2 kd
def Gd2 (kd : Int) : Pg := (Gd1 kd).setA 0 2
def G2 (kd : Int) : Vol := (G1 kd).put 0 (Gd2 kd)
def Gd3 (kd : Int) : Pg := (Gd2 kd).setC 1 1 (entryD 1 3)
def Gm3 : Pg := markPg Gm1 3 true
def G3 (kd : Int) : Vol := (G2 kd).made (Gd2 kd) Gm1 1 3 1
def Gd4 (kd : Int) : Pg := (Gd3 kd).setA 0 1
def G4 (kd : Int) : Vol := (G3 kd).put 0 (Gd4 kd)
def Gd5 (kd : Int) : Pg := (Gd3 kd).setC 0 0 ByteArray.empty
def Gm5 (kd : Int) : Pg := Gm3.forgot (G3 kd) 16 0
def G5 (kd : Int) : Vol := (G3 kd).forgot (Gd3 kd) Gm3 16 0
def Gd6 (kd : Int) : Pg := (Gd5 kd).setC 0 1 (entryD 2 2)
def G6 (kd : Int) : Vol := (G5 kd).made (Gd5 kd) (Gm5 kd) 0 2 2
theorem G0_ok : VolOk G0 { k := 1 } (newMap 16) 16 := vol_new 16 16 (by omega) (by omega) (by omega)
theorem G1_ok (kd : Int) : VolOk (G1 kd) (Gd1 kd) Gm1 16 := G0_ok.make 0 2 kd (by omega) (by omega) (by omega)
theorem Gd1_a (kd : Int) : (Gd1 kd).a 0 = 1 := by rw [Gd1, a_setC _ _ _ (by omega) (by omega)]; rfl
theorem Gd1_d (kd : Int) : (Gd1 kd).d 0 = entryD kd 2 := by rw [Gd1, d_setC _ _ _ (by omega) (by omega)]; rfl
theorem pos5 (x y : Int) : 0 < (entryD x y).size := by rw [entry_size]; omega
theorem G2_ok (kd : Int) : VolOk (G2 kd) (Gd2 kd) Gm1 16 := ((G1_ok kd).setA 0 2 (by omega) (.inr rfl) (by rw [Gd1_d]; exact pos5 _ _)).2
theorem Gd2_a (kd : Int) (j : Nat) (hj : j < 6) : (Gd2 kd).a j = if j = 0 then 2 else 0 := by
  rw [Gd2, a_setA _ _ _ (by omega) hj, Gd1, a_setC _ _ _ (by omega) hj]
  split
  · rfl
  · exact free_dir j hj
theorem Gd2_d (kd : Int) : (Gd2 kd).d 0 = entryD kd 2 := by rw [Gd2, d_setA _ _ _ (by omega), Gd1_d]
theorem Gm1_bit (i : Nat) (hi : i < 16) : bitAt Gm1 i = decide (i < 3) := by
  rw [Gm1, bitAt_lt G0_ok _ _ _ hi (by omega), newMap_bit _ _ (by omega)]
  by_cases h : i = 2
  · subst h; rfl
  · rw [if_neg h]
    by_cases h2 : i < 2
    · have : i < 3 := by omega
      simp [h2, this]
    · have : ¬ i < 3 := by omega
      simp [h2, this]
theorem G3_ok (kd : Int) : VolOk (G3 kd) (Gd3 kd) Gm3 16 := (G2_ok kd).make 1 3 1 (by omega) (by omega) (by omega)
theorem Gd3_a (kd : Int) (j : Nat) (hj : j < 6) : (Gd3 kd).a j = if j = 1 then 1 else if j = 0 then 2 else 0 := by
  rw [Gd3, a_setC _ _ _ (by omega) hj, Gd2_a _ _ hj]
theorem Gd3_d (kd : Int) : (Gd3 kd).d 0 = entryD kd 2 := by rw [Gd3, d_setC _ _ _ (by omega) (by omega), if_neg (by omega), Gd2_d]
theorem Gm3_bit (i : Nat) (hi : i < 16) : bitAt Gm3 i = decide (i < 4) := by
  rw [Gm3, bitAt_lt (G1_ok 1) _ _ _ hi (by omega), Gm1_bit _ hi]
  by_cases h : i = 3
  · subst h; rfl
  · rw [if_neg h]
    by_cases h2 : i < 3
    · have : i < 4 := by omega
      simp [h2, this]
    · have : ¬ i < 4 := by omega
      simp [h2, this]
theorem G4_ok (kd : Int) : VolOk (G4 kd) (Gd4 kd) Gm3 16 := ((G3_ok kd).setA 0 1 (by omega) (.inl rfl) (by rw [Gd3_d]; exact pos5 _ _)).2
theorem Gd4_a (kd : Int) : (Gd4 kd).a 0 = 1 := by rw [Gd4, a_setA _ _ _ (by omega) (by omega)]; rfl
theorem Gd4_d (kd : Int) : (Gd4 kd).d 0 = entryD kd 2 := by rw [Gd4, d_setA _ _ _ (by omega), Gd3_d]
theorem G5_ok (kd : Int) : VolOk (G5 kd) (Gd5 kd) (Gm5 kd) 16 := ((G3_ok kd).forget 0 (by omega)).2
theorem Gd5_a (kd : Int) : (Gd5 kd).a 0 = 0 := by rw [Gd5, a_setC _ _ _ (by omega) (by omega)]; rfl
theorem G3_two (kd : Int) : (stPg (G3 kd) 2).s = 1 := by
  rw [G3, Vol.made, stPg_put, if_neg (by omega), stPg_put, if_neg (by omega), stPg_put, if_neg (by omega), G2, stPg_put, if_neg (by omega), G1, Vol.made, stPg_put, if_neg (by omega), stPg_put, if_pos (by omega)]
  rfl
theorem Gm5_two (kd : Int) : bitAt (Gm5 kd) 2 = false := by
  rw [Gm5, forgot_bit (G3_ok kd) 0 2 (by omega)]
  have e : ((2 : Nat) : Int) = 2 := rfl
  rw [e, G3_two]
  simp
theorem Gm5_low (kd : Int) (j : Nat) (hj : j < 2) : bitAt (Gm5 kd) j = true := by
  rw [Gm5, forgot_bit (G3_ok kd) 0 j (by omega), Gm3_bit _ (by omega)]
  have h1 : ¬ 2 ≤ j := by omega
  have h2 : j < 4 := by omega
  simp [h1, h2]
theorem G6_ok (kd : Int) : VolOk (G6 kd) (Gd6 kd) (markPg (Gm5 kd) 2 true) 16 := (G5_ok kd).make 0 2 2 (by omega) (by omega) (by omega)
theorem Gd6_a (kd : Int) : (Gd6 kd).a 0 = 1 := by rw [Gd6, a_setC _ _ _ (by omega) (by omega)]; rfl
theorem Gd6_d (kd : Int) : (Gd6 kd).d 0 = entryD 2 2 := by rw [Gd6, d_setC _ _ _ (by omega) (by omega)]; rfl

set_option maxHeartbeats 4000000 in
set_option maxRecDepth 100000 in
theorem ghosts_good (kd : Int) (bk : Bool) (hk : kd = 1 ∨ kd = 2 ∨ kd = 3) (w : World) :
    Calls Try.prog 3 #[.int .i64 kd, .bool bk] w fun e w' => e = .returned (.bool true) ∧ Below w.heap.size w w' := by
  have HA := Lib.hid (fun (w' : World) => awake_any w')
  have HM := Lib.hid (fun (w' : World) => memory_ok 16 (by omega) (by omega) w')
  have HN := Lib.hid (fun hb pb w' hB h h1 h2 => new_lay hb pb (List.replicate 16 Pg.zero) w w' hB h h1 h2)
  have HFo := Lib.hid (fun w' b hb (L : Lay (· < w.heap.size) w w' b hb ⟨List.replicate 16 Pg.zero, []⟩) => format_lay L 16 (by omega) (by omega))
  have HM1 := Lib.hid (fun w' b hb (L : Lay (· < w.heap.size) w w' b hb G0) => make_lay L G0_ok 0 (by omega) (free_dir 0 (by omega)) (by omega) 2 (by omega) (by rw [newMap_bit _ _ (by omega)]; rfl) (fun j hj => by rw [newMap_bit _ _ (by omega)]; simp [hj]) kd hk 1 rfl)
  have HF1 := Lib.hid (fun w' b hb (L : Lay (· < w.heap.size) w w' b hb (G1 kd)) => find_lay L (G1_ok kd) 0 (by omega) (by rw [Gd1_a]; omega) kd 2 (by omega) (by omega) (by omega) (by omega) (Gd1_d kd) 1 rfl 1 (Gd1_a kd))
  have HS2 := Lib.hid (fun w' b hb (L : Lay (· < w.heap.size) w w' b hb (G1 kd)) => state_lay L (G1_ok kd) 0 (by omega) (by rw [Gd1_a]; omega) (by rw [Gd1_d]; exact pos5 _ _) 1 rfl 2 (.inr rfl))
  have HM3 := Lib.hid (fun w' b hb (L : Lay (· < w.heap.size) w w' b hb (G2 kd)) => make_lay L (G2_ok kd) 1 (by omega) (by rw [Gd2_a _ _ (by omega)]; rfl) (fun j hj => by rw [Gd2_a _ _ (by omega), if_pos (by omega)]; omega) 3 (by omega) (by rw [Gm1_bit _ (by omega)]; rfl) (fun j hj => by rw [Gm1_bit _ (by omega)]; simp [hj]) 1 (.inl rfl) 2 rfl)
  have HS4 := Lib.hid (fun w' b hb (L : Lay (· < w.heap.size) w w' b hb (G3 kd)) => state_lay L (G3_ok kd) 0 (by omega) (by rw [Gd3_a _ _ (by omega)]; simp) (by rw [Gd3_d]; exact pos5 _ _) 1 rfl 1 (.inl rfl))
  have HF4 := Lib.hid (fun w' b hb (L : Lay (· < w.heap.size) w w' b hb (G4 kd)) => find_lay L (G4_ok kd) 0 (by omega) (by rw [Gd4_a]; omega) kd 2 (by omega) (by omega) (by omega) (by omega) (Gd4_d kd) 1 rfl 1 (Gd4_a kd))
  have HF5 := Lib.hid (fun w' b hb (L : Lay (· < w.heap.size) w w' b hb (G3 kd)) => forget_lay L (G3_ok kd) 0 (by omega) (by rw [Gd3_a _ _ (by omega)]; simp) 1 rfl)
  have HM6 := Lib.hid (fun w' b hb (L : Lay (· < w.heap.size) w w' b hb (G5 kd)) => make_lay L (G5_ok kd) 0 (by omega) (Gd5_a kd) (by omega) 2 (by omega) (Gm5_two kd) (Gm5_low kd) 2 (.inr (.inl rfl)) 1 rfl)
  have HF6 := Lib.hid (fun w' b hb (L : Lay (· < w.heap.size) w w' b hb (G6 kd)) => find_lay L (G6_ok kd) 0 (by omega) (by rw [Gd6_a]; omega) 2 2 (by omega) (by omega) (by omega) (by omega) (Gd6_d kd) 1 rfl 1 (Gd6_a kd))
  clear hk
  cases bk with
  | true =>
    go_enter Try.func3, Try.ntmps3
    go_wp2_with fail
    refine (HA.out _).mono ?_; rintro e w0 ⟨rfl, hb0⟩
    have K0 := Lib.hid hb0
    have hz0 := hb0.size
    clear hb0
    go_wp2_with fail
    refine (HM.out _).mono ?_; rintro e w1 ⟨hb, pb, rfl, hb1, q1, q2, hs1⟩
    have K1 := Lib.hid (K0.out.trans (hb1.mono hz0))
    have K2 := Lib.hid hs1
    clear hb1 hs1
    go_wp2_with fail
    refine (HN.out hb pb _ K1.out K2.out (by omega) (by omega)).mono ?_; rintro e w2 ⟨b, rfl, L2⟩
    have K3 := Lib.hid L2
    clear L2
    go_wp2_with fail
    refine (HFo.out _ _ _ K3.out).mono ?_; rintro e w3 ⟨rfl, L3⟩
    have K4 := Lib.hid L3
    clear L3
    go_wp2_with fail
    refine (HM1.out _ _ _ K4.out).mono ?_; rintro e w4 ⟨rfl, L4⟩
    have K5 := Lib.hid L4
    clear L4
    go_wp2_with fail
    refine (HF1.out _ _ _ K5.out).mono ?_; rintro e w5 ⟨rfl, L5⟩
    have K6 := Lib.hid L5
    clear L5
    go_wp2_with fail
    refine (HS2.out _ _ _ K6.out).mono ?_; rintro e w6 ⟨rfl, L6⟩
    have K7 := Lib.hid L6
    clear L6
    go_wp2_with fail
    refine (HM3.out _ _ _ K7.out).mono ?_; rintro e w7 ⟨rfl, L7⟩
    have K8 := Lib.hid L7
    clear L7
    go_wp2_with fail
    refine (HS4.out _ _ _ K8.out).mono ?_; rintro e w8 ⟨rfl, L8⟩
    have K9 := Lib.hid L8
    clear L8
    go_wp2_with fail
    refine (HF4.out _ _ _ K9.out).mono ?_; rintro e w9 ⟨rfl, L9⟩
    have K10 := Lib.hid L9
    clear L9
    go_wp2_with fail
    go_ret
    exact ⟨rfl, K10.out.low⟩
  | false =>
    go_enter Try.func3, Try.ntmps3
    go_wp2_with fail
    refine (HA.out _).mono ?_; rintro e w0 ⟨rfl, hb0⟩
    have K0 := Lib.hid hb0
    have hz0 := hb0.size
    clear hb0
    go_wp2_with fail
    refine (HM.out _).mono ?_; rintro e w1 ⟨hb, pb, rfl, hb1, q1, q2, hs1⟩
    have K1 := Lib.hid (K0.out.trans (hb1.mono hz0))
    have K2 := Lib.hid hs1
    clear hb1 hs1
    go_wp2_with fail
    refine (HN.out hb pb _ K1.out K2.out (by omega) (by omega)).mono ?_; rintro e w2 ⟨b, rfl, L2⟩
    have K3 := Lib.hid L2
    clear L2
    go_wp2_with fail
    refine (HFo.out _ _ _ K3.out).mono ?_; rintro e w3 ⟨rfl, L3⟩
    have K4 := Lib.hid L3
    clear L3
    go_wp2_with fail
    refine (HM1.out _ _ _ K4.out).mono ?_; rintro e w4 ⟨rfl, L4⟩
    have K5 := Lib.hid L4
    clear L4
    go_wp2_with fail
    refine (HF1.out _ _ _ K5.out).mono ?_; rintro e w5 ⟨rfl, L5⟩
    have K6 := Lib.hid L5
    clear L5
    go_wp2_with fail
    refine (HS2.out _ _ _ K6.out).mono ?_; rintro e w6 ⟨rfl, L6⟩
    have K7 := Lib.hid L6
    clear L6
    go_wp2_with fail
    refine (HM3.out _ _ _ K7.out).mono ?_; rintro e w7 ⟨rfl, L7⟩
    have K8 := Lib.hid L7
    clear L7
    go_wp2_with fail
    refine (HF5.out _ _ _ K8.out).mono ?_; rintro e w8 ⟨rfl, L8⟩
    have K9 := Lib.hid L8
    clear L8
    go_wp2_with fail
    refine (HM6.out _ _ _ K9.out).mono ?_; rintro e w9 ⟨rfl, L9⟩
    have K10 := Lib.hid L9
    clear L9
    go_wp2_with fail
    refine (HF6.out _ _ _ K10.out).mono ?_; rintro e w10 ⟨rfl, L10⟩
    have K11 := Lib.hid L10
    clear L10
    go_wp2_with fail
    go_ret
    exact ⟨rfl, K11.out.low⟩
theorem ghosts_walk (kd : Int) (bk : Bool) (w : World) :
    Calls Try.prog 3 #[.int .i64 kd, .bool bk] w fun e w' => e = .returned (.bool true) ∧ Below w.heap.size w w' := by
  by_cases h : kd = 1 ∨ kd = 2 ∨ kd = 3
  · exact ghosts_good kd bk h w
  · exact ghosts_bad kd bk (by omega) w
end Go.Proofs.Ytmbeicijljlejaa
