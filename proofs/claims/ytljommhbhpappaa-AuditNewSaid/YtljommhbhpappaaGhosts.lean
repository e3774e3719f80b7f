/-
  Layer 14 (space): awake, and the walk of SpaceGhosts.
-/
import Derived.Test.YtljommhbhpappaaPkSpaceB
namespace Go.Proofs.Ytljommhbhpappaa
open Go.RowKit Go.Joins
set_option linter.unusedVariables false
set_option linter.unusedSimpArgs false

/-- a new volume: its directory, its map -/
theorem vol_new (l n : Nat) (h4 : 4 ≤ n) (hn : n ≤ 1024) (hl : n ≤ l) : VolOk (Vol.formed ⟨List.replicate l Pg.zero, []⟩ n) { k := 1 } (newMap n) n := VolOk.new _ n [] h4 hn (by simpa using hl)
theorem free_dir (j : Nat) (hj : j < 6) : (({ k := 1 } : Pg).a j) = 0 := by
  have h6 : j = 0 ∨ j = 1 ∨ j = 2 ∨ j = 3 ∨ j = 4 ∨ j = 5 := by omega
  rcases h6 with rfl | rfl | rfl | rfl | rfl | rfl <;> rfl

/-- the volumes that SpaceGhosts meets, one behind the other -/
def G0 : Vol := Vol.formed ⟨List.replicate 16 Pg.zero, []⟩ 16
def Gd1 (kd : Int) : Pg := ({ k := 1 } : Pg).setC 0 1 (entryD kd 2)
def Gm1 : Pg := markPg (newMap 16) 2 true
def G1 (kd : Int) : Vol := G0.made { k := 1 } (newMap 16) 0 2 kd
def Gd2 (kd : Int) : Pg := (Gd1 kd).setA 0 2
def G2 (kd : Int) : Vol := (G1 kd).put 0 (Gd2 kd)
def Gd3 (kd : Int) : Pg := (Gd2 kd).setC 1 1 (entryD 1 3)
def Gm3 : Pg := markPg Gm1 3 true
def G3 (kd : Int) : Vol := (G2 kd).made (Gd2 kd) Gm1 1 3 1
def Gd4 (kd : Int) : Pg := (Gd3 kd).setA 0 1
def G4 (kd : Int) : Vol := (G3 kd).put 0 (Gd4 kd)
def Gd5 (kd : Int) : Pg := (Gd3 kd).setC 0 0 ByteArray.empty
def Gm5 (kd : Int) : Pg := Gm3.forgot (G3 kd) 16 0
def G5 (kd : Int) : Vol := (G3 kd).forgot (Gd3 kd) Gm3 16 0
def Gd6 (kd : Int) : Pg := (Gd5 kd).setC 0 1 (entryD 2 2)
def G6 (kd : Int) : Vol := (G5 kd).made (Gd5 kd) (Gm5 kd) 0 2 2
theorem G0_ok : VolOk G0 { k := 1 } (newMap 16) 16 := vol_new 16 16 (by omega) (by omega) (by omega)
theorem G1_ok (kd : Int) : VolOk (G1 kd) (Gd1 kd) Gm1 16 := G0_ok.make 0 2 kd (by omega) (by omega) (by omega)
theorem Gd1_a (kd : Int) : (Gd1 kd).a 0 = 1 := by rw [Gd1, a_setC _ _ _ (by omega) (by omega)]; rfl
theorem Gd1_d (kd : Int) : (Gd1 kd).d 0 = entryD kd 2 := by rw [Gd1, d_setC _ _ _ (by omega) (by omega)]; rfl
theorem pos5 (x y : Int) : 0 < (entryD x y).size := by rw [entry_size]; omega
theorem G2_ok (kd : Int) : VolOk (G2 kd) (Gd2 kd) Gm1 16 := ((G1_ok kd).setA 0 2 (by omega) (.inr rfl) (by rw [Gd1_d]; exact pos5 _ _)).2
theorem Gd2_a (kd : Int) (j : Nat) (hj : j < 6) : (Gd2 kd).a j = if j = 0 then 2 else 0 := by
  rw [Gd2, a_setA _ _ _ (by omega) hj, Gd1, a_setC _ _ _ (by omega) hj]
  split
  · rfl
  · exact free_dir j hj
theorem Gd2_d (kd : Int) : (Gd2 kd).d 0 = entryD kd 2 := by rw [Gd2, d_setA _ _ _ (by omega), Gd1_d]
theorem Gm1_bit (i : Nat) (hi : i < 16) : bitAt Gm1 i = decide (i < 3) := by
  rw [Gm1, bitAt_lt G0_ok _ _ _ hi (by omega), newMap_bit _ _ (by omega)]
  by_cases h : i = 2
  · subst h; rfl
  · rw [if_neg h]
    by_cases h2 : i < 2
    · have : i < 3 := by omega
      simp [h2, this]
    · have : ¬ i < 3 := by omega
      simp [h2, this]
theorem G3_ok (kd : Int) : VolOk (G3 kd) (Gd3 kd) Gm3 16 := (G2_ok kd).make 1 3 1 (by omega) (by omega) (by omega)
theorem Gd3_a (kd : Int) (j : Nat) (hj : j < 6) : (Gd3 kd).a j = if j = 1 then 1 else if j = 0 then 2 else 0 := by
  rw [Gd3, a_setC _ _ _ (by omega) hj, Gd2_a _ _ hj]
theorem Gd3_d (kd : Int) : (Gd3 kd).d 0 = entryD kd 2 := by rw [Gd3, d_setC _ _ _ (by omega) (by omega), if_neg (by omega), Gd2_d]
theorem Gm3_bit (i : Nat) (hi : i < 16) : bitAt Gm3 i = decide (i < 4) := by
  rw [Gm3, bitAt_lt (G1_ok 1) _ _ _ hi (by omega), Gm1_bit _ hi]
  by_cases h : i = 3
  · subst h; rfl
  · rw [if_neg h]
    by_cases h2 : i < 3
    · have : i < 4 := by omega
      simp [h2, this]
    · have : ¬ i < 4 := by omega
      simp [h2, this]
theorem G4_ok (kd : Int) : VolOk (G4 kd) (Gd4 kd) Gm3 16 := ((G3_ok kd).setA 0 1 (by omega) (.inl rfl) (by rw [Gd3_d]; exact pos5 _ _)).2
theorem Gd4_a (kd : Int) : (Gd4 kd).a 0 = 1 := by rw [Gd4, a_setA _ _ _ (by omega) (by omega)]; rfl
theorem Gd4_d (kd : Int) : (Gd4 kd).d 0 = entryD kd 2 := by rw [Gd4, d_setA _ _ _ (by omega), Gd3_d]
theorem G5_ok (kd : Int) : VolOk (G5 kd) (Gd5 kd) (Gm5 kd) 16 := ((G3_ok kd).forget 0 (by omega)).2
theorem Gd5_a (kd : Int) : (Gd5 kd).a 0 = 0 := by rw [Gd5, a_setC _ _ _ (by omega) (by omega)]; rfl
theorem G3_two (kd : Int) : (stPg (G3 kd) 2).s = 1 := by
  rw [G3, Vol.made, stPg_put, if_neg (by omega), stPg_put, if_neg (by omega), stPg_put, if_neg (by omega), G2, stPg_put, if_neg (by omega), G1, Vol.made, stPg_put, if_neg (by omega), stPg_put, if_pos (by omega)]
  rfl
theorem Gm5_two (kd : Int) : bitAt (Gm5 kd) 2 = false := by
  rw [Gm5, forgot_bit (G3_ok kd) 0 2 (by omega)]
  have e : ((2 : Nat) : Int) = 2 := rfl
  rw [e, G3_two]
  simp
theorem Gm5_low (kd : Int) (j : Nat) (hj : j < 2) : bitAt (Gm5 kd) j = true := by
  rw [Gm5, forgot_bit (G3_ok kd) 0 j (by omega), Gm3_bit _ (by omega)]
  have h1 : ¬ 2 ≤ j := by omega
  have h2 : j < 4 := by omega
  simp [h1, h2]
theorem G6_ok (kd : Int) : VolOk (G6 kd) (Gd6 kd) (markPg (Gm5 kd) 2 true) 16 := (G5_ok kd).make 0 2 2 (by omega) (by omega) (by omega)
theorem Gd6_a (kd : Int) : (Gd6 kd).a 0 = 1 := by rw [Gd6, a_setC _ _ _ (by omega) (by omega)]; rfl
theorem Gd6_d (kd : Int) : (Gd6 kd).d 0 = entryD 2 2 := by rw [Gd6, d_setC _ _ _ (by omega) (by omega)]; rfl

end Go.Proofs.Ytljommhbhpappaa
