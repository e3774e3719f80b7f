/-
  Layer 14 (space): the contract of Make.
-/
import Derived.Test.YtljommhbhpappaaSpace5
namespace Go.Proofs.Ytljommhbhpappaa
open Go.RowKit Go.Joins
set_option linter.unusedVariables false
set_option linter.unusedSimpArgs false

theorem rowAt_grown {w w' : World} {mb n : Nat} (h : w.grownBy w' (some mb)) (hn : n < w.heap.size) (hne : n ≠ mb) : rowAt w' n = rowAt w n := by
  unfold rowAt; rw [h.block n hn (by simpa using hne)]
theorem grown_below {w w2 W : World} {B : Nat} {r : Option Nat} (h : w.grownBy w2 r) (k : Below B w2 W) (hB : w.heap.size ≤ B) : w.grownBy W r :=
  ⟨k.os.trans h.os, k.tape.trans h.tape, k.output.trans h.output, Nat.le_trans h.size k.size, fun i hi hn => (k.block i (Nat.lt_of_lt_of_le hi hB)).trans (h.block i hi hn)⟩
theorem okC00 : okC 0 ByteArray.empty = true := by
  have e : ByteArray.empty.toList.isEmpty = true := by rw [ByteArray.toList_eq]; rfl
  simp [okC, e]
theorem ok_root (kd j : Int) (h1 : 0 ≤ kd) (h2 : kd ≤ 4) (h3 : 0 ≤ j) (h4 : j < 6) : okPg { k := kd, s := j + 1 } = true := by
  refine okPg_of ?_ fun i hi => ?_
  · simp [okH]; omega
  · have h6 : i = 0 ∨ i = 1 ∨ i = 2 ∨ i = 3 ∨ i = 4 ∨ i = 5 := by omega
    rcases h6 with rfl | rfl | rfl | rfl | rfl | rfl <;> exact okC00
def Pg.setC (p : Pg) (k : Nat) (a : Int) (x : ByteArray) : Pg := (p.setA k a).setD k x

set_option maxHeartbeats 4000000 in
set_option maxRecDepth 100000 in
theorem make_ok (S : Vol) (b mb hb pb : Nat) (d m : Pg) (n : Nat) (w : World) (hs : StageAt w b mb hb pb S) (hd : DirAt S d) (hm : MapAt S m n) (k : Nat) (hk : k < 6) (ha : d.a k = 0) (hbef : ∀ j, j < k → d.a j ≠ 0)
    (id : Nat) (hid : id < n) (hf : bitAt m id = false) (hbelow : ∀ j, j < id → bitAt m j = true) (kind : Int) (hkind : kind = 2 ∨ kind = 3) (hok : okPg (d.setC k 1 (entryD kind id)) = true) :
    Calls Try.prog 40 #[.pointer (some ⟨b, 0, none⟩), .int .i64 kind] w fun e w' => e = .returned (.tuple #[.int .i64 ((k : Int) + 1), .int .i64 0]) ∧ w.grownBy w' (some mb) ∧ StageAt w' b mb hb pb (((S.put 1 (markPg m id true)).put id { k := 4, s := (k : Int) + 1 }).put 0 (d.setC k 1 (entryD kind id))) := by
  obtain ⟨l1, l2, l3, l4⟩ := hs.lt
  have hn := hm.hi
  have HD := Lib.hid (fun w' h => dir_ok S b mb hb pb d w' h hd)
  have HS := Lib.hid hs
  have HT := Lib.hid (fun w' h => take_some S b mb hb pb m n w' h hm id hid hf hbelow)
  have k1 : 1 ≤ kind := by omega
  have k2 : kind ≤ 3 := by omega
  have k3 : (kind == 1) = false := by rcases hkind with rfl | rfl <;> rfl
  have HE := Lib.hid (fun w' => entry_any kind id w' (by omega) (by omega) (by omega) (by omega))
  have HBef := Lib.hid hbef
  have HA := Lib.hid ha
  clear hs hd hm hf hbelow ha hbef
  go_enter Try.func40, Try.ntmps40
  go_wp2_with fail
  refine (HD.out _ HS.out).mono ?_; rintro e w1 ⟨rfl, hb1⟩
  have hsz := hb1.size
  have HB1 := Lib.hid hb1
  clear hb1
  go_wp2_with fail
  go_loopw [30] (fun i wr => ∃ j : Nat, j ≤ k ∧ i = .int .i64 j ∧ Below (w1.heap.size + 1) (w1.alloc (.cells d.cs 112)) wr) (fun i _ => 6 - (intOf i).toNat)
  case atStart => exact ⟨0, by omega, rfl, (Below.refl _ _)⟩
  case round =>
    obtain ⟨j, hj, rfl, hb⟩ := hrel
    have hz := hb.size
    simp only [World.size_alloc] at hz
    have R1 : rowAt wr w1.heap.size = some d.cs := (rowAt_below hb (by omega)).trans (rowAt_at w1 d.cs _ _ rfl)
    have HB3 := Lib.hid hb
    clear hb
    by_cases hlt : j < k
    · have hidx := index6 d j (by omega)
      have h0 : (d.a j == 0) = false := by simp [HBef.out j hlt]
      generalize d.a j = a at *
      generalize d.d j = x at *
      go_wp2_with fail
      go_roundw
      case rel => exact ⟨j + 1, by omega, by go_num, HB3.out.alloc (by omega) _⟩
      case measure => simp [intOf]; omega
    · have hje : j = k := by omega
      subst hje
      have hidx := index6 d j (by omega)
      rw [HA.out] at hidx
      generalize d.d j = x at *
      go_wp2_with fail
      have B1 : Below w.heap.size w (wr.alloc (.cells #[.int .i64 0, .string x] 84)) := ((HB1.out.alloc (by omega) (.cells d.cs 112)).trans (HB3.out.mono (by omega))).alloc (by omega) _
      refine (HT.out _ (HS.out.below B1 ⟨l1, l2, l3, l4⟩)).mono ?_; rintro e w2 ⟨rfl, hg2, hs2⟩
      have hz2 := hg2.size
      simp only [World.size_alloc] at hz2
      have R2 : rowAt w2 w1.heap.size = some d.cs := by
        refine (rowAt_grown hg2 (by go_size) (by omega)).trans ?_
        rw [rowAt_past _ _ _ (by omega)]; exact R1
      have G2 := Lib.hid ((grown_of_below B1 (some mb)).trans hg2)
      have HS2 := Lib.hid hs2
      clear hg2 hs2 B1
      go_wp2_with fail
      refine (HE.out _).mono ?_; rintro e w3 ⟨rfl, hb3⟩
      have hz3 := hb3.size
      simp only [World.size_alloc] at hz3
      have R3 : rowAt w3 w1.heap.size = some d.cs := (rowAt_below hb3 (by go_size)).trans ((rowAt_past _ _ _ (by omega)).trans R2)
      have P3 : rowAt w3 w2.heap.size = some (Pg.cs { k := 4, s := (j : Int) + 1 }) := (rowAt_below hb3 (by go_size)).trans (rowAt_at _ _ _ _ rfl)
      have B3 := Lib.hid (((Below.refl w2.heap.size w2).alloc (Nat.le_refl _) (.cells (Pg.cs { k := 4, s := (j : Int) + 1 }) 112)).trans (hb3.mono (by go_size)))
      have cA := (cell_row R3 (4 + j * 2)).trans (cs_a d j hk)
      have cD := (cell_row R3 (4 + j * 2 + 1)).trans (cs_d d j hk)
      have fA := frozen_row R3 (4 + j * 2)
      have fD := frozen_row R3 (4 + j * 2 + 1)
      have BW : Below w1.heap.size w2 ((w3.setCell ⟨w1.heap.size, 4 + j * 2, none⟩ (.int .i64 1)).setCell ⟨w1.heap.size, 4 + j * 2 + 1, none⟩ (.string (entryD kind id))) := below_setCell (below_setCell (B3.out.mono (B' := w1.heap.size) (by omega)) ⟨w1.heap.size, 4 + j * 2, none⟩ (.int .i64 1) (Nat.le_refl _)) ⟨w1.heap.size, 4 + j * 2 + 1, none⟩ (.string (entryD kind id)) (Nat.le_refl _)
      have R4 := rowAt_setCell_here _ _ (4 + j * 2) (.int .i64 1) _ R3
      rw [cs_setA d j hk] at R4
      have R5 := rowAt_setCell_here _ _ (4 + j * 2 + 1) (.string (entryD kind id)) _ R4
      rw [cs_setD _ j hk] at R5
      have P5 := (rowAt_setCell_far (w3.setCell ⟨w1.heap.size, 4 + j * 2, none⟩ (.int .i64 1)) ⟨w1.heap.size, 4 + j * 2 + 1, none⟩ (.string (entryD kind id)) w2.heap.size (by simp; omega)).trans ((rowAt_setCell_far w3 ⟨w1.heap.size, 4 + j * 2, none⟩ (.int .i64 1) w2.heap.size (by simp; omega)).trans P3)
      have HBW := Lib.hid BW
      have hzW := BW.size
      clear hb3 BW R4
      go_wp2_with fail
      refine (set_any _ b mb hb pb id { k := 4, s := (j : Int) + 1 } _ (HS2.out.below HBW.out ⟨by omega, by omega, by omega, by omega⟩)).mono ?_; rintro e w6 ⟨rfl, hg6, hs6⟩
      have hz6 := hg6.size
      have R6 := (rowAt_grown hg6 (by simp only [World.size_setCell]; omega) (by omega)).trans R5
      have o6 : okSet (id : Int) { k := 4, s := (j : Int) + 1 } = true := okSet_one (ok_root 4 (j : Int) (by omega) (by omega) (by omega) (by omega)) id (by omega) (by omega)
      rw [o6] at hs6 ⊢
      have e0 : chkE true = 0 := rfl
      rw [e0]
      simp only [if_true] at hs6
      have HS6 := Lib.hid hs6
      have HG6 := Lib.hid hg6
      clear hs6 hg6 e0
      go_wp2_with fail
      refine (set_any _ b mb hb pb 0 ((d.setA j 1).setD j (entryD kind id)) _ HS6.out).mono ?_; rintro e w7 ⟨rfl, hg7, hs7⟩
      have o7 : okSet 0 ((d.setA j 1).setD j (entryD kind id)) = true := okSet_one hok 0 (by omega) (by omega)
      rw [o7] at hs7 ⊢
      have e0 : chkE true = 0 := rfl
      rw [e0]
      simp only [if_true] at hs7
      have HS7 := Lib.hid hs7
      clear hs7 e0
      go_wp2_with fail
      go_ret2
      exact ⟨rfl, ((grown_below (G2.out) HBW.out (by omega)).trans HG6.out).trans hg7, HS7.out⟩
set_option maxHeartbeats 4000000 in
set_option maxRecDepth 100000 in
theorem make_heap (S : Vol) (b mb hb pb : Nat) (d m : Pg) (n : Nat) (w : World) (hs : StageAt w b mb hb pb S) (hd : DirAt S d) (hm : MapAt S m n) (k : Nat) (hk : k < 6) (ha : d.a k = 0) (hbef : ∀ j, j < k → d.a j ≠ 0)
    (id : Nat) (hid : id < n) (hf : bitAt m id = false) (hbelow : ∀ j, j < id → bitAt m j = true) (hok : okPg (d.setC k 1 (entryD 1 id)) = true) :
    Calls Try.prog 40 #[.pointer (some ⟨b, 0, none⟩), .int .i64 1] w fun e w' => e = .returned (.tuple #[.int .i64 ((k : Int) + 1), .int .i64 0]) ∧ w.grownBy w' (some mb) ∧ StageAt w' b mb hb pb (((S.put 1 (markPg m id true)).put id { k := 3, s := (k : Int) + 1 }).put 0 (d.setC k 1 (entryD 1 id))) := by
  obtain ⟨l1, l2, l3, l4⟩ := hs.lt
  have hn := hm.hi
  have HD := Lib.hid (fun w' h => dir_ok S b mb hb pb d w' h hd)
  have HS := Lib.hid hs
  have HT := Lib.hid (fun w' h => take_some S b mb hb pb m n w' h hm id hid hf hbelow)
  have HE := Lib.hid (fun w' => entry_any 1 id w' (by omega) (by omega) (by omega) (by omega))
  have HBef := Lib.hid hbef
  have HA := Lib.hid ha
  clear hs hd hm hf hbelow ha hbef
  go_enter Try.func40, Try.ntmps40
  go_wp2_with fail
  refine (HD.out _ HS.out).mono ?_; rintro e w1 ⟨rfl, hb1⟩
  have hsz := hb1.size
  have HB1 := Lib.hid hb1
  clear hb1
  go_wp2_with fail
  go_loopw [30] (fun i wr => ∃ j : Nat, j ≤ k ∧ i = .int .i64 j ∧ Below (w1.heap.size + 1) (w1.alloc (.cells d.cs 112)) wr) (fun i _ => 6 - (intOf i).toNat)
  case atStart => exact ⟨0, by omega, rfl, (Below.refl _ _)⟩
  case round =>
    obtain ⟨j, hj, rfl, hb⟩ := hrel
    have hz := hb.size
    simp only [World.size_alloc] at hz
    have R1 : rowAt wr w1.heap.size = some d.cs := (rowAt_below hb (by omega)).trans (rowAt_at w1 d.cs _ _ rfl)
    have HB3 := Lib.hid hb
    clear hb
    by_cases hlt : j < k
    · have hidx := index6 d j (by omega)
      have h0 : (d.a j == 0) = false := by simp [HBef.out j hlt]
      generalize d.a j = a at *
      generalize d.d j = x at *
      go_wp2_with fail
      go_roundw
      case rel => exact ⟨j + 1, by omega, by go_num, HB3.out.alloc (by omega) _⟩
      case measure => simp [intOf]; omega
    · have hje : j = k := by omega
      subst hje
      have hidx := index6 d j (by omega)
      rw [HA.out] at hidx
      generalize d.d j = x at *
      go_wp2_with fail
      have B1 : Below w.heap.size w (wr.alloc (.cells #[.int .i64 0, .string x] 84)) := ((HB1.out.alloc (by omega) (.cells d.cs 112)).trans (HB3.out.mono (by omega))).alloc (by omega) _
      refine (HT.out _ (HS.out.below B1 ⟨l1, l2, l3, l4⟩)).mono ?_; rintro e w2 ⟨rfl, hg2, hs2⟩
      have hz2 := hg2.size
      simp only [World.size_alloc] at hz2
      have R2 : rowAt w2 w1.heap.size = some d.cs := by
        refine (rowAt_grown hg2 (by go_size) (by omega)).trans ?_
        rw [rowAt_past _ _ _ (by omega)]; exact R1
      have E4 : (Pg.cs { k := 4, s := (j : Int) + 1 }).setIfInBounds 0 (.int .i64 3) = Pg.cs { k := 3, s := (j : Int) + 1 } := rfl
      have G2 := Lib.hid ((grown_of_below B1 (some mb)).trans hg2)
      have HS2 := Lib.hid hs2
      clear hg2 hs2 B1
      go_wp2_with fail
      refine (HE.out _).mono ?_; rintro e w3 ⟨rfl, hb3⟩
      have hz3 := hb3.size
      simp only [World.size_alloc] at hz3
      have R3 : rowAt w3 w1.heap.size = some d.cs := (rowAt_below hb3 (by go_size)).trans ((rowAt_past _ _ _ (by omega)).trans R2)
      have P3 : rowAt w3 w2.heap.size = some (Pg.cs { k := 3, s := (j : Int) + 1 }) := (rowAt_below hb3 (by go_size)).trans (rowAt_at _ _ _ _ rfl)
      have B3 := Lib.hid (((Below.refl w2.heap.size w2).alloc (Nat.le_refl _) (.cells (Pg.cs { k := 3, s := (j : Int) + 1 }) 112)).trans (hb3.mono (by go_size)))
      have cA := (cell_row R3 (4 + j * 2)).trans (cs_a d j hk)
      have cD := (cell_row R3 (4 + j * 2 + 1)).trans (cs_d d j hk)
      have fA := frozen_row R3 (4 + j * 2)
      have fD := frozen_row R3 (4 + j * 2 + 1)
      have BW : Below w1.heap.size w2 ((w3.setCell ⟨w1.heap.size, 4 + j * 2, none⟩ (.int .i64 1)).setCell ⟨w1.heap.size, 4 + j * 2 + 1, none⟩ (.string (entryD 1 id))) := below_setCell (below_setCell (B3.out.mono (B' := w1.heap.size) (by omega)) ⟨w1.heap.size, 4 + j * 2, none⟩ (.int .i64 1) (Nat.le_refl _)) ⟨w1.heap.size, 4 + j * 2 + 1, none⟩ (.string (entryD 1 id)) (Nat.le_refl _)
      have R4 := rowAt_setCell_here _ _ (4 + j * 2) (.int .i64 1) _ R3
      rw [cs_setA d j hk] at R4
      have R5 := rowAt_setCell_here _ _ (4 + j * 2 + 1) (.string (entryD 1 id)) _ R4
      rw [cs_setD _ j hk] at R5
      have P5 := (rowAt_setCell_far (w3.setCell ⟨w1.heap.size, 4 + j * 2, none⟩ (.int .i64 1)) ⟨w1.heap.size, 4 + j * 2 + 1, none⟩ (.string (entryD 1 id)) w2.heap.size (by simp; omega)).trans ((rowAt_setCell_far w3 ⟨w1.heap.size, 4 + j * 2, none⟩ (.int .i64 1) w2.heap.size (by simp; omega)).trans P3)
      have HBW := Lib.hid BW
      have hzW := BW.size
      clear hb3 BW R4
      go_wp2_with fail
      refine (set_any _ b mb hb pb id { k := 3, s := (j : Int) + 1 } _ (HS2.out.below HBW.out ⟨by omega, by omega, by omega, by omega⟩)).mono ?_; rintro e w6 ⟨rfl, hg6, hs6⟩
      have hz6 := hg6.size
      have R6 := (rowAt_grown hg6 (by simp only [World.size_setCell]; omega) (by omega)).trans R5
      have o6 : okSet (id : Int) { k := 3, s := (j : Int) + 1 } = true := okSet_one (ok_root 3 (j : Int) (by omega) (by omega) (by omega) (by omega)) id (by omega) (by omega)
      rw [o6] at hs6 ⊢
      have e0 : chkE true = 0 := rfl
      rw [e0]
      simp only [if_true] at hs6
      have HS6 := Lib.hid hs6
      have HG6 := Lib.hid hg6
      clear hs6 hg6 e0
      go_wp2_with fail
      refine (set_any _ b mb hb pb 0 ((d.setA j 1).setD j (entryD 1 id)) _ HS6.out).mono ?_; rintro e w7 ⟨rfl, hg7, hs7⟩
      have o7 : okSet 0 ((d.setA j 1).setD j (entryD 1 id)) = true := okSet_one hok 0 (by omega) (by omega)
      rw [o7] at hs7 ⊢
      have e0 : chkE true = 0 := rfl
      rw [e0]
      simp only [if_true] at hs7
      have HS7 := Lib.hid hs7
      clear hs7 e0
      go_wp2_with fail
      go_ret2
      exact ⟨rfl, ((grown_below (G2.out) HBW.out (by omega)).trans HG6.out).trans hg7, HS7.out⟩
end Go.Proofs.Ytljommhbhpappaa
