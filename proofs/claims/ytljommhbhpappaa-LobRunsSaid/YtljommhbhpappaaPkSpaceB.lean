/-
  Several texts in one: Space6, Space7, Space8, Space9, Space10, Space11, Space12, Space13.
-/
import Derived.Test.YtljommhbhpappaaPkSpaceA
import Derived.OwnWalk
import Derived.Deep.AppendLies
namespace Go.Proofs.Ytljommhbhpappaa
/-!
  Layer 14 (space): the contract of Make.
-/
section
open Go.RowKit Go.Joins
set_option linter.unusedVariables false
set_option linter.unusedSimpArgs false

theorem rowAt_grown {w w' : World} {mb n : Nat} (h : w.grownBy w' (some mb)) (hn : n < w.heap.size) (hne : n ≠ mb) : rowAt w' n = rowAt w n := by
  unfold rowAt; rw [h.block n hn (by simpa using hne)]
theorem grown_below {w w2 W : World} {B : Nat} {r : Option Nat} (h : w.grownBy w2 r) (k : Below B w2 W) (hB : w.heap.size ≤ B) : w.grownBy W r :=
  ⟨k.os.trans h.os, k.tape.trans h.tape, k.output.trans h.output, Nat.le_trans h.size k.size, fun i hi hn => (k.block i (Nat.lt_of_lt_of_le hi hB)).trans (h.block i hi hn)⟩
theorem okC00 : okC 0 ByteArray.empty = true := by
  have e : ByteArray.empty.toList.isEmpty = true := by rw [ByteArray.toList_eq]; rfl
  simp [okC, e]
theorem ok_root (kd j : Int) (h1 : 0 ≤ kd) (h2 : kd ≤ 4) (h3 : 0 ≤ j) (h4 : j < 6) : okPg { k := kd, s := j + 1 } = true := by
  refine okPg_of ?_ fun i hi => ?_
  · simp [okH]; omega
  · have h6 : i = 0 ∨ i = 1 ∨ i = 2 ∨ i = 3 ∨ i = 4 ∨ i = 5 := by omega
    rcases h6 with rfl | rfl | rfl | rfl | rfl | rfl <;> exact okC00
def Pg.setC (p : Pg) (k : Nat) (a : Int) (x : ByteArray) : Pg := (p.setA k a).setD k x

set_option maxHeartbeats 4000000 in
set_option maxRecDepth 100000 in
theorem make_ok (S : Vol) (b mb hb pb : Nat) (d m : Pg) (n : Nat) (w : World) (hs : StageAt w b mb hb pb S) (hd : DirAt S d) (hm : MapAt S m n) (k : Nat) (hk : k < 6) (ha : d.a k = 0) (hbef : ∀ j, j < k → d.a j ≠ 0)
    (id : Nat) (hid : id < n) (hf : bitAt m id = false) (hbelow : ∀ j, j < id → bitAt m j = true) (kind : Int) (hkind : kind = 2 ∨ kind = 3) (hok : okPg (d.setC k 1 (entryD kind id)) = true) :
    Calls Try.prog 40 #[.pointer (some ⟨b, 0, none⟩), .int .i64 kind] w fun e w' => e = .returned (.tuple #[.int .i64 ((k : Int) + 1), .int .i64 0]) ∧ w.grownBy w' (some mb) ∧ StageAt w' b mb hb pb (((S.put 1 (markPg m id true)).put id { k := 4, s := (k : Int) + 1 }).put 0 (d.setC k 1 (entryD kind id))) := by
  obtain ⟨l1, l2, l3, l4⟩ := hs.lt
  have hn := hm.hi
  have HD := Lib.hid (fun w' h => dir_ok S b mb hb pb d w' h hd)
  have HS := Lib.hid hs
  have HT := Lib.hid (fun w' h => take_some S b mb hb pb m n w' h hm id hid hf hbelow)
  have k1 : 1 ≤ kind := by omega
  have k2 : kind ≤ 3 := by omega
  have k3 : (kind == 1) = false := by rcases hkind with rfl | rfl <;> rfl
  have HE := Lib.hid (fun w' => entry_any kind id w' (by omega) (by omega) (by omega) (by omega))
  have HBef := Lib.hid hbef
  have HA := Lib.hid ha
  clear hs hd hm hf hbelow ha hbef
  go_enter Try.func40, Try.ntmps40
  go_wp2_with fail
  refine (HD.out _ HS.out).mono ?_; rintro e w1 ⟨rfl, hb1⟩
  have hsz := hb1.size
  have HB1 := Lib.hid hb1
  clear hb1
  go_wp2_with fail
  go_loopw [30] (fun i wr => ∃ j : Nat, j ≤ k ∧ i = .int .i64 j ∧ Below (w1.heap.size + 1) (w1.alloc (.cells d.cs 112)) wr) (fun i _ => 6 - (intOf i).toNat)
  case atStart => exact ⟨0, by omega, rfl, (Below.refl _ _)⟩
  case round =>
    obtain ⟨j, hj, rfl, hb⟩ := hrel
    have hz := hb.size
    simp only [World.size_alloc] at hz
    have R1 : rowAt wr w1.heap.size = some d.cs := (rowAt_below hb (by omega)).trans (rowAt_at w1 d.cs _ _ rfl)
    have HB3 := Lib.hid hb
    clear hb
    by_cases hlt : j < k
    · have hidx := index6 d j (by omega)
      have h0 : (d.a j == 0) = false := by simp [HBef.out j hlt]
      generalize d.a j = a at *
      generalize d.d j = x at *
      go_wp2_with fail
      go_roundw
      case rel => exact ⟨j + 1, by omega, by go_num, HB3.out.alloc (by omega) _⟩
      case measure => simp [intOf]; omega
    · have hje : j = k := by omega
      subst hje
      have hidx := index6 d j (by omega)
      rw [HA.out] at hidx
      generalize d.d j = x at *
      go_wp2_with fail
      have B1 : Below w.heap.size w (wr.alloc (.cells #[.int .i64 0, .string x] 84)) := ((HB1.out.alloc (by omega) (.cells d.cs 112)).trans (HB3.out.mono (by omega))).alloc (by omega) _
      refine (HT.out _ (HS.out.below B1 ⟨l1, l2, l3, l4⟩)).mono ?_; rintro e w2 ⟨rfl, hg2, hs2⟩
      have hz2 := hg2.size
      simp only [World.size_alloc] at hz2
      have R2 : rowAt w2 w1.heap.size = some d.cs := by
        refine (rowAt_grown hg2 (by go_size) (by omega)).trans ?_
        rw [rowAt_past _ _ _ (by omega)]; exact R1
      have G2 := Lib.hid ((grown_of_below B1 (some mb)).trans hg2)
      have HS2 := Lib.hid hs2
      clear hg2 hs2 B1
      go_wp2_with fail
      refine (HE.out _).mono ?_; rintro e w3 ⟨rfl, hb3⟩
      have hz3 := hb3.size
      simp only [World.size_alloc] at hz3
      have R3 : rowAt w3 w1.heap.size = some d.cs := (rowAt_below hb3 (by go_size)).trans ((rowAt_past _ _ _ (by omega)).trans R2)
      have P3 : rowAt w3 w2.heap.size = some (Pg.cs { k := 4, s := (j : Int) + 1 }) := (rowAt_below hb3 (by go_size)).trans (rowAt_at _ _ _ _ rfl)
      have B3 := Lib.hid (((Below.refl w2.heap.size w2).alloc (Nat.le_refl _) (.cells (Pg.cs { k := 4, s := (j : Int) + 1 }) 112)).trans (hb3.mono (by go_size)))
      have cA := (cell_row R3 (4 + j * 2)).trans (cs_a d j hk)
      have cD := (cell_row R3 (4 + j * 2 + 1)).trans (cs_d d j hk)
      have fA := frozen_row R3 (4 + j * 2)
      have fD := frozen_row R3 (4 + j * 2 + 1)
      have BW : Below w1.heap.size w2 ((w3.setCell ⟨w1.heap.size, 4 + j * 2, none⟩ (.int .i64 1)).setCell ⟨w1.heap.size, 4 + j * 2 + 1, none⟩ (.string (entryD kind id))) := below_setCell (below_setCell (B3.out.mono (B' := w1.heap.size) (by omega)) ⟨w1.heap.size, 4 + j * 2, none⟩ (.int .i64 1) (Nat.le_refl _)) ⟨w1.heap.size, 4 + j * 2 + 1, none⟩ (.string (entryD kind id)) (Nat.le_refl _)
      have R4 := rowAt_setCell_here _ _ (4 + j * 2) (.int .i64 1) _ R3
      rw [cs_setA d j hk] at R4
      have R5 := rowAt_setCell_here _ _ (4 + j * 2 + 1) (.string (entryD kind id)) _ R4
      rw [cs_setD _ j hk] at R5
      have P5 := (rowAt_setCell_far (w3.setCell ⟨w1.heap.size, 4 + j * 2, none⟩ (.int .i64 1)) ⟨w1.heap.size, 4 + j * 2 + 1, none⟩ (.string (entryD kind id)) w2.heap.size (by simp; omega)).trans ((rowAt_setCell_far w3 ⟨w1.heap.size, 4 + j * 2, none⟩ (.int .i64 1) w2.heap.size (by simp; omega)).trans P3)
      have HBW := Lib.hid BW
      have hzW := BW.size
      clear hb3 BW R4
      go_wp2_with fail
      refine (set_any _ b mb hb pb id { k := 4, s := (j : Int) + 1 } _ (HS2.out.below HBW.out ⟨by omega, by omega, by omega, by omega⟩)).mono ?_; rintro e w6 ⟨rfl, hg6, hs6⟩
      have hz6 := hg6.size
      have R6 := (rowAt_grown hg6 (by simp only [World.size_setCell]; omega) (by omega)).trans R5
      have o6 : okSet (id : Int) { k := 4, s := (j : Int) + 1 } = true := okSet_one (ok_root 4 (j : Int) (by omega) (by omega) (by omega) (by omega)) id (by omega) (by omega)
      rw [o6] at hs6 ⊢
      have e0 : chkE true = 0 := rfl
      rw [e0]
      simp only [if_true] at hs6
      have HS6 := Lib.hid hs6
      have HG6 := Lib.hid hg6
      clear hs6 hg6 e0
      go_wp2_with fail
      refine (set_any _ b mb hb pb 0 ((d.setA j 1).setD j (entryD kind id)) _ HS6.out).mono ?_; rintro e w7 ⟨rfl, hg7, hs7⟩
      have o7 : okSet 0 ((d.setA j 1).setD j (entryD kind id)) = true := okSet_one hok 0 (by omega) (by omega)
      rw [o7] at hs7 ⊢
      have e0 : chkE true = 0 := rfl
      rw [e0]
      simp only [if_true] at hs7
      have HS7 := Lib.hid hs7
      clear hs7 e0
      go_wp2_with fail
      go_ret2
      exact ⟨rfl, ((grown_below (G2.out) HBW.out (by omega)).trans HG6.out).trans hg7, HS7.out⟩
set_option maxHeartbeats 4000000 in
set_option maxRecDepth 100000 in
theorem make_heap (S : Vol) (b mb hb pb : Nat) (d m : Pg) (n : Nat) (w : World) (hs : StageAt w b mb hb pb S) (hd : DirAt S d) (hm : MapAt S m n) (k : Nat) (hk : k < 6) (ha : d.a k = 0) (hbef : ∀ j, j < k → d.a j ≠ 0)
    (id : Nat) (hid : id < n) (hf : bitAt m id = false) (hbelow : ∀ j, j < id → bitAt m j = true) (hok : okPg (d.setC k 1 (entryD 1 id)) = true) :
    Calls Try.prog 40 #[.pointer (some ⟨b, 0, none⟩), .int .i64 1] w fun e w' => e = .returned (.tuple #[.int .i64 ((k : Int) + 1), .int .i64 0]) ∧ w.grownBy w' (some mb) ∧ StageAt w' b mb hb pb (((S.put 1 (markPg m id true)).put id { k := 3, s := (k : Int) + 1 }).put 0 (d.setC k 1 (entryD 1 id))) := by
  obtain ⟨l1, l2, l3, l4⟩ := hs.lt
  have hn := hm.hi
  have HD := Lib.hid (fun w' h => dir_ok S b mb hb pb d w' h hd)
  have HS := Lib.hid hs
  have HT := Lib.hid (fun w' h => take_some S b mb hb pb m n w' h hm id hid hf hbelow)
  have HE := Lib.hid (fun w' => entry_any 1 id w' (by omega) (by omega) (by omega) (by omega))
  have HBef := Lib.hid hbef
  have HA := Lib.hid ha
  clear hs hd hm hf hbelow ha hbef
  go_enter Try.func40, Try.ntmps40
  go_wp2_with fail
  refine (HD.out _ HS.out).mono ?_; rintro e w1 ⟨rfl, hb1⟩
  have hsz := hb1.size
  have HB1 := Lib.hid hb1
  clear hb1
  go_wp2_with fail
  go_loopw [30] (fun i wr => ∃ j : Nat, j ≤ k ∧ i = .int .i64 j ∧ Below (w1.heap.size + 1) (w1.alloc (.cells d.cs 112)) wr) (fun i _ => 6 - (intOf i).toNat)
  case atStart => exact ⟨0, by omega, rfl, (Below.refl _ _)⟩
  case round =>
    obtain ⟨j, hj, rfl, hb⟩ := hrel
    have hz := hb.size
    simp only [World.size_alloc] at hz
    have R1 : rowAt wr w1.heap.size = some d.cs := (rowAt_below hb (by omega)).trans (rowAt_at w1 d.cs _ _ rfl)
    have HB3 := Lib.hid hb
    clear hb
    by_cases hlt : j < k
    · have hidx := index6 d j (by omega)
      have h0 : (d.a j == 0) = false := by simp [HBef.out j hlt]
      generalize d.a j = a at *
      generalize d.d j = x at *
      go_wp2_with fail
      go_roundw
      case rel => exact ⟨j + 1, by omega, by go_num, HB3.out.alloc (by omega) _⟩
      case measure => simp [intOf]; omega
    · have hje : j = k := by omega
      subst hje
      have hidx := index6 d j (by omega)
      rw [HA.out] at hidx
      generalize d.d j = x at *
      go_wp2_with fail
      have B1 : Below w.heap.size w (wr.alloc (.cells #[.int .i64 0, .string x] 84)) := ((HB1.out.alloc (by omega) (.cells d.cs 112)).trans (HB3.out.mono (by omega))).alloc (by omega) _
      refine (HT.out _ (HS.out.below B1 ⟨l1, l2, l3, l4⟩)).mono ?_; rintro e w2 ⟨rfl, hg2, hs2⟩
      have hz2 := hg2.size
      simp only [World.size_alloc] at hz2
      have R2 : rowAt w2 w1.heap.size = some d.cs := by
        refine (rowAt_grown hg2 (by go_size) (by omega)).trans ?_
        rw [rowAt_past _ _ _ (by omega)]; exact R1
      have E4 : (Pg.cs { k := 4, s := (j : Int) + 1 }).setIfInBounds 0 (.int .i64 3) = Pg.cs { k := 3, s := (j : Int) + 1 } := rfl
      have G2 := Lib.hid ((grown_of_below B1 (some mb)).trans hg2)
      have HS2 := Lib.hid hs2
      clear hg2 hs2 B1
      go_wp2_with fail
      refine (HE.out _).mono ?_; rintro e w3 ⟨rfl, hb3⟩
      have hz3 := hb3.size
      simp only [World.size_alloc] at hz3
      have R3 : rowAt w3 w1.heap.size = some d.cs := (rowAt_below hb3 (by go_size)).trans ((rowAt_past _ _ _ (by omega)).trans R2)
      have P3 : rowAt w3 w2.heap.size = some (Pg.cs { k := 3, s := (j : Int) + 1 }) := (rowAt_below hb3 (by go_size)).trans (rowAt_at _ _ _ _ rfl)
      have B3 := Lib.hid (((Below.refl w2.heap.size w2).alloc (Nat.le_refl _) (.cells (Pg.cs { k := 3, s := (j : Int) + 1 }) 112)).trans (hb3.mono (by go_size)))
      have cA := (cell_row R3 (4 + j * 2)).trans (cs_a d j hk)
      have cD := (cell_row R3 (4 + j * 2 + 1)).trans (cs_d d j hk)
      have fA := frozen_row R3 (4 + j * 2)
      have fD := frozen_row R3 (4 + j * 2 + 1)
      have BW : Below w1.heap.size w2 ((w3.setCell ⟨w1.heap.size, 4 + j * 2, none⟩ (.int .i64 1)).setCell ⟨w1.heap.size, 4 + j * 2 + 1, none⟩ (.string (entryD 1 id))) := below_setCell (below_setCell (B3.out.mono (B' := w1.heap.size) (by omega)) ⟨w1.heap.size, 4 + j * 2, none⟩ (.int .i64 1) (Nat.le_refl _)) ⟨w1.heap.size, 4 + j * 2 + 1, none⟩ (.string (entryD 1 id)) (Nat.le_refl _)
      have R4 := rowAt_setCell_here _ _ (4 + j * 2) (.int .i64 1) _ R3
      rw [cs_setA d j hk] at R4
      have R5 := rowAt_setCell_here _ _ (4 + j * 2 + 1) (.string (entryD 1 id)) _ R4
      rw [cs_setD _ j hk] at R5
      have P5 := (rowAt_setCell_far (w3.setCell ⟨w1.heap.size, 4 + j * 2, none⟩ (.int .i64 1)) ⟨w1.heap.size, 4 + j * 2 + 1, none⟩ (.string (entryD 1 id)) w2.heap.size (by simp; omega)).trans ((rowAt_setCell_far w3 ⟨w1.heap.size, 4 + j * 2, none⟩ (.int .i64 1) w2.heap.size (by simp; omega)).trans P3)
      have HBW := Lib.hid BW
      have hzW := BW.size
      clear hb3 BW R4
      go_wp2_with fail
      refine (set_any _ b mb hb pb id { k := 3, s := (j : Int) + 1 } _ (HS2.out.below HBW.out ⟨by omega, by omega, by omega, by omega⟩)).mono ?_; rintro e w6 ⟨rfl, hg6, hs6⟩
      have hz6 := hg6.size
      have R6 := (rowAt_grown hg6 (by simp only [World.size_setCell]; omega) (by omega)).trans R5
      have o6 : okSet (id : Int) { k := 3, s := (j : Int) + 1 } = true := okSet_one (ok_root 3 (j : Int) (by omega) (by omega) (by omega) (by omega)) id (by omega) (by omega)
      rw [o6] at hs6 ⊢
      have e0 : chkE true = 0 := rfl
      rw [e0]
      simp only [if_true] at hs6
      have HS6 := Lib.hid hs6
      have HG6 := Lib.hid hg6
      clear hs6 hg6 e0
      go_wp2_with fail
      refine (set_any _ b mb hb pb 0 ((d.setA j 1).setD j (entryD 1 id)) _ HS6.out).mono ?_; rintro e w7 ⟨rfl, hg7, hs7⟩
      have o7 : okSet 0 ((d.setA j 1).setD j (entryD 1 id)) = true := okSet_one hok 0 (by omega) (by omega)
      rw [o7] at hs7 ⊢
      have e0 : chkE true = 0 := rfl
      rw [e0]
      simp only [if_true] at hs7
      have HS7 := Lib.hid hs7
      clear hs7 e0
      go_wp2_with fail
      go_ret2
      exact ⟨rfl, ((grown_below (G2.out) HBW.out (by omega)).trans HG6.out).trans hg7, HS7.out⟩
end

/-!
  Layer 14 (space): the contract of Format.
-/
section
open Go.RowKit Go.Joins
set_option linter.unusedVariables false
set_option linter.unusedSimpArgs false

/-- thirty-four bytes, all nought -/
def z34 : ByteArray := ⟨Array.replicate 34 0⟩
/-- the map before anything is taken -/
def mapZ (n : Int) (z : ByteArray) : Pg := { k := 2, n := n, a0 := 1, d0 := z, a1 := 1, d1 := z, a2 := 1, d2 := z, a3 := 1, d3 := z, a4 := 1, d4 := z, a5 := 1, d5 := z }
def mapPg (n : Int) : Pg := mapZ n z34
theorem mapPg_sz (n : Int) (i : Nat) (h : i < 6) : ((mapPg n).d i).size = 34 := by
  have h6 : i = 0 ∨ i = 1 ∨ i = 2 ∨ i = 3 ∨ i = 4 ∨ i = 5 := by omega
  rcases h6 with rfl | rfl | rfl | rfl | rfl | rfl <;> rfl
theorem mapPg_ok (n : Int) (h0 : 0 ≤ n) (h1 : n < 1024) : okPg (mapPg n) = true := by
  refine okPg_of ?_ fun i hi => ?_
  · simp only [okH, Bool.and_eq_true, decide_eq_true_eq]
    exact ⟨⟨⟨⟨⟨⟨⟨by show (0 : Int) ≤ 2; omega, by show (2 : Int) ≤ 4; omega⟩, by show (0 : Int) ≤ 0; omega⟩, by show (0 : Int) ≤ 255; omega⟩, by show (0 : Int) ≤ 0; omega⟩, by show (0 : Int) ≤ 65535; omega⟩, h0⟩, h1⟩
  · have e := mapPg_sz n i hi
    have ea : (mapPg n).a i = 1 := by
      have h6 : i = 0 ∨ i = 1 ∨ i = 2 ∨ i = 3 ∨ i = 4 ∨ i = 5 := by omega
      rcases h6 with rfl | rfl | rfl | rfl | rfl | rfl <;> rfl
    simp [okC, ea, e]
theorem okDir : okPg { k := 1 } = true := okPg_of rfl (fun i hi => by
  have h6 : i = 0 ∨ i = 1 ∨ i = 2 ∨ i = 3 ∨ i = 4 ∨ i = 5 := by omega
  rcases h6 with rfl | rfl | rfl | rfl | rfl | rfl <;> exact okC00)

theorem z34_back (w : World) (n : Nat) (hn : n = w.heap.size) : (convert 106 9 (.slice (some ⟨n, 0, none⟩) 34 34)).run Try.prog (w.alloc (.cells (Array.replicate 34 (.int .u8 0)) 5)) = .ok (.string z34) (w.alloc (.cells (Array.replicate 34 (.int .u8 0)) 5)) := by
  subst hn
  refine back_of ?_ rfl 34
  intro i hi
  have h34 : i < 34 := hi
  rw [World.cell?_alloc_mark, Nat.zero_add]
  have e : z34[i]'hi = 0 := Array.getElem_replicate ..
  rw [e]
  simp [h34]
theorem mk34 (w : World) : (Instr.makeSlice 106 (.int .i64 34) (.int .i64 34)).run Try.prog w = .ok (.slice (some ⟨w.heap.size, 0, none⟩) 34 34) (w.alloc (.cells (Array.replicate 34 (.int .u8 0)) 5)) := by kernel_rfl

theorem fA0 (p : Pg) (x : Int) : p.cs.setIfInBounds 4 (.int .i64 x) = (p.setA 0 x).cs := rfl
theorem fD0 (p : Pg) (x : ByteArray) : p.cs.setIfInBounds 5 (.string x) = (p.setD 0 x).cs := rfl
theorem fA1 (p : Pg) (x : Int) : p.cs.setIfInBounds 6 (.int .i64 x) = (p.setA 1 x).cs := rfl
theorem fD1 (p : Pg) (x : ByteArray) : p.cs.setIfInBounds 7 (.string x) = (p.setD 1 x).cs := rfl
theorem fA2 (p : Pg) (x : Int) : p.cs.setIfInBounds 8 (.int .i64 x) = (p.setA 2 x).cs := rfl
theorem fD2 (p : Pg) (x : ByteArray) : p.cs.setIfInBounds 9 (.string x) = (p.setD 2 x).cs := rfl
theorem fA3 (p : Pg) (x : Int) : p.cs.setIfInBounds 10 (.int .i64 x) = (p.setA 3 x).cs := rfl
theorem fD3 (p : Pg) (x : ByteArray) : p.cs.setIfInBounds 11 (.string x) = (p.setD 3 x).cs := rfl
theorem fA4 (p : Pg) (x : Int) : p.cs.setIfInBounds 12 (.int .i64 x) = (p.setA 4 x).cs := rfl
theorem fD4 (p : Pg) (x : ByteArray) : p.cs.setIfInBounds 13 (.string x) = (p.setD 4 x).cs := rfl
theorem fA5 (p : Pg) (x : Int) : p.cs.setIfInBounds 14 (.int .i64 x) = (p.setA 5 x).cs := rfl
theorem fD5 (p : Pg) (x : ByteArray) : p.cs.setIfInBounds 15 (.string x) = (p.setD 5 x).cs := rfl

set_option maxHeartbeats 4000000 in
set_option maxRecDepth 100000 in
theorem format_ok (S : Vol) (b mb hb pb : Nat) (w : World) (hs : StageAt w b mb hb pb S) (n : Nat) (h4 : 4 ≤ n) (hn : n ≤ 1024) :
    Calls Try.prog 38 #[.pointer (some ⟨b, 0, none⟩), .int .i64 n] w fun e w' => e = .returned (.int .i64 0) ∧ w.grownBy w' (some mb) ∧ StageAt w' b mb hb pb ((S.put 0 { k := 1 }).put 1 (markPg (markPg (mapPg ((n : Int) - 1)) 0 true) 1 true)) := by
  have k4 : (4 : Int) ≤ (n : Int) := by omega
  have k5 : (n : Int) ≤ 1024 := by omega
  have HM0 := Lib.hid (fun w => mark_any (mapPg ((n : Int) - 1)) 0 true (by omega) (mapPg_sz _ _ (by omega)) w)
  have HM1 := Lib.hid (fun w => mark_any (markPg (mapPg ((n : Int) - 1)) 0 true) 1 true (by omega) (mark_sz _ _ _ (by omega) (mapPg_sz _) _ (by omega)) w)
  have hokm : okPg (markPg (markPg (mapPg ((n : Int) - 1)) 0 true) 1 true) = true := mark_ok _ 1 true (by omega) (mark_sz _ _ _ (by omega) (mapPg_sz _)) (mark_ok _ 0 true (by omega) (mapPg_sz _) (mapPg_ok _ (by omega) (by omega)))
  have HO := Lib.hid (okSet_one hokm 1 (by omega) (by omega))
  generalize markPg (markPg (mapPg ((n : Int) - 1)) 0 true) 1 true = m2 at *
  generalize markPg (mapPg ((n : Int) - 1)) 0 true = m1 at *
  have hmap : mapPg ((n : Int) - 1) = mapZ ((n : Int) - 1) z34 := rfl
  rw [hmap] at HM0
  clear hmap hokm
  have hmk := mk34
  have hbk := z34_back
  generalize hzz : z34 = zz at *
  generalize Array.replicate 34 (Value.int .u8 0) = rz at *
  have HZ := Lib.hid hzz
  clear hzz
  have gA0 := fA0
  have gD0 := fD0
  have gA1 := fA1
  have gD1 := fD1
  have gA2 := fA2
  have gD2 := fD2
  have gA3 := fA3
  have gD3 := fD3
  have gA4 := fA4
  have gD4 := fD4
  have gA5 := fA5
  have gD5 := fD5
  obtain ⟨l1, l2, l3, l4⟩ := hs.lt
  have HS := Lib.hid hs
  clear hs
  go_enter Try.func38, Try.ntmps38
  go_wp2_with fail
  refine wp_loop_rounds 7 ?_
  rw [rounds_succ]
  go_wp2_with fail
  rw [rounds_succ]
  go_wp2_with fail
  rw [rounds_succ]
  go_wp2_with fail
  rw [rounds_succ]
  go_wp2_with fail
  rw [rounds_succ]
  go_wp2_with fail
  rw [rounds_succ]
  go_wp2_with fail
  rw [rounds_succ]
  go_wp2_with fail
  have Ball := (((((((Below.refl w.heap.size w).alloc (Nat.le_refl _) (.cells (((((((((((((Pg.setA { k := 2, n := (n : Int) - 1 } 0 1).setD 0 zz).setA 1 1).setD 1 zz).setA 2 1).setD 2 zz).setA 3 1).setD 3 zz).setA 4 1).setD 4 zz).setA 5 1).setD 5 zz).cs) 112)).alloc (by go_size) (.cells rz 5)).alloc (by go_size) (.cells rz 5)).alloc (by go_size) (.cells rz 5)).alloc (by go_size) (.cells rz 5)).alloc (by go_size) (.cells rz 5)).alloc (by go_size) (.cells rz 5)
  refine (set_any S b mb hb pb 0 { k := 1 } _ (HS.out.below Ball ⟨l1, l2, l3, l4⟩)).mono ?_; rintro e w2 ⟨rfl, hg2, hs2⟩
  rw [okSet_one okDir 0 (by omega) (by omega)] at hs2 ⊢
  have e0 : chkE true = 0 := rfl
  rw [e0]
  simp only [if_true] at hs2
  have R2 : rowAt w2 w.heap.size = some (mapZ ((n : Int) - 1) zz).cs := (rowAt_grown hg2 (by go_size) (by omega)).trans (by simp [go_sem]; rfl)
  have hz2 := hg2.size
  have G2 := Lib.hid ((grown_of_below Ball (some mb)).trans hg2)
  have HS2 := Lib.hid hs2
  clear hg2 hs2 Ball
  go_wp2_with fail
  refine (HM0.out _).mono ?_; rintro e w3 ⟨rfl, hb3⟩
  have hz3 := hb3.size
  go_wp2_with fail
  refine (HM1.out _).mono ?_; rintro e w4 ⟨rfl, hb4⟩
  go_wp2_with fail
  have B4 : Below w2.heap.size w2 w4 := hb3.trans (hb4.mono hz3)
  refine (set_any _ b mb hb pb 1 m2 _ (HS2.out.below B4 HS2.out.lt)).mono ?_; rintro e w5 ⟨rfl, hg5, hs5⟩
  rw [HO.out] at hs5 ⊢
  rw [e0]
  simp only [if_true] at hs5
  go_wp2_with fail
  go_ret
  exact ⟨rfl, (G2.out.trans (grown_of_below B4 _)).trans hg5, hs5⟩
end

/-!
  Layer 14 (space): the contracts of Used and Forget.
-/
section
open Go.RowKit Go.Joins
set_option linter.unusedVariables false
set_option linter.unusedSimpArgs false

/-- the pages that belong to somebody, below a number -/
def usedTo (m : Pg) (k : Nat) : List Nat := (List.range k).filter fun j => bitAt m j
def idVals (l : List Nat) : List Value := l.map fun j : Nat => .int .i64 (j : Int)
theorem usedTo_succ (m : Pg) (k : Nat) : usedTo m (k + 1) = if bitAt m k then usedTo m k ++ [k] else usedTo m k := by
  unfold usedTo
  rw [List.range_succ, List.filter_append]
  cases h : bitAt m k <;> simp [h]

theorem usedTo_len (m : Pg) (k : Nat) : (usedTo m k).length ≤ k := by
  unfold usedTo
  exact Nat.le_trans (List.length_filter_le _ _) (by simp)
theorem own_below1 {w w' : World} {base n : Nat} {e : TypeId} {v : Value} {xs : List Value} {s : Nat} (h : w.ownsRow base e s v n xs) (hb : Below w.heap.size w w') : w'.ownsRow base e s v n xs := h.kept (row := none) ⟨hb.os, hb.tape, hb.output, hb.size, fun i hi _ => hb.block i hi⟩ (by cases v.ownBlock <;> simp)
theorem infoInt : (Try.prog.info? 3).map (fun i => (i.zero, i.size, i.bytes)) = some (some (.int .i64 0), 1, 8) := by kernel_rfl

set_option maxHeartbeats 2000000 in
set_option maxRecDepth 100000 in
theorem used_any (S : Vol) (b mb hb pb : Nat) (m : Pg) (n : Nat) (w : World) (hs : StageAt w b mb hb pb S) (hm : MapAt S m n) :
    Calls Try.prog 57 #[.pointer (some ⟨b, 0, none⟩)] w fun e w' => ∃ v, e = .returned (.tuple #[v, .int .i64 n, .int .i64 0]) ∧ Below w.heap.size w w' ∧ w'.ownsRow w.heap.size 3 1 v (usedTo m n).length (idVals (usedTo m n)) := by
  have HR := Lib.hid (fun w' h => read_ok S b mb hb pb m w' h hm.e hm.p hm.map)
  rw [hm.cnt] at HR
  have hn := hm.hi
  have hl := hm.lo
  have HS := Lib.hid hs
  have HT := Lib.hid (fun j (hj : j < n) w => taken_any m j (by omega) (hm.sz _ (by omega)) w)
  have hlt := hs.lt
  obtain ⟨l1, l2, l3, l4⟩ := hlt
  clear hs hm
  obtain ⟨i0, hi, hz0, hz1, hz2⟩ := info_parts infoInt
  go_enter Try.func57, Try.ntmps57
  go_wp2_with fail
  refine (HR.out _ HS.out).mono ?_; rintro e w1 ⟨rfl, hb1⟩
  have hsz := hb1.size
  have HB1 := Lib.hid hb1
  clear hb1
  go_wp2_with fail
  go_loopw [8, 20] (fun l i wr => ∃ k : Nat, k ≤ n ∧ i = .int .i64 k ∧ wr.ownsRow (w1.heap.size + 1) 3 1 l (usedTo m k).length (idVals (usedTo m k)) ∧ Below (w1.heap.size + 1) (w1.alloc (.cells m.cs 112)) wr) (fun _ i _ => n - (intOf i).toNat)
  case atStart => exact ⟨0, by omega, rfl, World.ownsRow_nil _ _ _ _, Below.refl _ _⟩
  case round =>
    obtain ⟨k, hk, rfl, hown, hb⟩ := hrel
    have hz := hb.size
    simp only [World.size_alloc] at hz
    have R1 : rowAt wr w1.heap.size = some m.cs := (rowAt_below hb (by omega)).trans (rowAt_at w1 m.cs _ _ rfl)
    by_cases hki : k < n
    · have HTk := Lib.hid (HT.out k hki)
      have hsucc := usedTo_succ m k
      have hlen := usedTo_len m k
      cases hbit : bitAt m k with
      | true =>
        rw [hbit] at HTk hsucc
        simp only [if_true] at hsucc
        have HSu := Lib.hid hsucc
        clear hsucc hbit
        go_wp2_with fail
        refine (HTk.out _).mono ?_; rintro e w2 ⟨rfl, hb2⟩
        have hown2 := own_below1 hown hb2
        have hz2' := hb2.size
        go_wp2_with (at_builtin; refine wpList_append_own _ rfl _ _ 28 rfl (w1.heap.size + 1) 3 i0 _ 1 8 Try.underlying28 hi hz0 hz1 hz2 rfl (by decide) _ _ _ rfl (hown2.alloc _) ⟨w2.heap.size, 0, none⟩ 1 1 [.int .i64 k] rfl rfl ?c1 ?c2 ?c3 ?c4 ?c5 ?_)
        (try case c1 => exact cell_one_new _ _ _)
        case c2 => simp [Value.oneCell']
        case c3 => simp only [maxLen]; omega
        case c4 => omega
        case c5 => first | omega | (simp; omega)
        intro v' w5 hown' hgrow _
        have hb5 : Below (w1.heap.size + 1) (w1.alloc (.cells m.cs 112)) w5 := ((hb.trans (hb2.mono (by omega))).alloc (by omega) _).grown hgrow (by simp; omega) (fun q hq => (hown.lt q hq).1)
        clear hown
        go_wp2_with fail
        go_roundw
        case rel => exact ⟨k + 1, by omega, by go_num, by rw [HSu.out]; simpa [idVals] using hown', hb5⟩
        case measure => simp [intOf]; omega
      | false =>
        rw [hbit] at HTk hsucc
        have HSu := Lib.hid hsucc
        clear hsucc hbit
        go_wp2_with fail
        refine (HTk.out _).mono ?_; rintro e w2 ⟨rfl, hb2⟩
        have hown2 := own_below1 hown hb2
        go_wp2_with fail
        go_roundw
        case rel => exact ⟨k + 1, by omega, by go_num, by rw [HSu.out]; exact hown2, hb.trans (hb2.mono (by omega))⟩
        case measure => simp [intOf]; omega
    · have hke : k = n := by omega
      subst hke
      go_wp2_with fail
      go_ret3
      exact ⟨_, rfl, (HB1.out.alloc (by omega) (.cells m.cs 112)).trans (hb.mono (by omega)), ownsRow_le hown (by omega)⟩
end

/-!
  Layer 14 (space): plain laws on a map's bits; the contract of Forget.
-/
section
open Go.RowKit Go.Joins
set_option linter.unusedVariables false
set_option linter.unusedSimpArgs false

theorem set_tab : ∀ b : Fin 256, ∀ k j : Fin 8, ∀ y : Bool, (UInt8.ofNat (setByte b.val k.val y)).toNat.testBit j.val = if j = k then y else b.val.testBit j.val := by decide +kernel
theorem bitD_mark (d : ByteArray) (i j : Nat) (y : Bool) (hj : j / 8 < d.size) : bitD (markD d j y) i = if i = j then y else bitD d i := by
  have hjd : j / 8 < d.data.size := hj
  unfold bitD
  by_cases h8 : i / 8 = j / 8
  · have e : byteAt (markD d j y) (i / 8) = (UInt8.ofNat (setByte (byteAt d (j / 8)) (j % 8) y)).toNat := by
      rw [h8]
      generalize hu : UInt8.ofNat (setByte (byteAt d (j / 8)) (j % 8) y) = u
      unfold byteAt markD
      simp only [hu, Array.getD_eq_getD_getElem?, Array.getElem?_setIfInBounds_self_of_lt hjd, Option.getD_some]
    have hb : byteAt d (j / 8) < 256 := by unfold byteAt; exact UInt8.toNat_lt _
    have t := set_tab ⟨byteAt d (j / 8), hb⟩ ⟨j % 8, Nat.mod_lt _ (by omega)⟩ ⟨i % 8, Nat.mod_lt _ (by omega)⟩ y
    rw [e, t, h8]
    by_cases hij : i = j
    · subst hij; simp
    · have hne : ¬ i % 8 = j % 8 := by omega
      simp [hij, hne]
  · have e : byteAt (markD d j y) (i / 8) = byteAt d (i / 8) := by
      unfold byteAt markD
      simp only [Array.getD_eq_getD_getElem?, Array.getElem?_setIfInBounds_ne (fun e => h8 e.symm)]
    have hij : ¬ i = j := fun e => h8 (by rw [e])
    rw [e, if_neg hij]
theorem bitAt_mark (p : Pg) (i j : Nat) (y : Bool) (hi : i < 1632) (hj : j < 1632) (hs : ∀ k, k < 6 → (p.d k).size = 34) : bitAt (markPg p j y) i = if i = j then y else bitAt p i := by
  unfold bitAt markPg
  rw [d_setD _ _ _ (by omega) (by omega)]
  by_cases h : i / 272 = j / 272
  · rw [if_pos h, bitD_mark _ _ _ _ (by rw [hs _ (by omega)]; omega), h]
    by_cases hij : i = j
    · subst hij; simp
    · have hne : ¬ i % 272 = j % 272 := by omega
      simp [hij, hne]
  · have hij : ¬ i = j := fun e => h (by rw [e])
    rw [if_neg h, if_neg hij]
end

/-!
  Layer 14 (space): the contract of Forget.
-/
section
open Go.RowKit Go.Joins
set_option linter.unusedVariables false
set_option linter.unusedSimpArgs false

/-- a store's pages given back, one after the other -/
def frees (st : Int) : List Nat → Vol → Pg → Vol × Pg
  | [], S, m => (S, m)
  | id :: r, S, m => if 2 ≤ id ∧ (stPg S id).s = st then frees st r (S.put 1 (markPg m id false)) (markPg m id false) else frees st r S m

/-- what a stage bears, half way -/
structure Half (S : Vol) (m : Pg) (n : Nat) (l : List Nat) : Prop where
  map : MapAt S m n
  had : ∀ id, id ∈ l → id < n ∧ bitAt m id = true
  once : l.Nodup
  there : ∀ id : Nat, id < n → stE S id = 0

theorem Half.skip {S : Vol} {m : Pg} {n id : Nat} {l : List Nat} (h : Half S m n (id :: l)) : Half S m n l :=
  ⟨h.map, fun i hi => h.had i (List.mem_cons_of_mem _ hi), (List.nodup_cons.1 h.once).2, h.there⟩
theorem Half.give {S : Vol} {m : Pg} {n id : Nat} {l : List Nat} (h : Half S m n (id :: l)) : Half (S.put 1 (markPg m id false)) (markPg m id false) n l := by
  have hid := (h.had id (List.mem_cons_self ..)).1
  have hn := h.map.hi
  refine ⟨h.map.mark id false (by omega), fun i hi => ?_, (List.nodup_cons.1 h.once).2, fun i hi => ?_⟩
  · have hh := h.had i (List.mem_cons_of_mem _ hi)
    have hne : ¬ i = id := fun e => (List.nodup_cons.1 h.once).1 (e ▸ hi)
    exact ⟨hh.1, by rw [bitAt_mark _ _ _ _ (by omega) (by omega) h.map.sz, if_neg hne]; exact hh.2⟩
  · rw [stE_put]
    split
    · rfl
    · exact h.there i hi
end

/-!
  Layer 14 (space): plain laws on directories and maps as values (no program in sight).
-/
section
open Go.RowKit Go.Joins
set_option linter.unusedVariables false
set_option linter.unusedSimpArgs false

theorem a_setA (p : Pg) (k j : Nat) (hk : k < 6) (hj : j < 6) (x : Int) : (p.setA k x).a j = if j = k then x else p.a j := by
  have h6 : k = 0 ∨ k = 1 ∨ k = 2 ∨ k = 3 ∨ k = 4 ∨ k = 5 := by omega
  have g6 : j = 0 ∨ j = 1 ∨ j = 2 ∨ j = 3 ∨ j = 4 ∨ j = 5 := by omega
  rcases h6 with rfl | rfl | rfl | rfl | rfl | rfl <;> rcases g6 with rfl | rfl | rfl | rfl | rfl | rfl <;> rfl
theorem d_setA (p : Pg) (k j : Nat) (hk : k < 6) (x : Int) : (p.setA k x).d j = p.d j := by
  have h6 : k = 0 ∨ k = 1 ∨ k = 2 ∨ k = 3 ∨ k = 4 ∨ k = 5 := by omega
  rcases h6 with rfl | rfl | rfl | rfl | rfl | rfl <;> rfl
theorem h_setA (p : Pg) (k : Nat) (hk : k < 6) (x : Int) : (p.setA k x).k = p.k ∧ (p.setA k x).l = p.l ∧ (p.setA k x).s = p.s ∧ (p.setA k x).n = p.n := by
  have h6 : k = 0 ∨ k = 1 ∨ k = 2 ∨ k = 3 ∨ k = 4 ∨ k = 5 := by omega
  rcases h6 with rfl | rfl | rfl | rfl | rfl | rfl <;> exact ⟨rfl, rfl, rfl, rfl⟩
theorem a_setC (p : Pg) (k j : Nat) (hk : k < 6) (hj : j < 6) (x : Int) (y : ByteArray) : (p.setC k x y).a j = if j = k then x else p.a j := by
  rw [Pg.setC, a_setD _ _ _ hk, a_setA _ _ _ hk hj]
theorem d_setC (p : Pg) (k j : Nat) (hk : k < 6) (hj : j < 6) (x : Int) (y : ByteArray) : (p.setC k x y).d j = if j = k then y else p.d j := by
  rw [Pg.setC, d_setD _ _ _ hk hj, d_setA _ _ _ hk]
theorem h_setC (p : Pg) (k : Nat) (hk : k < 6) (x : Int) (y : ByteArray) : (p.setC k x y).k = p.k ∧ (p.setC k x y).l = p.l ∧ (p.setC k x y).s = p.s ∧ (p.setC k x y).n = p.n := by
  have h1 := h_setA p k hk x
  have h2 := h_setD (p.setA k x) k hk y
  unfold Pg.setC
  exact ⟨h2.1.trans h1.1, h2.2.1.trans h1.2.1, h2.2.2.1.trans h1.2.2.1, h2.2.2.2.trans h1.2.2.2⟩
theorem ok_setC {p : Pg} (h : okPg p = true) (k : Nat) (hk : k < 6) (x : Int) (y : ByteArray) (hc : okC x y = true) : okPg (p.setC k x y) = true := by
  obtain ⟨h1, h2⟩ := okPg_to h
  have hh := h_setC p k hk x y
  refine okPg_of ?_ fun i hi => ?_
  · simp only [okH, hh] at h1 ⊢
    exact h1
  · rw [a_setC _ _ _ hk hi, d_setC _ _ _ hk hi]
    split
    · exact hc
    · exact h2 i hi
theorem ok_setA {p : Pg} (h : okPg p = true) (k : Nat) (hk : k < 6) (x : Int) (hc : okC x (p.d k) = true) : okPg (p.setA k x) = true := by
  obtain ⟨h1, h2⟩ := okPg_to h
  have hh := h_setA p k hk x
  refine okPg_of ?_ fun i hi => ?_
  · simp only [okH, hh] at h1 ⊢
    exact h1
  · rw [a_setA _ _ _ hk hi, d_setA _ _ _ hk]
    split
    · subst_vars; exact hc
    · exact h2 i hi
theorem entry_size (k r : Int) : (entryD k r).size = 5 := by
  unfold entryD le1 le4
  rfl
theorem okC_full {x : Int} {y : ByteArray} (h1 : x = 1 ∨ x = 2) (h2 : 0 < y.size) (h3 : y.size ≤ 34) : okC x y = true := by
  have h4 : y.toList.isEmpty = false := sem_f (by intro e; rw [e] at h2; cases h2)
  simp only [okC, h4, Bool.or_false, Bool.and_eq_true, decide_eq_true_eq]
  rcases h1 with rfl | rfl <;> simp [h3]

/-- a volume: a directory, a map, and as many pages as the map says -/
structure VolOk (S : Vol) (d m : Pg) (n : Nat) : Prop where
  dir : DirAt S d
  dok : okPg d = true
  map : MapAt S m n
  there : ∀ id : Nat, id < n → stE S id = 0
  two : 2 ≤ n
  z0 : bitAt m 0 = true
  z1 : bitAt m 1 = true

theorem bitAt_lt {S : Vol} {d m : Pg} {n : Nat} (h : VolOk S d m n) (i j : Nat) (y : Bool) (hi : i < n) (hj : j < n) : bitAt (markPg m j y) i = if i = j then y else bitAt m i :=
  bitAt_mark m i j y (by have := h.map.hi; omega) (by have := h.map.hi; omega) h.map.sz

/-- a store made -/
def Vol.made (S : Vol) (d m : Pg) (k id : Nat) (kind : Int) : Vol := ((S.put 1 (markPg m id true)).put id { k := if kind = 1 then 3 else 4, s := (k : Int) + 1 }).put 0 (d.setC k 1 (entryD kind id))
theorem VolOk.make {S : Vol} {d m : Pg} {n : Nat} (h : VolOk S d m n) (k id : Nat) (kind : Int) (hk : k < 6) (h2 : 2 ≤ id) (hid : id < n) : VolOk (S.made d m k id kind) (d.setC k 1 (entryD kind id)) (markPg m id true) n := by
  have hn := h.map.hi
  have g0 : ¬ (0 : Int) = id := by omega
  have g1 : ¬ (1 : Int) = id := by omega
  have hm := h.map.mark id true (by omega)
  refine ⟨⟨?_, ?_, ?_⟩, ?_, ⟨?_, ?_, hm.k, hm.cnt, hm.lo, hm.hi, hm.sz, hm.ok⟩, fun i hi => ?_, h.two, ?_, ?_⟩
  · simp only [Vol.made, stE_put, if_pos]
  · simp only [Vol.made, stPg_put, if_pos]
  · rw [(h_setC d k hk _ _).1, h.dir.k]
  · exact ok_setC h.dok k hk _ _ (okC_full (.inl rfl) (by rw [entry_size]; omega) (by rw [entry_size]; omega))
  · rw [Vol.made, stE_put, if_neg (by omega), stE_put, if_neg g1, stE_put, if_pos rfl]
  · rw [Vol.made, stPg_put, if_neg (by omega), stPg_put, if_neg g1, stPg_put, if_pos rfl]
  · simp only [Vol.made, stE_put]
    have := h.there i hi
    split
    · rfl
    split
    · rfl
    split
    · rfl
    exact this
  · rw [bitAt_lt h _ _ _ (by omega) hid, if_neg (by omega)]; exact h.z0
  · rw [bitAt_lt h _ _ _ (by omega) hid, if_neg (by omega)]; exact h.z1
theorem VolOk.setA {S : Vol} {d m : Pg} {n : Nat} (h : VolOk S d m n) (k : Nat) (x : Int) (hk : k < 6) (hx : x = 1 ∨ x = 2) (hd : 0 < (d.d k).size) : okPg (d.setA k x) = true ∧ VolOk (S.put 0 (d.setA k x)) (d.setA k x) m n := by
  have h34 : (d.d k).size ≤ 34 := by
    have h3 := (okPg_to h.dok).2 k hk
    simp only [okC, Bool.and_eq_true, decide_eq_true_eq] at h3
    exact h3.1.2
  have ho := ok_setA h.dok k hk x (okC_full hx hd h34)
  refine ⟨ho, ⟨by rw [stE_put, if_pos rfl], by rw [stPg_put, if_pos rfl], by rw [(h_setA d k hk x).1, h.dir.k]⟩, ho, ⟨by rw [stE_put, if_neg (by omega)]; exact h.map.e, by rw [stPg_put, if_neg (by omega)]; exact h.map.p, h.map.k, h.map.cnt, h.map.lo, h.map.hi, h.map.sz, h.map.ok⟩, fun i hi => ?_, h.two, h.z0, h.z1⟩
  rw [stE_put]
  split
  · rfl
  · exact h.there i hi
theorem Half.dir {S : Vol} {d m : Pg} {n : Nat} {l : List Nat} (st : Int) (hd : DirAt S d) : DirAt (frees st l S m).1 d := by
  induction l generalizing S m with
  | nil => exact hd
  | cons id r ih =>
    unfold frees
    split
    · exact ih ⟨by rw [stE_put, if_neg (by omega)]; exact hd.e, by rw [stPg_put, if_neg (by omega)]; exact hd.p, hd.k⟩
    · exact ih hd
theorem Half.all {S : Vol} {m : Pg} {n : Nat} {l : List Nat} (st : Int) (h : Half S m n l) : Half (frees st l S m).1 (frees st l S m).2 n [] := by
  induction l generalizing S m with
  | nil => exact h
  | cons id r ih =>
    unfold frees
    split
    · exact ih h.give
    · exact ih h.skip
/-- a page that is no map, behind what Forget gives back -/
theorem frees_pg {S : Vol} {m : Pg} (st : Int) (l : List Nat) (id : Int) (h : id ≠ 1) : stPg (frees st l S m).1 id = stPg S id := by
  induction l generalizing S m with
  | nil => rfl
  | cons i r ih =>
    unfold frees
    split
    · rw [ih, stPg_put, if_neg h]
    · exact ih
theorem frees_bit {S : Vol} {m : Pg} {n : Nat} {l : List Nat} (st : Int) (h : Half S m n l) (i : Nat) (hi : i < n) : bitAt (frees st l S m).2 i = (bitAt m i && !(decide (i ∈ l) && decide (2 ≤ i) && decide ((stPg S i).s = st))) := by
  induction l generalizing S m with
  | nil => simp [frees]
  | cons id r ih =>
    have hid := h.had id (List.mem_cons_self ..)
    have hn := h.map.hi
    have hnd := (List.nodup_cons.1 h.once).1
    unfold frees
    by_cases hc : 2 ≤ id ∧ (stPg S id).s = st
    · rw [if_pos hc, ih h.give, bitAt_mark m i id false (by omega) (by omega) h.map.sz]
      by_cases he : i = id
      · subst he
        have e1 : decide (i ∈ i :: r) = true := by simp
        have e2 : decide (2 ≤ i) = true := by simp [hc.1]
        have e3 : decide ((stPg S i).s = st) = true := by simp [hc.2]
        rw [if_pos rfl, e1, e2, e3]
        simp
      · have h1 : ¬ (i : Int) = 1 ∨ (i : Int) = 1 := by omega
        by_cases hi1 : i = 1
        · subst hi1
          simp [he]
        · rw [if_neg he, stPg_put, if_neg (by omega)]
          simp [he]
    · rw [if_neg hc, ih h.skip]
      by_cases he : i = id
      · subst he
        have h3 : decide (i ∈ r) = false := by simp [hnd]
        have h4 : (decide (2 ≤ i) && decide ((stPg S i).s = st)) = false := by
          simp only [Bool.and_eq_false_iff, decide_eq_false_iff_not]
          by_cases h2 : 2 ≤ i
          · right; exact fun e => hc ⟨h2, e⟩
          · left; exact h2
        have e1 : decide (i ∈ i :: r) = true := by simp
        rw [e1, h3, Bool.true_and, h4]
        simp
      · simp [he]
theorem usedTo_mem (m : Pg) (n i : Nat) : i ∈ usedTo m n ↔ i < n ∧ bitAt m i = true := by
  simp [usedTo]
theorem VolOk.half {S : Vol} {d m : Pg} {n : Nat} (h : VolOk S d m n) : Half S m n (usedTo m n) :=
  ⟨h.map, fun id hid => (usedTo_mem m n id).1 hid, List.Pairwise.filter _ List.nodup_range, h.there⟩
/-- a store forgotten -/
def Vol.forgot (S : Vol) (d m : Pg) (n k : Nat) : Vol := (frees ((k : Int) + 1) (usedTo m n) S m).1.put 0 (d.setC k 0 ByteArray.empty)
def Pg.forgot (m : Pg) (S : Vol) (n k : Nat) : Pg := (frees ((k : Int) + 1) (usedTo m n) S m).2
theorem okC_none : okC 0 ByteArray.empty = true := okC00
theorem VolOk.forget {S : Vol} {d m : Pg} {n : Nat} (h : VolOk S d m n) (k : Nat) (hk : k < 6) : okPg (d.setC k 0 ByteArray.empty) = true ∧ VolOk (S.forgot d m n k) (d.setC k 0 ByteArray.empty) (m.forgot S n k) n := by
  have ho := ok_setC h.dok k hk 0 ByteArray.empty okC_none
  have hh := h.half.all ((k : Int) + 1)
  refine ⟨ho, ⟨by rw [Vol.forgot, stE_put, if_pos rfl], by rw [Vol.forgot, stPg_put, if_pos rfl], by rw [(h_setC d k hk _ _).1, h.dir.k]⟩, ho, ⟨by rw [Vol.forgot, stE_put, if_neg (by omega)]; exact hh.map.e, by rw [Vol.forgot, stPg_put, if_neg (by omega)]; exact hh.map.p, hh.map.k, hh.map.cnt, hh.map.lo, hh.map.hi, hh.map.sz, hh.map.ok⟩, fun i hi => ?_, h.two, ?_, ?_⟩
  · rw [Vol.forgot, stE_put]
    split
    · rfl
    · exact hh.there i hi
  · rw [Pg.forgot, frees_bit _ h.half 0 (by have := h.two; omega), h.z0]; simp
  · rw [Pg.forgot, frees_bit _ h.half 1 (by have := h.two; omega), h.z1]; simp
theorem forgot_bit {S : Vol} {d m : Pg} {n : Nat} (h : VolOk S d m n) (k i : Nat) (hi : i < n) : bitAt (m.forgot S n k) i = (bitAt m i && !(decide (2 ≤ i) && decide ((stPg S i).s = (k : Int) + 1))) := by
  rw [Pg.forgot, frees_bit _ h.half i hi]
  cases hb : bitAt m i with
  | false => rfl
  | true =>
    have : decide (i ∈ usedTo m n) = true := by simp [usedTo_mem, hi, hb]
    rw [this]; simp

/-- a new volume -/
def Vol.formed (S : Vol) (n : Nat) : Vol := (S.put 0 { k := 1 }).put 1 (markPg (markPg (mapPg ((n : Int) - 1)) 0 true) 1 true)
def newMap (n : Nat) : Pg := markPg (markPg (mapPg ((n : Int) - 1)) 0 true) 1 true
theorem bit_z34 (i : Nat) : bitD z34 i = false := by
  unfold bitD byteAt z34
  have : (Array.replicate 34 (0 : UInt8)).getD (i / 8) 0 = 0 := by
    simp only [Array.getD_eq_getD_getElem?, Array.getElem?_replicate]
    split <;> rfl
  rw [this]; simp
theorem bit_mapPg (n : Int) (i : Nat) (hi : i < 1632) : bitAt (mapPg n) i = false := by
  have h6 : i / 272 = 0 ∨ i / 272 = 1 ∨ i / 272 = 2 ∨ i / 272 = 3 ∨ i / 272 = 4 ∨ i / 272 = 5 := by omega
  unfold bitAt
  rcases h6 with h | h | h | h | h | h <;> rw [h] <;> exact bit_z34 _
theorem newMap_bit (n i : Nat) (hi : i < 1632) : bitAt (newMap n) i = decide (i < 2) := by
  unfold newMap
  rw [bitAt_mark _ _ _ _ hi (by omega) (fun j hj => mark_sz _ _ _ (by omega) (mapPg_sz _) j hj), bitAt_mark _ _ _ _ hi (by omega) (mapPg_sz _), bit_mapPg _ _ hi]
  by_cases h1 : i = 1
  · subst h1; rfl
  · by_cases h0 : i = 0
    · subst h0; rfl
    · have : ¬ i < 2 := by omega
      simp [h1, h0, this]
theorem VolOk.new (l : List Pg) (n : Nat) (M : List (Int × Pg)) (h4 : 4 ≤ n) (hn : n ≤ 1024) (hl : n ≤ l.length) : VolOk (Vol.formed ⟨l, M⟩ n) { k := 1 } (newMap n) n := by
  have z1 : ∀ i, i < 6 → ((markPg (mapPg ((n : Int) - 1)) 0 true).d i).size = 34 := fun j hj => mark_sz _ _ _ (by omega) (mapPg_sz _) j hj
  have k1 := mark_k (mapPg ((n : Int) - 1)) 0 true (by omega)
  have k2 := mark_k (markPg (mapPg ((n : Int) - 1)) 0 true) 1 true (by omega)
  have ok0 := mapPg_ok ((n : Int) - 1) (by omega) (by omega)
  refine ⟨⟨?_, ?_, rfl⟩, okDir, ⟨?_, ?_, ?_, ?_, by omega, hn, fun i hi => mark_sz _ _ _ (by omega) z1 i hi, ?_⟩, fun i hi => ?_, by omega, ?_, ?_⟩
  · rw [Vol.formed, stE_put, if_neg (by omega), stE_put, if_pos rfl]
  · rw [Vol.formed, stPg_put, if_neg (by omega), stPg_put, if_pos rfl]
  · rw [Vol.formed, stE_put, if_pos rfl]
  · rw [Vol.formed, stPg_put, if_pos rfl]; rfl
  · unfold newMap; rw [k2.1, k1.1]; rfl
  · unfold newMap; rw [k2.2, k1.2]; show ((n : Int) - 1) + 1 = n; omega
  · exact mark_ok _ _ _ (by omega) z1 (mark_ok _ _ _ (by omega) (mapPg_sz _) ok0)
  · rw [Vol.formed, stE_put]
    split
    · rfl
    rw [stE_put]
    split
    · rfl
    unfold stE
    split
    · rfl
    · exact if_pos ⟨by omega, by show (i : Int) < l.length; omega⟩
  · rw [newMap_bit _ _ (by omega)]; rfl
  · rw [newMap_bit _ _ (by omega)]; rfl
end

/-!
  Layer 14 (space): the contract of Forget.
-/
section
open Go.RowKit Go.Joins
set_option linter.unusedVariables false
set_option linter.unusedSimpArgs false

/-- what stands at the head of a round of Forget's loop -/
def ForgetAt (st : Int) (b mb hb pb n : Nat) (l : List Nat) (F : Vol × Pg) (B D : Nat) (d : Pg) (v : Value) (w0 : World) (k : Nat) (wr : World) : Prop :=
  k ≤ l.length ∧ ∃ S m, Half S m n (l.drop k) ∧ frees st (l.drop k) S m = F ∧ StageAt wr b mb hb pb S ∧ w0.grownBy wr (some mb) ∧ rowAt wr D = some d.cs ∧ wr.ownsRow B 3 1 v l.length (idVals l)

theorem idVals_get (l : List Nat) (k : Nat) (h : k < l.length) : (idVals l)[k]? = some (.int .i64 (l[k] : Int)) := by
  simp [idVals, h]

theorem cs_setC (p : Pg) (k : Nat) (h : k < 6) (x : Int) (y : ByteArray) : (p.cs.setIfInBounds (4 + k * 2) (.int .i64 x)).setIfInBounds (4 + k * 2 + 1) (.string y) = (p.setC k x y).cs := by
  rw [cs_setA p k h, cs_setD _ k h]; rfl
theorem grown_below' {w w2 W : World} {r : Option Nat} (h : w.grownBy w2 r) (k : Below w.heap.size w2 W) : w.grownBy W r := grown_below h k (Nat.le_refl _)
theorem empty_lit : (ByteArray.empty : ByteArray) = ⟨#[]⟩ := rfl
theorem used_pos {S : Vol} {d m : Pg} {n : Nat} (h : VolOk S d m n) : 0 < (usedTo m n).length :=
  List.length_pos_of_mem ((usedTo_mem m n 0).2 ⟨by have := h.two; omega, h.z0⟩)
theorem ForgetAt.skip {st : Int} {b mb hb pb n : Nat} {l : List Nat} {F : Vol × Pg} {B D : Nat} {d : Pg} {v : Value} {w0 wr : World} {k : Nat} {S : Vol} {m : Pg} (hk : k < l.length) (h1 : Half S m n (l.drop k)) (h2 : frees st (l.drop k) S m = F)
    (hc : ¬ (2 ≤ l[k] ∧ (stPg S l[k]).s = st)) : Half S m n (l.drop (k + 1)) ∧ frees st (l.drop (k + 1)) S m = F := by
  rw [List.drop_eq_getElem_cons hk] at h1 h2
  rw [frees, if_neg hc] at h2
  exact ⟨h1.skip, h2⟩
theorem ForgetAt.give {st : Int} {b mb hb pb n : Nat} {l : List Nat} {F : Vol × Pg} {B D : Nat} {d : Pg} {v : Value} {w0 wr : World} {k : Nat} {S : Vol} {m : Pg} (hk : k < l.length) (h1 : Half S m n (l.drop k)) (h2 : frees st (l.drop k) S m = F)
    (hc : 2 ≤ l[k] ∧ (stPg S l[k]).s = st) : Half (S.put 1 (markPg m l[k] false)) (markPg m l[k] false) n (l.drop (k + 1)) ∧ frees st (l.drop (k + 1)) (S.put 1 (markPg m l[k] false)) (markPg m l[k] false) = F := by
  rw [List.drop_eq_getElem_cons hk] at h1 h2
  rw [frees, if_pos hc] at h2
  exact ⟨h1.give, h2⟩

end

/-!
  Layer 14 (space): contracts in the form that the laws use: a stage in new memory (Lay); what is refused.
-/
section
open Go.RowKit Go.Joins
set_option linter.unusedVariables false
set_option linter.unusedSimpArgs false

/-- the blocks of a class are as they were, and so are the streams -/
structure Keep (P : Nat → Prop) (w w' : World) : Prop where
  os : w'.os = w.os
  tape : w'.tape = w.tape
  output : w'.output = w.output
  size : w.heap.size ≤ w'.heap.size
  block : ∀ k, P k → w'.heap[k]? = w.heap[k]?
theorem Keep.refl (P : Nat → Prop) (w : World) : Keep P w w := ⟨rfl, rfl, rfl, Nat.le_refl _, fun _ _ => rfl⟩
theorem Keep.trans {P : Nat → Prop} {w w' w2 : World} (h : Keep P w w') (k : Keep P w' w2) : Keep P w w2 :=
  ⟨k.os.trans h.os, k.tape.trans h.tape, k.output.trans h.output, Nat.le_trans h.size k.size, fun i hi => (k.block i hi).trans (h.block i hi)⟩
theorem Keep.below {P : Nat → Prop} {w w' : World} (h : Keep P w w') {B : Nat} (hP : ∀ k, k < B → P k) : Below B w w' := ⟨h.os, h.tape, h.output, h.size, fun k hk => h.block k (hP k hk)⟩
theorem Keep.of_below {P : Nat → Prop} {w w' : World} {B : Nat} (h : Below B w w') (hP : ∀ k, P k → k < B) : Keep P w w' := ⟨h.os, h.tape, h.output, h.size, fun k hk => h.block k (hP k hk)⟩
theorem Keep.intMap {P : Nat → Prop} {w w' : World} (h : Keep P w w') {b : Nat} {M : List (Int × Value)} (hm : IntMap w b M) (hb : P b) : IntMap w' b M := by
  obtain ⟨es, c, h1, h2⟩ := hm
  exact ⟨es, c, (h.block b hb).trans h1, h2⟩

/-- a stage in memory, none of its blocks of class P; the blocks of class P are as they were at w0 -/
structure Lay (P : Nat → Prop) (w0 w : World) (b hb : Nat) (S : Vol) : Prop where
  keep : Keep P w0 w
  dom : ∀ k, P k → k < w0.heap.size
  at' : ∃ mb pb, StageAt w b mb hb pb S ∧ ¬ P b ∧ ¬ P mb ∧ ¬ P hb ∧ ¬ P pb

theorem Lay.low {B : Nat} {w0 w : World} {b hb : Nat} {S : Vol} (h : Lay (· < B) w0 w b hb S) : Below B w0 w := h.keep.below fun _ h => h
theorem Lay.step {P : Nat → Prop} {w0 w w' : World} {b hb : Nat} {S : Vol} (h : Lay P w0 w b hb S) (hbl : Below w.heap.size w w') : Lay P w0 w' b hb S := by
  obtain ⟨h1, h2, mb, pb, h3, h4⟩ := h
  exact ⟨h1.trans (Keep.of_below hbl fun k hk => Nat.lt_of_lt_of_le (h2 k hk) h1.size), h2, mb, pb, h3.below hbl h3.lt, h4⟩
theorem Lay.alloc {P : Nat → Prop} {w0 w : World} {b hb : Nat} {S : Vol} (h : Lay P w0 w b hb S) (o : Obj) : Lay P w0 (w.alloc o) b hb S := h.step ((Below.refl _ _).alloc (Nat.le_refl _) _)
theorem Lay.drew {P : Nat → Prop} {w0 w : World} {b hb : Nat} {S : Vol} (h : Lay P w0 w b hb S) : Lay P w0 w.drew b hb S := h.step ((Below.refl _ _).drew)
theorem Lay.write {P : Nat → Prop} {w0 w w' : World} {b mb hb pb : Nat} {S' : Vol} (h1 : Keep P w0 w) (h2 : ∀ k, P k → k < w0.heap.size) (h4 : ¬ P b ∧ ¬ P mb ∧ ¬ P hb ∧ ¬ P pb) (hg : w.grownBy w' (some mb)) (hs : StageAt w' b mb hb pb S') : Lay P w0 w' b hb S' :=
  ⟨h1.trans ⟨hg.os, hg.tape, hg.output, hg.size, fun k hk => hg.block k (Nat.lt_of_lt_of_le (h2 k hk) h1.size) (fun e => h4.2.1 (by cases e; exact hk))⟩, h2, mb, pb, hs, h4⟩
theorem Lay.rebase {P : Nat → Prop} {w0 w : World} {b hb : Nat} {S : Vol} (h : Lay P w0 w b hb S) : Lay P w w b hb S := ⟨Keep.refl _ _, fun k hk => Nat.lt_of_lt_of_le (h.dom k hk) h.keep.size, h.at'⟩
/-- a block of the caller's own beside the stage -/
theorem Lay.guard {P : Nat → Prop} {w0 w : World} {b hb : Nat} {S : Vol} (h : Lay P w0 w b hb S) (o : Obj) : Lay (fun k => P k ∨ k = w.heap.size) (w.alloc o) (w.alloc o) b hb S := by
  obtain ⟨h1, h2, mb, pb, h3, h4⟩ := h
  obtain ⟨q1, q2, q3, q4⟩ := h3.lt
  refine ⟨Keep.refl _ _, fun k hk => ?_, mb, pb, h3.below ((Below.refl _ _).alloc (Nat.le_refl _) o) h3.lt, fun hk => ?_, fun hk => ?_, fun hk => ?_, fun hk => ?_⟩
  · rw [World.size_alloc]
    rcases hk with hk | hk
    · have := h2 k hk; have := h1.size; omega
    · omega
  · rcases hk with hk | hk
    · exact h4.1 hk
    · omega
  · rcases hk with hk | hk
    · exact h4.2.1 hk
    · omega
  · rcases hk with hk | hk
    · exact h4.2.2.1 hk
    · omega
  · rcases hk with hk | hk
    · exact h4.2.2.2 hk
    · omega
/-- what happens in the caller's own blocks does not touch the stage -/
theorem Lay.poke {P : Nat → Prop} {w0 w w' : World} {b hb k : Nat} {S : Vol} (h : Lay P w0 w b hb S) (hk : P k) (hg : w.grownBy w' (some k)) : Lay P w' w' b hb S := by
  obtain ⟨h1, h2, mb, pb, h3, h4⟩ := h
  obtain ⟨q1, q2, q3, q4⟩ := h3.lt
  have g : ∀ i, i < w.heap.size → ¬ P i → w'.heap[i]? = w.heap[i]? := fun i hi hp => hg.block i hi (fun e => hp (by cases e; exact hk))
  obtain ⟨t1, ⟨es, c, t2, t3⟩, ⟨t4, t5, t6⟩, t7⟩ := h3
  exact ⟨Keep.refl _ _, fun i hi => Nat.lt_of_lt_of_le (h2 i hi) (Nat.le_trans h1.size hg.size), mb, pb, ⟨(g b q1 h4.1).trans t1, ⟨es, c, (g mb q2 h4.2.1).trans t2, t3⟩, ⟨(g hb q3 h4.2.2.1).trans t4, (g pb q4 h4.2.2.2).trans t5, t6⟩, t7⟩, h4⟩

theorem five_of (kd r : Int) (h0 : 0 ≤ kd) (h1 : kd < 256) (h2 : 0 ≤ r) (h3 : r < 4294967296) : ∃ b0 b1 b2 b3 b4 : UInt8, entryD kd r = five b0 b1 b2 b3 b4 ∧ ((b0.toNat : Nat) : Int) = kd ∧ ((b1.toNat + 256 * b2.toNat + 65536 * b3.toNat + 16777216 * b4.toNat : Nat) : Int) = r := by
  refine ⟨UInt8.ofNat kd.toNat, UInt8.ofNat (r % 256).toNat, UInt8.ofNat (r / 256 % 256).toNat, UInt8.ofNat (r / 65536 % 256).toNat, UInt8.ofNat (r / 16777216).toNat, ?_, ?_, ?_⟩
  · unfold entryD le1 le4 five
    rfl
  · simp only [UInt8.toNat_ofNat']
    omega
  · simp only [UInt8.toNat_ofNat']
    omega

theorem find_lay {P : Nat → Prop} {w0 w : World} {b hb : Nat} {S : Vol} {d m : Pg} {n : Nat} (L : Lay P w0 w b hb S) (h : VolOk S d m n) (k : Nat) (hk : k < 6) (ha : d.a k ≠ 0) (kd r : Int) (h0 : 0 ≤ kd) (h1 : kd < 256) (h2 : 0 ≤ r) (h3 : r < 4294967296) (h5 : d.d k = entryD kd r) (st : Int) (hst : st = (k : Int) + 1) (a : Int) (hda : d.a k = a) :
    Calls Try.prog 68 #[.pointer (some ⟨b, 0, none⟩), .int .i64 st] w fun e w' => e = .returned (.tuple #[.int .i64 kd, .int .i64 r, .int .i64 a, .int .i64 0]) ∧ Lay P w0 w' b hb S := by
  obtain ⟨mb, pb, hs, h4⟩ := L.at'
  obtain ⟨b0, b1, b2, b3, b4, e1, e2, e3⟩ := five_of kd r h0 h1 h2 h3
  have hc := find_ok S b mb hb pb d w hs h.dir k hk ha b0 b1 b2 b3 b4 (h5.trans e1)
  rw [e2, e3, hda] at hc
  subst hst
  exact hc.mono fun e w' ⟨he, hbl⟩ => ⟨he, L.step hbl⟩

theorem make_lay {P : Nat → Prop} {w0 w : World} {b hb : Nat} {S : Vol} {d m : Pg} {n : Nat} (L : Lay P w0 w b hb S) (h : VolOk S d m n) (k : Nat) (hk : k < 6) (ha : d.a k = 0) (hbef : ∀ j, j < k → d.a j ≠ 0)
    (id : Nat) (hid : id < n) (hf : bitAt m id = false) (hbelow : ∀ j, j < id → bitAt m j = true) (kind : Int) (hkind : kind = 1 ∨ kind = 2 ∨ kind = 3) (st : Int) (hst : st = (k : Int) + 1) :
    Calls Try.prog 40 #[.pointer (some ⟨b, 0, none⟩), .int .i64 kind] w fun e w' => e = .returned (.tuple #[.int .i64 st, .int .i64 0]) ∧ Lay P w0 w' b hb (S.made d m k id kind) := by
  obtain ⟨mb, pb, hs, h4⟩ := L.at'
  subst hst
  have h2 : 2 ≤ id := by
    by_cases e0 : id = 0
    · subst e0; rw [h.z0] at hf; cases hf
    by_cases e1 : id = 1
    · subst e1; rw [h.z1] at hf; cases hf
    omega
  have hok := ok_setC h.dok k hk 1 (entryD kind id) (okC_full (.inl rfl) (by rw [entry_size]; omega) (by rw [entry_size]; omega))
  rcases hkind with rfl | hkind
  · exact (make_heap S b mb hb pb d m n w hs h.dir h.map k hk ha hbef id hid hf hbelow hok).mono fun e w' ⟨he, hg, hs'⟩ => ⟨he, Lay.write L.keep L.dom h4 hg (by unfold Vol.made; rw [if_pos rfl]; exact hs')⟩
  · exact (make_ok S b mb hb pb d m n w hs h.dir h.map k hk ha hbef id hid hf hbelow kind hkind hok).mono fun e w' ⟨he, hg, hs'⟩ => ⟨he, Lay.write L.keep L.dom h4 hg (by unfold Vol.made; rw [if_neg (by omega)]; exact hs')⟩

theorem format_lay {P : Nat → Prop} {w0 w : World} {b hb : Nat} {S : Vol} (L : Lay P w0 w b hb S) (n : Nat) (h4 : 4 ≤ n) (hn : n ≤ 1024) :
    Calls Try.prog 38 #[.pointer (some ⟨b, 0, none⟩), .int .i64 n] w fun e w' => e = .returned (.int .i64 0) ∧ Lay P w0 w' b hb (S.formed n) := by
  obtain ⟨mb, pb, hs, hB⟩ := L.at'
  exact (format_ok S b mb hb pb w hs n h4 hn).mono fun e w' ⟨he, hg, hs'⟩ => ⟨he, Lay.write L.keep L.dom hB hg hs'⟩

set_option maxHeartbeats 1000000 in
theorem make_bad (p : Value) (kind : Int) (w : World) (h : kind < 1 ∨ 3 < kind) :
    Calls Try.prog 40 #[p, .int .i64 kind] w fun e w' => e = .returned (.tuple #[.int .i64 0, .int .i64 1]) ∧ w = w' := by
  by_cases h1 : kind < 1
  · clear h
    go_enter Try.func40, Try.ntmps40
    go_wp2_with fail
    go_ret2
    exact ⟨rfl, rfl⟩
  · have h2 : 3 < kind := by omega
    clear h
    go_enter Try.func40, Try.ntmps40
    go_wp2_with fail
    go_ret2
    exact ⟨rfl, rfl⟩
set_option maxHeartbeats 1000000 in
theorem format_nil (n : Int) (w : World) :
    Calls Try.prog 38 #[.pointer none, .int .i64 n] w fun e w' => e = .returned (.int .i64 1) ∧ w = w' := by
  go_enter Try.func38, Try.ntmps38
  go_wp2_with fail
  go_ret
  exact ⟨rfl, rfl⟩

/-- stage.New over stage.Memory's shelf -/
theorem new_lay (hb pb : Nat) (l : List Pg) (w0 w : World) (hB : Below w0.heap.size w0 w) (h : ShelfAt w hb pb l) (h1 : w0.heap.size ≤ hb) (h2 : w0.heap.size ≤ pb) :
    Calls Try.prog 37 #[.iface 69 (.pointer (some ⟨hb, 0, none⟩))] w fun e w' => ∃ b, e = .returned (.pointer (some ⟨b, 0, none⟩)) ∧ Lay (· < w0.heap.size) w0 w' b hb ⟨l, []⟩ :=
  (new_any hb pb l w h).mono fun e w' ⟨b, mb, he, hb', h3, h4, hs⟩ => by
    have := hB.size
    exact ⟨b, he, Keep.of_below (hB.trans (hb'.mono hB.size)) (fun _ h => h), fun _ h => h, mb, pb, hs, by omega, by omega, by omega, by omega⟩
end
end Go.Proofs.Ytljommhbhpappaa
