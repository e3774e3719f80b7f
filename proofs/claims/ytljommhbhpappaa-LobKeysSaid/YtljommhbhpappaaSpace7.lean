/-
  Layer 14 (space): the contract of Format.
-/
import Derived.Test.YtljommhbhpappaaSpace6
namespace Go.Proofs.Ytljommhbhpappaa
open Go.RowKit Go.Joins
set_option linter.unusedVariables false
set_option linter.unusedSimpArgs false

/-- thirty-four bytes, all nought -/
def z34 : ByteArray := ⟨Array.replicate 34 0⟩
/-- the map before anything is taken -/
def mapZ (n : Int) (z : ByteArray) : Pg := { k := 2, n := n, a0 := 1, d0 := z, a1 := 1, d1 := z, a2 := 1, d2 := z, a3 := 1, d3 := z, a4 := 1, d4 := z, a5 := 1, d5 := z }
def mapPg (n : Int) : Pg := mapZ n z34
theorem mapPg_sz (n : Int) (i : Nat) (h : i < 6) : ((mapPg n).d i).size = 34 := by
  have h6 : i = 0 ∨ i = 1 ∨ i = 2 ∨ i = 3 ∨ i = 4 ∨ i = 5 := by omega
  rcases h6 with rfl | rfl | rfl | rfl | rfl | rfl <;> rfl
theorem mapPg_ok (n : Int) (h0 : 0 ≤ n) (h1 : n < 1024) : okPg (mapPg n) = true := by
  refine okPg_of ?_ fun i hi => ?_
  · simp only [okH, Bool.and_eq_true, decide_eq_true_eq]
    exact ⟨⟨⟨⟨⟨⟨⟨by show (0 : Int) ≤ 2; omega, by show (2 : Int) ≤ 4; omega⟩, by show (0 : Int) ≤ 0; omega⟩, by show (0 : Int) ≤ 255; omega⟩, by show (0 : Int) ≤ 0; omega⟩, by show (0 : Int) ≤ 65535; omega⟩, h0⟩, h1⟩
  · have e := mapPg_sz n i hi
    have ea : (mapPg n).a i = 1 := by
      have h6 : i = 0 ∨ i = 1 ∨ i = 2 ∨ i = 3 ∨ i = 4 ∨ i = 5 := by omega
      rcases h6 with rfl | rfl | rfl | rfl | rfl | rfl <;> rfl
    simp [okC, ea, e]
theorem okDir : okPg { k := 1 } = true := okPg_of rfl (fun i hi => by
  have h6 : i = 0 ∨ i = 1 ∨ i = 2 ∨ i = 3 ∨ i = 4 ∨ i = 5 := by omega
  rcases h6 with rfl | rfl | rfl | rfl | rfl | rfl <;> exact okC00)

theorem z34_back (w : World) (n : Nat) (hn : n = w.heap.size) : (convert 106 9 (.slice (some ⟨n, 0, none⟩) 34 34)).run Try.prog (w.alloc (.cells (Array.replicate 34 (.int .u8 0)) 5)) = .ok (.string z34) (w.alloc (.cells (Array.replicate 34 (.int .u8 0)) 5)) := by
  subst hn
  refine back_of ?_ rfl 34
  intro i hi
  have h34 : i < 34 := hi
  rw [World.cell?_alloc_mark, Nat.zero_add]
  have e : z34[i]'hi = 0 := Array.getElem_replicate ..
  rw [e]
  simp [h34]
theorem mk34 (w : World) : (Instr.makeSlice 106 (.int .i64 34) (.int .i64 34)).run Try.prog w = .ok (.slice (some ⟨w.heap.size, 0, none⟩) 34 34) (w.alloc (.cells (Array.replicate 34 (.int .u8 0)) 5)) := by kernel_rfl

theorem fA0 (p : Pg) (x : Int) : p.cs.setIfInBounds 4 (.int .i64 x) = (p.setA 0 x).cs := rfl
theorem fD0 (p : Pg) (x : ByteArray) : p.cs.setIfInBounds 5 (.string x) = (p.setD 0 x).cs := rfl
theorem fA1 (p : Pg) (x : Int) : p.cs.setIfInBounds 6 (.int .i64 x) = (p.setA 1 x).cs := rfl
theorem fD1 (p : Pg) (x : ByteArray) : p.cs.setIfInBounds 7 (.string x) = (p.setD 1 x).cs := rfl
theorem fA2 (p : Pg) (x : Int) : p.cs.setIfInBounds 8 (.int .i64 x) = (p.setA 2 x).cs := rfl
theorem fD2 (p : Pg) (x : ByteArray) : p.cs.setIfInBounds 9 (.string x) = (p.setD 2 x).cs := rfl
theorem fA3 (p : Pg) (x : Int) : p.cs.setIfInBounds 10 (.int .i64 x) = (p.setA 3 x).cs := rfl
theorem fD3 (p : Pg) (x : ByteArray) : p.cs.setIfInBounds 11 (.string x) = (p.setD 3 x).cs := rfl
theorem fA4 (p : Pg) (x : Int) : p.cs.setIfInBounds 12 (.int .i64 x) = (p.setA 4 x).cs := rfl
theorem fD4 (p : Pg) (x : ByteArray) : p.cs.setIfInBounds 13 (.string x) = (p.setD 4 x).cs := rfl
theorem fA5 (p : Pg) (x : Int) : p.cs.setIfInBounds 14 (.int .i64 x) = (p.setA 5 x).cs := rfl
theorem fD5 (p : Pg) (x : ByteArray) : p.cs.setIfInBounds 15 (.string x) = (p.setD 5 x).cs := rfl

set_option maxHeartbeats 4000000 in
set_option maxRecDepth 100000 in
theorem format_ok (S : Vol) (b mb hb pb : Nat) (w : World) (hs : StageAt w b mb hb pb S) (n : Nat) (h4 : 4 ≤ n) (hn : n ≤ 1024) :
    Calls Try.prog 38 #[.pointer (some ⟨b, 0, none⟩), .int .i64 n] w fun e w' => e = .returned (.int .i64 0) ∧ w.grownBy w' (some mb) ∧ StageAt w' b mb hb pb ((S.put 0 { k := 1 }).put 1 (markPg (markPg (mapPg ((n : Int) - 1)) 0 true) 1 true)) := by
  have k4 : (4 : Int) ≤ (n : Int) := by omega
  have k5 : (n : Int) ≤ 1024 := by omega
  have HM0 := Lib.hid (fun w => mark_any (mapPg ((n : Int) - 1)) 0 true (by omega) (mapPg_sz _ _ (by omega)) w)
  have HM1 := Lib.hid (fun w => mark_any (markPg (mapPg ((n : Int) - 1)) 0 true) 1 true (by omega) (mark_sz _ _ _ (by omega) (mapPg_sz _) _ (by omega)) w)
  have hokm : okPg (markPg (markPg (mapPg ((n : Int) - 1)) 0 true) 1 true) = true := mark_ok _ 1 true (by omega) (mark_sz _ _ _ (by omega) (mapPg_sz _)) (mark_ok _ 0 true (by omega) (mapPg_sz _) (mapPg_ok _ (by omega) (by omega)))
  have HO := Lib.hid (okSet_one hokm 1 (by omega) (by omega))
  generalize markPg (markPg (mapPg ((n : Int) - 1)) 0 true) 1 true = m2 at *
  generalize markPg (mapPg ((n : Int) - 1)) 0 true = m1 at *
  have hmap : mapPg ((n : Int) - 1) = mapZ ((n : Int) - 1) z34 := rfl
  rw [hmap] at HM0
  clear hmap hokm
  have hmk := mk34
  have hbk := z34_back
  generalize hzz : z34 = zz at *
  generalize Array.replicate 34 (Value.int .u8 0) = rz at *
  have HZ := Lib.hid hzz
  clear hzz
  have gA0 := fA0
  have gD0 := fD0
  have gA1 := fA1
  have gD1 := fD1
  have gA2 := fA2
  have gD2 := fD2
  have gA3 := fA3
  have gD3 := fD3
  have gA4 := fA4
  have gD4 := fD4
  have gA5 := fA5
  have gD5 := fD5
  obtain ⟨l1, l2, l3, l4⟩ := hs.lt
  have HS := Lib.hid hs
  clear hs
  go_enter Try.func38, Try.ntmps38
  go_wp2_with fail
  refine wp_loop_rounds 7 ?_
  rw [rounds_succ]
  go_wp2_with fail
  rw [rounds_succ]
  go_wp2_with fail
  rw [rounds_succ]
  go_wp2_with fail
  rw [rounds_succ]
  go_wp2_with fail
  rw [rounds_succ]
  go_wp2_with fail
  rw [rounds_succ]
  go_wp2_with fail
  rw [rounds_succ]
  go_wp2_with fail
  have Ball := (((((((Below.refl w.heap.size w).alloc (Nat.le_refl _) (.cells (((((((((((((Pg.setA { k := 2, n := (n : Int) - 1 } 0 1).setD 0 zz).setA 1 1).setD 1 zz).setA 2 1).setD 2 zz).setA 3 1).setD 3 zz).setA 4 1).setD 4 zz).setA 5 1).setD 5 zz).cs) 112)).alloc (by go_size) (.cells rz 5)).alloc (by go_size) (.cells rz 5)).alloc (by go_size) (.cells rz 5)).alloc (by go_size) (.cells rz 5)).alloc (by go_size) (.cells rz 5)).alloc (by go_size) (.cells rz 5)
  refine (set_any S b mb hb pb 0 { k := 1 } _ (HS.out.below Ball ⟨l1, l2, l3, l4⟩)).mono ?_; rintro e w2 ⟨rfl, hg2, hs2⟩
  rw [okSet_one okDir 0 (by omega) (by omega)] at hs2 ⊢
  have e0 : chkE true = 0 := rfl
  rw [e0]
  simp only [if_true] at hs2
  have R2 : rowAt w2 w.heap.size = some (mapZ ((n : Int) - 1) zz).cs := (rowAt_grown hg2 (by go_size) (by omega)).trans (by simp [go_sem]; rfl)
  have hz2 := hg2.size
  have G2 := Lib.hid ((grown_of_below Ball (some mb)).trans hg2)
  have HS2 := Lib.hid hs2
  clear hg2 hs2 Ball
  go_wp2_with fail
  refine (HM0.out _).mono ?_; rintro e w3 ⟨rfl, hb3⟩
  have hz3 := hb3.size
  go_wp2_with fail
  refine (HM1.out _).mono ?_; rintro e w4 ⟨rfl, hb4⟩
  go_wp2_with fail
  have B4 : Below w2.heap.size w2 w4 := hb3.trans (hb4.mono hz3)
  refine (set_any _ b mb hb pb 1 m2 _ (HS2.out.below B4 HS2.out.lt)).mono ?_; rintro e w5 ⟨rfl, hg5, hs5⟩
  rw [HO.out] at hs5 ⊢
  rw [e0]
  simp only [if_true] at hs5
  go_wp2_with fail
  go_ret
  exact ⟨rfl, (G2.out.trans (grown_of_below B4 _)).trans hg5, hs5⟩
end Go.Proofs.Ytljommhbhpappaa
