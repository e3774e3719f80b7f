/-
  Layers 1 and 5: octet.Text; a leaf's cell, an inner node's cell, an inner cell's child.
-/
import Derived.Test.YtljommhbhpappaaNode2
import Derived.Test.YtljommhbhpappaaBOrd
namespace Go.Proofs.Ytljommhbhpappaa
open Go.RowKit Go.Joins
set_option linter.unusedVariables false
set_option linter.unusedSimpArgs false

set_option maxHeartbeats 2000000 in
theorem otext (k : ByteArray) (hk : k.size < 256) (w : World) :
    Calls Try.prog 103 #[.string k] w fun e w' => e = .returned (.tuple #[.string (tx k), .int .i64 0]) ∧ Below w.heap.size w w' := by
  have hcv : ∀ (x0 : Int) (w : World), (convert 106 9 (.slice (some ⟨w.heap.size, 0, none⟩) 1 1)).run Try.prog (w.alloc (.cells #[.int .u8 x0] 5)) = .ok (.string ⟨#[UInt8.ofNat x0.toNat]⟩) (w.alloc (.cells #[.int .u8 x0] 5)) := by
    intro x0 w
    refine run_convert_bytes_arg _ 106 5 Try.underlying106 Try.underlying5 w.heap.size 0 1 1 [x0] rfl ?_ 9 Try.underlying9
    intro i hi
    rw [World.cell?_alloc_mark]
    rcases i with _ | i
    all_goals first | rfl | omega
  have h1 : decide ((255 : Int) < (k.size : Int)) = false := by simp; omega
  have h2 : IntKind.u8.wrap (k.size : Int) = (k.size : Int) := by rw [IntKind.wrap_u8]; omega
  go_enter Try.func103, Try.ntmps103
  go_wp2
  go_ret2
  exact ⟨rfl, (Below.refl _ _).alloc (Nat.le_refl _) _⟩

theorem infoCell3 : (Try.prog.info? 84).map (·.size) = some 2 := by kernel_rfl
/-- the end of a function that hands back a cell and a number -/
theorem ret_cell1 {fn : Func} {R : Ending → World → Prop} {a : Act} {w : World} {pt u : Tmp} (h : fn.results = #[.cell pt 84, .tmp u]) (hd : a.defers = []) (n : Nat) (x : Int) (y : ByteArray) (hp : a.tmps.getD pt undef = .pointer (some ⟨n, 0, none⟩)) (hr : rowAt w n = some #[.int .i64 x, .string y])
    (hR : R (.returned (.tuple #[.agg #[.int .i64 x, .string y], a.tmps.getD u undef])) w) : bodyPost Try.prog fn R .ret a w := by
  obtain ⟨t, ht⟩ := rowAt_heap hr
  have c0 := cell_row hr 0
  have c1 := cell_row hr 1
  refine bodyPost_ret ?_ hd hR
  rw [results_cell_tmp h, hp]
  have hl : (loadVar 84 ⟨n, 0, none⟩).run Try.prog w = .ok (.agg #[.int .i64 x, .string y]) w := by
    simp only [List.getElem?_toArray, List.getElem?_cons_succ, List.getElem?_cons_zero] at c0 c1
    simp [go_sem, c0, c1]
  simp only [asAddr, Sem.run_pure, Result.andThen_ok, hl]

set_option maxHeartbeats 2000000 in
/-- a leaf's cell -/
theorem nleaf_ok (k v : ByteArray) (st : Int) (hk0 : k ≠ ByteArray.empty) (hk : k.size ≤ 8) (hv : v.size ≤ 20) (hst : st = 1 ∨ st = 2) (w : World) :
    Calls Try.prog 78 #[.string k, .string v, .int .i64 st] w fun e w' => e = .returned (.tuple #[.agg #[.int .i64 st, .string (tx k ++ v)], .int .i64 0]) ∧ Below w.heap.size w w' := by
  have h1 : decide ((8 : Int) < (k.size : Int)) = false := by simp; omega
  have h2 : decide ((20 : Int) < (v.size : Int)) = false := by simp; omega
  have h3 := sem_f hk0
  have HT := Lib.hid (fun w' => otext k (by omega) w')
  have hts : ¬ 9223372036854775807 < (tx k).size + v.size := by rw [tx_size]; omega
  generalize tx k = t at *
  rcases hst with rfl | rfl
  all_goals
    go_enter Try.func78, Try.ntmps78
    go_wp2_with fail
    refine (HT.out _).mono ?_; rintro e w1 ⟨rfl, hb1⟩
    have R1 := (rowAt_below hb1 (by simp)).trans (rowAt_at w #[.int .i64 0, .string ⟨#[]⟩] 84 _ rfl)
    have hz1 := hb1.size
    rw [World.size_alloc] at hz1
    have B1 : Hid (Below w.heap.size w w1) := Lib.hid (((Below.refl _ _).alloc (Nat.le_refl _) _).trans (hb1.mono (by go_size)))
    have c0 := cell_row R1 0
    have c1 := cell_row R1 1
    have f0 := frozen_row R1 0
    have f1 := frozen_row R1 1
    simp only [List.getElem?_toArray, List.getElem?_cons_succ, List.getElem?_cons_zero] at c0 c1
    have R1' := Lib.hid R1
    clear hb1 R1
    go_wp2_with fail
    exact ret_cell1 rfl rfl w.heap.size _ (t ++ v) rfl (rowAt_setCell_here _ _ 1 _ _ (rowAt_setCell_here _ _ 0 _ _ R1'.out)) ⟨rfl, below_setCell (below_setCell B1.out _ _ (Nat.le_refl _)) _ _ (Nat.le_refl _)⟩

theorem le4_size (n : Int) : (le4 n).size = 4 := rfl
set_option maxHeartbeats 2000000 in
/-- an inner node's cell -/
theorem ninner_ok (k : ByteArray) (c : Int) (hk : k.size ≤ 8) (h1 : 1 ≤ c) (h2 : c < 1024) (w : World) :
    Calls Try.prog 107 #[.string k, .int .i64 c] w fun e w' => e = .returned (.tuple #[.agg #[.int .i64 1, .string (tx k ++ le4 c)], .int .i64 0]) ∧ Below w.heap.size w w' := by
  have h3 : decide ((8 : Int) < (k.size : Int)) = false := by simp; omega
  have h4 : decide (c < 1) = false := by simp; omega
  have h5 : decide (1024 ≤ c) = false := by simp; omega
  have h6 : IntKind.u64.wrap c = c := by rw [IntKind.wrap_u64]; omega
  have HT := Lib.hid (fun w' => otext k (by omega) w')
  have HN := Lib.hid (fun w' => num4 c w' (by omega) (by omega))
  have hts : ¬ 9223372036854775807 < (tx k).size + (le4 c).size := by rw [tx_size, le4_size]; omega
  generalize tx k = t at *
  generalize le4 c = v at *
  go_enter Try.func107, Try.ntmps107
  go_wp2_with fail
  refine (HT.out _).mono ?_; rintro e w1 ⟨rfl, hb1⟩
  have R1 := (rowAt_below hb1 (by simp)).trans (rowAt_at w #[.int .i64 0, .string ⟨#[]⟩] 84 _ rfl)
  have hz1 := hb1.size
  rw [World.size_alloc] at hz1
  have B1 : Hid (Below w.heap.size w w1) := Lib.hid (((Below.refl _ _).alloc (Nat.le_refl _) _).trans (hb1.mono (by go_size)))
  have R1' := Lib.hid R1
  clear hb1 R1
  go_wp2_with fail
  refine (HN.out _).mono ?_; rintro e w2 ⟨rfl, hb2⟩
  have R2 := (rowAt_below hb2 (by omega)).trans R1'.out
  have B2 : Hid (Below w.heap.size w w2) := Lib.hid (B1.out.trans (hb2.mono (by omega)))
  have c0 := cell_row R2 0
  have c1 := cell_row R2 1
  have f0 := frozen_row R2 0
  have f1 := frozen_row R2 1
  simp only [List.getElem?_toArray, List.getElem?_cons_succ, List.getElem?_cons_zero] at c0 c1
  have R2' := Lib.hid R2
  clear hb2 R2
  go_wp2_with fail
  exact ret_cell1 rfl rfl w.heap.size _ (t ++ v) rfl (rowAt_setCell_here _ _ 1 _ _ (rowAt_setCell_here _ _ 0 _ _ R2'.out)) ⟨rfl, below_setCell (below_setCell B2.out _ _ (Nat.le_refl _)) _ _ (Nat.le_refl _)⟩

theorem le4_val (c : Int) (h1 : 0 ≤ c) (h2 : c < 4294967296) : ∃ b0 b1 b2 b3 : UInt8, le4 c = ⟨#[b0, b1, b2, b3]⟩ ∧ ((b0.toNat + 256 * b1.toNat + 65536 * b2.toNat + 16777216 * b3.toNat : Nat) : Int) = c := by
  refine ⟨UInt8.ofNat (c % 256).toNat, UInt8.ofNat (c / 256 % 256).toNat, UInt8.ofNat (c / 65536 % 256).toNat, UInt8.ofNat (c / 16777216).toNat, rfl, ?_⟩
  simp only [UInt8.toNat_ofNat']
  omega
theorem val_le4 (c : Int) (h1 : 0 ≤ c) (h2 : c < 4294967296) (w : World) :
    Calls Try.prog 113 #[.string (le4 c)] w fun e w' => e = .returned (.tuple #[.int .u64 c, .int .i64 0]) ∧ Below w.heap.size w w' := by
  obtain ⟨b0, b1, b2, b3, e1, e2⟩ := le4_val c h1 h2
  have := val4 b0 b1 b2 b3 w
  rw [e2] at this
  rw [e1]
  exact this

set_option maxHeartbeats 2000000 in
/-- an inner cell's child -/
theorem nchild_ok (st : Int) (k : ByteArray) (c : Int) (hst : st ≠ 0) (hk : k.size ≤ 8) (h1 : 1 ≤ c) (h2 : c < 1024) (w : World) :
    Calls Try.prog 104 #[.agg #[.int .i64 st, .string (tx k ++ le4 c)]] w fun e w' => e = .returned (.int .i64 c) ∧ Below w.heap.size w w' := by
  have HK := Lib.hid (fun w' => key_ok st k (le4 c) hst hk (by rw [le4_size]; omega) w')
  have HV := Lib.hid (fun w' => val_le4 c (by omega) (by omega) w')
  have h3 : (le4 c).size = 4 := le4_size c
  have h4 : decide (c < 1) = false := by simp; omega
  have h5 : decide (1024 ≤ c) = false := by simp; omega
  have h6 : IntKind.i64.wrap c = c := by rw [IntKind.wrap_i64]; omega
  generalize le4 c = v at *
  generalize tx k ++ v = d at *
  go_enter Try.func104, Try.ntmps104
  go_wp2_with fail
  refine (HK.out _).mono ?_; rintro e w1 ⟨rfl, hb1⟩
  have hz1 := hb1.size
  rw [World.size_alloc] at hz1
  have B1 : Hid (Below w.heap.size w w1) := Lib.hid (((Below.refl _ _).alloc (Nat.le_refl _) _).trans (hb1.mono (by go_size)))
  clear hb1
  go_wp2_with fail
  refine (HV.out _).mono ?_; rintro e w2 ⟨rfl, hb2⟩
  have B2 : Hid (Below w.heap.size w w2) := Lib.hid (B1.out.trans (hb2.mono (by omega)))
  clear hb2
  go_wp2_with fail
  go_ret
  exact ⟨rfl, B2.out⟩
end Go.Proofs.Ytljommhbhpappaa
