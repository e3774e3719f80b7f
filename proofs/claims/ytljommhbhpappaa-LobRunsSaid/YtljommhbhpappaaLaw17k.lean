/-
  Layer 17 (lob): the walk of LobKeys.
-/
import Derived.Test.YtljommhbhpappaaLob4
namespace Go.Proofs.Ytljommhbhpappaa
open Go.RowKit Go.Joins
set_option linter.unusedVariables false
set_option linter.unusedSimpArgs false

theorem i64_and255 (a : Nat) (ha : a < 65536) : bits .and .i64 (a : Int) 255 = ((a % 256 : Nat) : Int) := by
  have h255 : a &&& 255 = a % 256 := Nat.and_two_pow_sub_one_eq_mod a 8
  show IntKind.i64.wrap ((BitVec.ofInt 64 (a : Int) &&& BitVec.ofInt 64 ((255 : Nat) : Int)).toNat : Int) = _
  rw [BitVec.toNat_and, ofInt_u64 a (by omega), ofInt_u64 255 (by omega), h255, IntKind.wrap_i64]
  omega
theorem i64_and255' (a : Int) (h0 : 0 ≤ a) (ha : a < 65536) : bits .and .i64 a 255 = a % 256 := by
  obtain ⟨A, rfl⟩ := Int.eq_ofNat_of_zero_le h0
  rw [i64_and255 A (by omega)]
  omega
theorem run_min4 (ts : Array TypeId) (t : TypeId) (x y z u : Int) : ∃ m : Int, (∀ w : World, (Builtin.min_ ts t #[.int .i64 x, .int .i64 y, .int .i64 z, .int .i64 u]).run Try.prog w = .ok (.int .i64 m) w) ∧ (m < 0 ↔ x < 0 ∨ y < 0 ∨ z < 0 ∨ u < 0) := by
  refine ⟨if u < (if z < (if y < x then y else x) then z else (if y < x then y else x)) then u else (if z < (if y < x then y else x) then z else (if y < x then y else x)), fun w => by simp [Builtin.min_, Builtin.min2], ?_⟩
  by_cases h1 : y < x
  · rw [if_pos h1]
    by_cases h2 : z < y
    · rw [if_pos h2]
      by_cases h3 : u < z
      · rw [if_pos h3]; omega
      · rw [if_neg h3]; omega
    · rw [if_neg h2]
      by_cases h3 : u < y
      · rw [if_pos h3]; omega
      · rw [if_neg h3]; omega
  · rw [if_neg h1]
    by_cases h2 : z < x
    · rw [if_pos h2]
      by_cases h3 : u < z
      · rw [if_pos h3]; omega
      · rw [if_neg h3]; omega
    · rw [if_neg h2]
      by_cases h3 : u < x
      · rw [if_pos h3]; omega
      · rw [if_neg h3]; omega
theorem run_max4 (ts : Array TypeId) (t : TypeId) (x y z u : Int) : ∃ m : Int, (∀ w : World, (Builtin.max_ ts t #[.int .i64 x, .int .i64 y, .int .i64 z, .int .i64 u]).run Try.prog w = .ok (.int .i64 m) w) ∧ (65535 < m ↔ 65535 < x ∨ 65535 < y ∨ 65535 < z ∨ 65535 < u) := by
  refine ⟨if u > (if z > (if y > x then y else x) then z else (if y > x then y else x)) then u else (if z > (if y > x then y else x) then z else (if y > x then y else x)), fun w => by simp [Builtin.max_, Builtin.max2], ?_⟩
  by_cases h1 : y > x
  · rw [if_pos h1]
    by_cases h2 : z > y
    · rw [if_pos h2]
      by_cases h3 : u > z
      · rw [if_pos h3]; omega
      · rw [if_neg h3]; omega
    · rw [if_neg h2]
      by_cases h3 : u > y
      · rw [if_pos h3]; omega
      · rw [if_neg h3]; omega
  · rw [if_neg h1]
    by_cases h2 : z > x
    · rw [if_pos h2]
      by_cases h3 : u > z
      · rw [if_pos h3]; omega
      · rw [if_neg h3]; omega
    · rw [if_neg h2]
      by_cases h3 : u > x
      · rw [if_pos h3]; omega
      · rw [if_neg h3]; omega

set_option maxHeartbeats 2000000 in
theorem rkey_any (n p : Int) (hn : 0 ≤ n ∧ n ≤ 65535) (hp : 0 ≤ p ∧ p ≤ 65535) (w : World) :
    Calls Try.prog 16 #[.int .i64 n, .int .i64 p] w fun e w' => e = .returned (.string (key4 n p)) ∧ Below w.heap.size w w' := by
  have hcv : ∀ (x0 x1 x2 x3 : Int) (w : World), (convert 106 9 (.slice (some ⟨w.heap.size, 0, none⟩) 4 4)).run Try.prog (w.alloc (.cells #[.int .u8 x0, .int .u8 x1, .int .u8 x2, .int .u8 x3] 5)) = .ok (.string ⟨#[UInt8.ofNat x0.toNat, UInt8.ofNat x1.toNat, UInt8.ofNat x2.toNat, UInt8.ofNat x3.toNat]⟩) (w.alloc (.cells #[.int .u8 x0, .int .u8 x1, .int .u8 x2, .int .u8 x3] 5)) := by
    intro x0 x1 x2 x3 w
    refine run_convert_bytes_arg _ 106 5 Try.underlying106 Try.underlying5 w.heap.size 0 4 4 [x0, x1, x2, x3] rfl ?_ 9 Try.underlying9
    intro i hi
    rw [World.cell?_alloc_mark]
    rcases i with _ | _ | _ | _ | i
    all_goals first | rfl | omega
  go_enter Try.func16, Try.ntmps16
  go_wp2
  go_ret
  refine ⟨?_, (Below.refl _ _).alloc (Nat.le_refl _) _⟩
  have e1 := i64_and255' (n / 256) (by omega) (by omega)
  have e2 := i64_and255' n (by omega) (by omega)
  have e3 := i64_and255' (p / 256) (by omega) (by omega)
  have e4 := i64_and255' p (by omega) (by omega)
  have hk : key4 n p = ⟨#[UInt8.ofNat (bits BinOp.and IntKind.i64 (n / 256) 255 % 256).toNat, UInt8.ofNat (bits BinOp.and IntKind.i64 n 255 % 256).toNat, UInt8.ofNat (bits BinOp.and IntKind.i64 (p / 256) 255 % 256).toNat, UInt8.ofNat (bits BinOp.and IntKind.i64 p 255 % 256).toNat]⟩ := by
    rw [e1, e2, e3, e4]
    simp only [key4, b8, Int.emod_emod_of_dvd _ (Int.dvd_refl 256)]
  rw [hk]
  rfl

set_option maxHeartbeats 2000000 in
set_option maxRecDepth 100000 in
theorem keys_walk (a b i k : Int) (w : World) :
    Calls Try.prog 3 #[.agg #[.int .i64 a, .int .i64 b, .int .i64 i, .int .i64 k]] w fun e w' => e = .returned (.bool true) ∧ Below w.heap.size w w' := by
  have HA := Lib.hid (fun w' => awake17 w')
  have HK := Lib.hid (fun n p w' => lkey_any n p w')
  obtain ⟨mn, hmn, hmn0⟩ := run_min4 #[3, 3, 3, 3] 3 a b i k
  obtain ⟨mx, hmx, hmx0⟩ := run_max4 #[3, 3, 3, 3] 3 a b i k
  by_cases hbad : mn < 0 ∨ 65535 < mx
  · have HS : Hid ((key4 a i).size = 4) := Lib.hid (key4_size a i)
    generalize hky : key4 a i = ky at *
    have HKa : Hid (∀ w', Calls Try.prog 15 #[.int .i64 a, .int .i64 i] w' fun e w'' => e = .returned (.string ky) ∧ Below w'.heap.size w' w'') := Lib.hid (fun w' => by rw [← hky]; exact HK.out a i w')
    clear hky hmn0 hmx0
    go_enter Try.func3, Try.ntmps3
    go_wp2_with fail
    go_region
    go_wp2_with fail
    refine (HA.out _).mono ?_; rintro e w1 ⟨rfl, hb1⟩
    have B1 : Hid (Below w.heap.size w w1) := Lib.hid (((Below.refl _ _).alloc (Nat.le_refl _) _).drew.trans (hb1.mono (by simp)))
    clear hb1
    by_cases h0 : mn < 0
    · have h0i : decide (mn < 0) = true := by simp [h0]
      go_wp2_with fail
      refine (HKa.out _).mono ?_; rintro e w2 ⟨rfl, hb2⟩
      have B2 := Lib.hid (B1.out.trans (hb2.mono B1.out.size))
      have hs4 := HS.out
      clear hb2
      go_wp2_with fail
      go_ret
      exact ⟨rfl, B2.out⟩
    · have h0i : decide (mn < 0) = false := by simp [h0]
      have h1i : decide (65535 < mx) = true := by simp; omega
      go_wp2_with fail
      refine (HKa.out _).mono ?_; rintro e w2 ⟨rfl, hb2⟩
      have B2 := Lib.hid (B1.out.trans (hb2.mono B1.out.size))
      have hs4 := HS.out
      clear hb2
      go_wp2_with fail
      go_ret
      exact ⟨rfl, B2.out⟩
  · have h0i : decide (mn < 0) = false := by simp; omega
    have h1i : decide (65535 < mx) = false := by simp; omega
    have hall : (0 ≤ a ∧ a ≤ 65535) ∧ (0 ≤ i ∧ i ≤ 65535) ∧ (0 ≤ b ∧ b ≤ 65535) ∧ (0 ≤ k ∧ k ≤ 65535) := by omega
    have HRa := Lib.hid (fun w' => rkey_any a i hall.1 hall.2.1 w')
    have hless := key4_less a i b k hall.1 hall.2.1 hall.2.2.1 hall.2.2.2
    have HKa := Lib.hid (fun w' => HK.out a i w')
    have HKb := Lib.hid (fun w' => HK.out b k w')
    have HLs := Lib.hid hless
    generalize key4 a i = ky at *
    generalize key4 b k = kz at *
    clear hmn0 hmx0 hbad hless HK
    go_enter Try.func3, Try.ntmps3
    go_wp2_with fail
    go_region
    go_wp2_with fail
    refine (HA.out _).mono ?_; rintro e w1 ⟨rfl, hb1⟩
    have B1 : Hid (Below w.heap.size w w1) := Lib.hid (((Below.refl _ _).alloc (Nat.le_refl _) _).drew.trans (hb1.mono (by simp)))
    clear hb1
    go_wp2_with fail
    refine (HKa.out _).mono ?_; rintro e w2 ⟨rfl, hb2⟩
    have B2 := Lib.hid (B1.out.trans (hb2.mono B1.out.size))
    clear hb2
    go_wp2_with fail
    refine (HKb.out _).mono ?_; rintro e w3 ⟨rfl, hb3⟩
    have B3 := Lib.hid (B2.out.trans (hb3.mono B2.out.size))
    clear hb3
    go_wp2_with fail
    refine (HRa.out _).mono ?_; rintro e w4 ⟨rfl, hb4⟩
    have B4 := Lib.hid (B3.out.trans (hb4.mono B3.out.size))
    clear hb4
    have hself : (ky.toList == ky.toList) = true := by simp
    have hless := HLs.out
    by_cases c1 : a < b
    · have c1i : decide (a < b) = true := by simp [c1]
      have hl : Op.bytesLess ky.toList kz.toList = true := by rw [hless]; simp [c1]
      clear hless
      go_wp2_with fail
      go_ret
      exact ⟨rfl, B4.out⟩
    · have c1i : decide (a < b) = false := by simp [c1]
      by_cases c2 : a = b
      · subst c2
        by_cases c3 : i < k
        · have c3i : decide (i < k) = true := by simp [c3]
          have hl : Op.bytesLess ky.toList kz.toList = true := by rw [hless]; simp [c3]
          clear hless
          go_wp2_with fail
          go_ret
          exact ⟨rfl, B4.out⟩
        · have c3i : decide (i < k) = false := by simp [c3]
          have hl : Op.bytesLess ky.toList kz.toList = false := by rw [hless]; simp [c3]
          clear hless
          go_wp2_with fail
          go_ret
          exact ⟨rfl, B4.out⟩
      · have c2i : (a == b) = false := by simp [c2]
        have hl : Op.bytesLess ky.toList kz.toList = false := by rw [hless]; simp [c1, c2]
        clear hless
        go_wp2_with fail
        go_ret
        exact ⟨rfl, B4.out⟩
theorem keys_walk1 (a b i k : Int) (w : World) (_ : True) :
    Calls Try.prog 3 #[.agg #[.int .i64 a, .int .i64 b, .int .i64 i, .int .i64 k]] w fun e w' => e = .returned (.bool true) ∧ Below w.heap.size w w' := keys_walk a b i k w
end Go.Proofs.Ytljommhbhpappaa
