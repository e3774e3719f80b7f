/-
  Layer 1 (octet): a reader over the five bytes of a store's cell: the contracts of Val, Reader.Bytes and Reader.Num.
-/
import Derived.Test.YtljommhbhpappaaOctet14
import Derived.Laws.BitsAllLaws
namespace Go.Proofs.Ytljommhbhpappaa
open Go.RowKit Go.Joins
set_option linter.unusedVariables false
set_option linter.unusedSimpArgs false

theorem or_mul (a b i m : Nat) (hm : m = 2 ^ i) (h : a < m) : a ||| (b * m) = b * m + a := by
  subst hm
  rw [Nat.or_comm, ← Nat.shiftLeft_eq, Nat.shiftLeft_add_eq_or_of_lt h]
theorem wrap_nat (n : Nat) (h : n < 18446744073709551616) : IntKind.u64.wrap (n : Int) = n := by
  rw [IntKind.wrap_u64]
  omega
theorem le_one (n0 : Nat) (h0 : n0 < 256) : bits .or .u64 0 (IntKind.u64.wrap (IntKind.u64.wrap (n0 : Int))) = n0 := by
  rw [wrap_nat n0 (by omega), wrap_nat n0 (by omega), show (0 : Int) = ((0 : Nat) : Int) from rfl, u64_or_nat 0 n0 (by omega) (by omega), Nat.zero_or]
theorem le_sum (n0 n1 n2 n3 : Nat) (h0 : n0 < 256) (h1 : n1 < 256) (h2 : n2 < 256) (h3 : n3 < 256) :
    bits .or .u64 (bits .or .u64 (bits .or .u64 (bits .or .u64 0 (IntKind.u64.wrap (IntKind.u64.wrap (n0 : Int)))) (IntKind.u64.wrap (IntKind.u64.wrap (n1 : Int) * 256))) (IntKind.u64.wrap (IntKind.u64.wrap (n2 : Int) * 65536))) (IntKind.u64.wrap (IntKind.u64.wrap (n3 : Int) * 16777216)) = ((n0 + 256 * n1 + 65536 * n2 + 16777216 * n3 : Nat) : Int) := by
  rw [le_one n0 h0, wrap_nat n1 (by omega), wrap_nat n2 (by omega), wrap_nat n3 (by omega), show ((n1 : Int) * 256) = ((n1 * 256 : Nat) : Int) by omega, show ((n2 : Int) * 65536) = ((n2 * 65536 : Nat) : Int) by omega, show ((n3 : Int) * 16777216) = ((n3 * 16777216 : Nat) : Int) by omega, wrap_nat _ (by omega), wrap_nat _ (by omega), wrap_nat _ (by omega),
    u64_or_nat n0 (n1 * 256) (by omega) (by omega), or_mul n0 n1 8 256 (by decide) (by omega), u64_or_nat _ (n2 * 65536) (by omega) (by omega), or_mul _ n2 16 65536 (by decide) (by omega), u64_or_nat _ (n3 * 16777216) (by omega) (by omega), or_mul _ n3 24 16777216 (by decide) (by omega)]
  omega

set_option maxHeartbeats 1000000 in
theorem val1 (b0 : UInt8) (w : World) :
    Calls Try.prog 113 #[.string ⟨#[b0]⟩] w fun e w' => e = .returned (.tuple #[.int .u64 b0.toNat, .int .i64 0]) ∧ Below w.heap.size w w' := by
  go_enter Try.func113, Try.ntmps113
  go_wp2
  refine wp_loop_rounds 2 ?_
  rw [rounds_succ]
  go_wp2
  rw [rounds_succ]
  go_wp2
  go_ret2
  exact ⟨congrArg (fun x => Ending.returned (.tuple #[.int .u64 x, .int .i64 0])) (le_one _ b0.toNat_lt), Below.refl _ _⟩

set_option maxHeartbeats 1000000 in
theorem val4 (b0 b1 b2 b3 : UInt8) (w : World) :
    Calls Try.prog 113 #[.string ⟨#[b0, b1, b2, b3]⟩] w fun e w' => e = .returned (.tuple #[.int .u64 (b0.toNat + 256 * b1.toNat + 65536 * b2.toNat + 16777216 * b3.toNat : Nat), .int .i64 0]) ∧ Below w.heap.size w w' := by
  go_enter Try.func113, Try.ntmps113
  go_wp2
  refine wp_loop_rounds 5 ?_
  rw [rounds_succ]
  go_wp2
  rw [rounds_succ]
  go_wp2
  rw [rounds_succ]
  go_wp2
  rw [rounds_succ]
  go_wp2
  rw [rounds_succ]
  go_wp2
  go_ret2
  exact ⟨congrArg (fun x => Ending.returned (.tuple #[.int .u64 x, .int .i64 0])) (le_sum _ _ _ _ b0.toNat_lt b1.toNat_lt b2.toNat_lt b3.toNat_lt), Below.refl _ _⟩

/-- the five bytes of a store's cell -/
def five (b0 b1 b2 b3 b4 : UInt8) : ByteArray := ⟨#[b0, b1, b2, b3, b4]⟩
def four (b1 b2 b3 b4 : UInt8) : ByteArray := ⟨#[b1, b2, b3, b4]⟩
def one (b0 : UInt8) : ByteArray := ⟨#[b0]⟩

set_option maxHeartbeats 2000000 in
theorem bytes1 (b0 b1 b2 b3 b4 : UInt8) (w : World) (n : Nat) (h : w.heap[n]? = some (.cells #[.string (five b0 b1 b2 b3 b4), .bool false] 197)) :
    Calls Try.prog 112 #[.pointer (some ⟨n, 0, none⟩), .int .i64 1] w fun e w' => e = .returned (.string (one b0)) ∧ w' = w.setCell ⟨n, 0, none⟩ (.string (four b1 b2 b3 b4)) := by
  have c0 := cell_of_block h 0
  have c1 := cell_of_block h 1
  simp only [List.getElem?_toArray, List.getElem?_cons_succ, List.getElem?_cons_zero] at c0 c1
  have f0 : w.frozen? ⟨n, 0, none⟩ = false := by simp [World.frozen?, h]
  have hsz : (five b0 b1 b2 b3 b4).size = 5 := rfl
  clear h
  go_enter Try.func112, Try.ntmps112
  go_wp2
  go_ret
  have e1 : (five b0 b1 b2 b3 b4).extract 0 1 = one b0 := rfl
  have e2 : (five b0 b1 b2 b3 b4).extract 1 5 = four b1 b2 b3 b4 := rfl
  exact ⟨congrArg (fun x => Ending.returned (.string x)) e1, by rw [e2]⟩

set_option maxHeartbeats 2000000 in
theorem bytes4 (b1 b2 b3 b4 : UInt8) (w : World) (n : Nat) (h : w.heap[n]? = some (.cells #[.string (four b1 b2 b3 b4), .bool false] 197)) :
    Calls Try.prog 112 #[.pointer (some ⟨n, 0, none⟩), .int .i64 4] w fun e w' => e = .returned (.string (four b1 b2 b3 b4)) ∧ w' = w.setCell ⟨n, 0, none⟩ (.string ByteArray.empty) := by
  have c0 := cell_of_block h 0
  have c1 := cell_of_block h 1
  simp only [List.getElem?_toArray, List.getElem?_cons_succ, List.getElem?_cons_zero] at c0 c1
  have f0 : w.frozen? ⟨n, 0, none⟩ = false := by simp [World.frozen?, h]
  have hsz : (four b1 b2 b3 b4).size = 4 := rfl
  clear h
  go_enter Try.func112, Try.ntmps112
  go_wp2
  go_ret
  have e1 : (four b1 b2 b3 b4).extract 0 4 = four b1 b2 b3 b4 := rfl
  exact ⟨congrArg (fun x => Ending.returned (.string x)) e1, rfl⟩

set_option maxHeartbeats 2000000 in
theorem rnum1 (b0 b1 b2 b3 b4 : UInt8) (w : World) (n : Nat) (h : w.heap[n]? = some (.cells #[.string (five b0 b1 b2 b3 b4), .bool false] 197)) :
    Calls Try.prog 95 #[.pointer (some ⟨n, 0, none⟩), .int .i64 1] w fun e w' => e = .returned (.int .u64 b0.toNat) ∧ Below w.heap.size (w.setCell ⟨n, 0, none⟩ (.string (four b1 b2 b3 b4))) w' := by
  have H := Lib.hid (bytes1 b0 b1 b2 b3 b4 w n h)
  clear h
  go_enter Try.func95, Try.ntmps95
  go_wp2_with fail
  refine (H.out).mono ?_; rintro e w1 ⟨rfl, rfl⟩
  go_wp2_with fail
  refine (val1 b0 _).mono ?_; rintro e w2 ⟨rfl, hb2⟩
  go_wp2_with fail
  go_ret
  exact ⟨rfl, hb2.mono (by go_size)⟩

set_option maxHeartbeats 2000000 in
theorem rnum4 (b1 b2 b3 b4 : UInt8) (w : World) (n : Nat) (h : w.heap[n]? = some (.cells #[.string (four b1 b2 b3 b4), .bool false] 197)) :
    Calls Try.prog 95 #[.pointer (some ⟨n, 0, none⟩), .int .i64 4] w fun e w' => e = .returned (.int .u64 (b1.toNat + 256 * b2.toNat + 65536 * b3.toNat + 16777216 * b4.toNat : Nat)) ∧ Below w.heap.size (w.setCell ⟨n, 0, none⟩ (.string ByteArray.empty)) w' := by
  have H := Lib.hid (bytes4 b1 b2 b3 b4 w n h)
  have HV := Lib.hid (fun w => val4 b1 b2 b3 b4 w)
  generalize b1.toNat + 256 * b2.toNat + 65536 * b3.toNat + 16777216 * b4.toNat = v at *
  clear h
  go_enter Try.func95, Try.ntmps95
  go_wp2_with fail
  refine (H.out).mono ?_; rintro e w1 ⟨rfl, rfl⟩
  go_wp2_with fail
  refine (HV.out _).mono ?_; rintro e w2 ⟨rfl, hb2⟩
  go_wp2_with fail
  go_ret
  exact ⟨rfl, hb2.mono (by go_size)⟩
end Go.Proofs.Ytljommhbhpappaa
