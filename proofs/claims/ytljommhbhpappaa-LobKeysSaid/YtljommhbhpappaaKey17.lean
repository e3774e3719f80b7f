/-
  Layer 17 (lob): keys of pieces as bytes (plain law): they rise with the objects' numbers, then with the pieces'.
-/
import Derived.Test.YtljommhbhpappaaStage0
import Derived.Sort.Walk0
namespace Go.Proofs.Ytljommhbhpappaa
open Go.RowKit Go.Joins
set_option linter.unusedVariables false
set_option linter.unusedSimpArgs false

def b8 (x : Int) : UInt8 := UInt8.ofNat x.toNat
/-- the key of a piece -/
def key4 (n p : Int) : ByteArray := ⟨#[b8 (n / 256 % 256), b8 (n % 256), b8 (p / 256 % 256), b8 (p % 256)]⟩
theorem key4_list (n p : Int) : (key4 n p).toList = [b8 (n / 256 % 256), b8 (n % 256), b8 (p / 256 % 256), b8 (p % 256)] := by
  rw [ByteArray.toList_eq]; rfl
theorem key4_size (n p : Int) : (key4 n p).size = 4 := rfl
theorem b8_lt {x y : Int} (hx : 0 ≤ x ∧ x < 256) (hy : 0 ≤ y ∧ y < 256) : decide (b8 x < b8 y) = decide (x < y) := by
  have h1 : (b8 x).toNat = x.toNat := by simp only [b8, UInt8.toNat_ofNat']; omega
  have h2 : (b8 y).toNat = y.toNat := by simp only [b8, UInt8.toNat_ofNat']; omega
  rw [decide_eq_decide, UInt8.lt_iff_toNat_lt, h1, h2]
  omega
theorem b8_eq {x y : Int} (hx : 0 ≤ x ∧ x < 256) (hy : 0 ≤ y ∧ y < 256) : (b8 x == b8 y) = decide (x = y) := by
  have h1 : (b8 x).toNat = x.toNat := by simp only [b8, UInt8.toNat_ofNat']; omega
  have h2 : (b8 y).toNat = y.toNat := by simp only [b8, UInt8.toNat_ofNat']; omega
  by_cases e : x = y
  · subst e; simp
  · have : b8 x ≠ b8 y := fun h => by
      have := congrArg UInt8.toNat h
      rw [h1, h2] at this; omega
    simp [e, this]
theorem key4_less (a i b k : Int) (ha : 0 ≤ a ∧ a ≤ 65535) (hi : 0 ≤ i ∧ i ≤ 65535) (hb : 0 ≤ b ∧ b ≤ 65535) (hk : 0 ≤ k ∧ k ≤ 65535) :
    Op.bytesLess (key4 a i).toList (key4 b k).toList = decide (a < b ∨ (a = b ∧ i < k)) := by
  have q1 : 0 ≤ a / 256 % 256 ∧ a / 256 % 256 < 256 := by omega
  have q2 : 0 ≤ a % 256 ∧ a % 256 < 256 := by omega
  have q3 : 0 ≤ i / 256 % 256 ∧ i / 256 % 256 < 256 := by omega
  have q4 : 0 ≤ i % 256 ∧ i % 256 < 256 := by omega
  have r1 : 0 ≤ b / 256 % 256 ∧ b / 256 % 256 < 256 := by omega
  have r2 : 0 ≤ b % 256 ∧ b % 256 < 256 := by omega
  have r3 : 0 ≤ k / 256 % 256 ∧ k / 256 % 256 < 256 := by omega
  have r4 : 0 ≤ k % 256 ∧ k % 256 < 256 := by omega
  rw [key4_list, key4_list]
  simp only [Op.bytesLess, Bool.or_false, Bool.and_false]
  rw [b8_lt q1 r1, b8_lt q2 r2, b8_lt q3 r3, b8_lt q4 r4, b8_eq q1 r1, b8_eq q2 r2, b8_eq q3 r3]
  rw [Bool.eq_iff_iff]
  simp only [Bool.or_eq_true, Bool.and_eq_true, decide_eq_true_eq]
  omega
end Go.Proofs.Ytljommhbhpappaa
