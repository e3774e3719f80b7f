/-
  The contracts of jettyref01.Num and Put (layer 1's reference).
-/
import Derived.Test.YtdppidnjjdhnaaaOctet
import Derived.Lib.SmallJoins
namespace Go.Proofs.Ytdppidnjjdhnaaa
open Go.RowKit Go.Joins

/-- n without its k lowest bytes -/
def shrB (n : Int) : Nat → Int
  | 0 => n
  | k + 1 => shrB n k / 256
/-- its k lowest bytes -/
def lowB (n : Int) (k : Nat) : List Int := (List.range k).map fun j => shrB n j % 256
theorem lowB_succ (n : Int) (k : Nat) : lowB n (k + 1) = lowB n k ++ [shrB n k % 256] := by simp [lowB, List.range_succ]
theorem lowB_len (n : Int) (k : Nat) : (lowB n k).length = k := by simp [lowB]
theorem shrB_nn (n : Int) (k : Nat) (h : 0 ≤ n) : 0 ≤ shrB n k := by
  induction k with
  | zero => exact h
  | succ k ih => simp only [shrB]; omega
theorem shrB_le (n : Int) (k : Nat) (h : 0 ≤ n) : shrB n k ≤ n := by
  induction k with
  | zero => exact Int.le_refl _
  | succ k ih => have := shrB_nn n k h; simp only [shrB]; omega
theorem lowB_four (n : Int) (h0 : 0 ≤ n) (h1 : n < 4294967296) : strOfNums (lowB n 4) = le4 n ∧ shrB n 4 = 0 := by
  have e : lowB n 4 = [n % 256, n / 256 % 256, n / 256 / 256 % 256, n / 256 / 256 / 256 % 256] := rfl
  have e2 : n / 256 / 256 % 256 = n / 65536 % 256 := by omega
  have e3 : n / 256 / 256 / 256 % 256 = n / 16777216 := by omega
  constructor
  · rw [e, e2, e3]; rfl
  · show n / 256 / 256 / 256 / 256 = 0; omega

set_option maxHeartbeats 1000000 in
theorem rnum_any (n : Int) (m : Nat) (w : World) (h0 : 0 ≤ n) (h1 : n ≤ 18446744073709551615) (hm1 : 1 ≤ m) (hm2 : m ≤ 8) :
    Calls Try.prog 23 #[.int .u64 n, .int .i64 m] w fun e w' =>
      e = .returned (.tuple #[.string (strOfNums (lowB n m)), .bool (shrB n m == 0)]) ∧ Below w.heap.size w w' := by
  obtain ⟨i0, hi, hz0, hz1, hz2⟩ := info_parts Try.info5
  have HN : Hid (∀ k, 0 ≤ shrB n k ∧ shrB n k ≤ 18446744073709551615) := Lib.hid (fun k => ⟨shrB_nn n k h0, Int.le_trans (shrB_le n k h0) h1⟩)
  clear h0 h1
  go_enter Try.func23, Try.ntmps23
  go_wp2
  go_loopw [0, 6, 7] (fun x v i wr => ∃ k : Nat, k ≤ m ∧ x = .int .u64 (shrB n k) ∧ i = .int .i64 k ∧ wr.ownsRow w.heap.size 5 1 v k ((lowB n k).map (Value.int .u8)) ∧ Below w.heap.size w wr) (fun _ _ i _ => m - (intOf i).toNat)
  case atStart => exact ⟨0, by omega, rfl, rfl, World.ownsRow_nil _ _ _ _, Below.refl _ _⟩
  case round =>
    obtain ⟨k, hk, rfl, rfl, hown, hbel⟩ := hrel
    by_cases hlt : k < m
    · obtain ⟨hb0, hb1⟩ := HN.out k
      have hsz := hbel.size
      go_wp2_with (at_builtin; refine wpList_append_own _ rfl _ _ 58 rfl w.heap.size 5 i0 (.int .u8 0) 1 1 Try.underlying58 hi hz0 hz1 hz2 rfl (by decide) _ k _ rfl (hown.alloc _) ⟨wr.heap.size, 0, none⟩ 1 1 [.int .u8 (shrB n k % 256)] rfl rfl ?c1 ?c2 ?c3 ?c4 ?c5 ?_)
      case c1 => exact cell_one_new _ _ _
      case c2 => simp [Value.oneCell']
      case c3 => simp only [maxLen]; omega
      case c4 => omega
      case c5 => simp; omega
      intro v' w1 hown' hgrow _
      have hb1 : Below w.heap.size w w1 := (hbel.alloc hsz _).grown hgrow (by simp; omega) (fun q hq => (hown.lt q hq).1)
      have hr : ((lowB n k).map (Value.int .u8)) ++ [Value.int .u8 (shrB n k % 256)] = (lowB n (k + 1)).map (Value.int .u8) := by rw [lowB_succ]; simp
      rw [hr] at hown'
      clear hr hgrow hown hbel hsz
      go_wp2
      go_roundw
      case rel => exact ⟨k + 1, by omega, rfl, by go_num, hown', hb1⟩
      case measure => simp [intOf]; omega
    · have hkm : m = k := by omega
      subst hkm
      obtain ⟨hb0, hb1⟩ := HN.out m
      obtain ⟨g, cap, rfl⟩ := ownsRow_form hown (by omega)
      have hcv := run_convert_bytes_arg (P := Try.prog) wr 58 5 Try.underlying58 Try.underlying5 g 0 m cap (lowB n m) (lowB_len n m) (fun i hi => by
        have := hown.cells (g := g) rfl i (.int .u8 ((lowB n m).getD i 0)) (by rw [List.getElem?_map, List.getD_eq_getElem?_getD, List.getElem?_eq_getElem (by rw [lowB_len]; exact hi)]; rfl)
        rw [Addr.add_lit] at this; exact this) 9 Try.underlying9
      go_wp2
      go_ret2
      exact ⟨rfl, hbel⟩
end Go.Proofs.Ytdppidnjjdhnaaa
