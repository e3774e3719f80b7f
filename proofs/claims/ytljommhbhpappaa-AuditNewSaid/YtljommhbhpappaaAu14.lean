/-
  Layer 22 (audit): the walk of AuditNew at every input.
-/
import Derived.Test.YtljommhbhpappaaAu13
namespace Go.Proofs.Ytljommhbhpappaa
open Go.RowKit Go.Joins
set_option linter.unusedVariables false
set_option linter.unusedSimpArgs false

set_option maxHeartbeats 1000000 in
theorem format_bad22 (b : Nat) (n : Int) (w : World) (h : n < 4 ∨ 1024 < n) :
    Calls Try.prog 38 #[.pointer (some ⟨b, 0, none⟩), .int .i64 n] w fun e w' => e = .returned (.int .i64 1) ∧ w = w' := by
  by_cases h1 : n < 4
  · clear h
    go_enter Try.func38, Try.ntmps38
    go_wp2_with fail
    go_ret
    exact ⟨rfl, rfl⟩
  · have h2 : 1024 < n := by omega
    clear h
    go_enter Try.func38, Try.ntmps38
    go_wp2_with fail
    go_ret
    exact ⟨rfl, rfl⟩
set_option maxHeartbeats 8000000 in
set_option maxRecDepth 100000 in
theorem new_b (n : Int) (hn : n < 4 ∨ 1024 < n) (v : Value) (w : World) :
    Calls Try.prog 8 #[.int .i64 n, v] w fun e w' => e = .returned (.bool true) ∧ Below w.heap.size w w' := by
  have HA := Lib.hid (fun (w' : World) => awake22 w')
  have HM := Lib.hid (fun (w' : World) => memory_ok 1024 (by omega) (by omega) w')
  rw [show ((1024 : Nat) : Int) = 1024 from rfl] at HM
  have HN := Lib.hid (fun hb pb w' hB h h1 h2 => new_lay hb pb (List.replicate 1024 Pg.zero) w w' hB h h1 h2)
  have HFo := Lib.hid (fun b w' => format_bad22 b n w' hn)
  have HBad := Lib.hid (fun w' b hb L => blank_check (w := w) (w' := w') (b := b) (hb := hb) L)
  clear hn
  go_enter Try.func8, Try.ntmps8
  go_wp2_with fail
  with_reducible refine (HA.out _).mono ?_; rintro e w0 ⟨rfl, hb0⟩
  have K0 := Lib.hid hb0
  have hz0 := hb0.size
  clear hb0
  go_wp2_with fail
  with_reducible refine (HM.out _).mono ?_; rintro e w1 ⟨hb, pb, rfl, hb1, q1, q2, hs1⟩
  have K1 := Lib.hid (K0.out.trans (hb1.mono hz0))
  have K2 := Lib.hid hs1
  clear hb1 hs1
  go_wp2_with fail
  with_reducible refine (HN.out hb pb _ K1.out K2.out (by omega) (by omega)).mono ?_; rintro e w2 ⟨b1, rfl, L2⟩
  have K3 := Lib.hid L2
  clear L2
  go_wp2_with fail
  with_reducible refine (HBad.out _ _ _ K3.out).mono ?_; rintro e w3 ⟨er, her, rfl, L3⟩
  have he1 : (er == 0) = false := by simpa using her
  obtain ⟨mb3, pb3, hs3, -, -, g1, g2⟩ := L3.at'
  have K4 := Lib.hid L3.low
  have K5 := Lib.hid hs3.2.2.1
  have HG1 : w.heap.size ≤ hb := by simp at g1; omega
  have HG2 : w.heap.size ≤ pb3 := by simp at g2; omega
  clear L3 hs3 g1 g2
  go_wp2_with fail
  with_reducible refine (HN.out hb pb3 _ K4.out K5.out HG1 HG2).mono ?_; rintro e w4 ⟨b, rfl, L4⟩
  have K6 := Lib.hid L4.low
  clear L4 he1
  go_wp2_with fail
  with_reducible refine (HFo.out _ _).mono ?_; rintro e w5 ⟨rfl, rfl⟩
  go_wp2_with fail
  go_ret
  exact ⟨rfl, K6.out⟩
theorem new_walk (n : Int) (a : Option Addr) (len cap : Nat) (zs : List Int) (w : World) (hR : RowOk w a len zs) :
    Calls Try.prog 8 #[.int .i64 n, .slice a len cap] w fun e w' => e = .returned (.bool true) ∧ Below w.heap.size w w' := by
  by_cases h : n < 4 ∨ 1024 < n
  · exact new_b n h _ w
  · obtain ⟨k, rfl⟩ := Int.eq_ofNat_of_zero_le (show 0 ≤ n by omega)
    exact new_a k (by omega) (by omega) a len cap zs w hR
end Go.Proofs.Ytljommhbhpappaa
