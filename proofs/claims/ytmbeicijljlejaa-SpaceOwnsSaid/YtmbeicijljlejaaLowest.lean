/-
  Layer 14 (space): the walk of SpaceLowest at every input.
-/
import Derived.Test.YtmbeicijljlejaaLow14
namespace Go.Proofs.Ytmbeicijljlejaa
open Go.RowKit Go.Joins
set_option linter.unusedVariables false
set_option linter.unusedSimpArgs false

set_option maxHeartbeats 1000000 in
theorem format_bad (b : Nat) (n : Int) (w : World) (h : n < 4) :
    Calls Try.prog 10 #[.pointer (some ⟨b, 0, none⟩), .int .i64 n] w fun e w' => e = .returned (.int .i64 1) ∧ w = w' := by
  go_enter Try.func10, Try.ntmps10
  go_wp2_with fail
  go_ret
  exact ⟨rfl, rfl⟩

set_option maxHeartbeats 2000000 in
set_option maxRecDepth 100000 in
theorem lowest_b (n : Int) (hn : n < 4 ∨ 64 < n) (v : Value) (w : World) :
    Calls Try.prog 4 #[.int .i64 n, v] w fun e w' => e = .returned (.bool true) ∧ Below w.heap.size w w' := by
  have HA := Lib.hid (fun (w' : World) => awake_any w')
  have HM := Lib.hid (fun (w' : World) => memory_ok 64 (by omega) (by omega) w')
  have HN := Lib.hid (fun hb pb w' hB h h1 h2 => new_lay hb pb (List.replicate 64 Pg.zero) w w' hB h h1 h2)
  by_cases h4 : n < 4
  · have HFo := Lib.hid (fun b w' => format_bad b n w' h4)
    have h64 : ¬ 64 < n := by omega
    clear hn
    go_enter Try.func4, Try.ntmps4
    go_wp2_with fail
    refine (HA.out _).mono ?_; rintro e w0 ⟨rfl, hb0⟩
    have K0 := Lib.hid hb0
    have hz0 := hb0.size
    clear hb0
    go_wp2_with fail
    refine (HM.out _).mono ?_; rintro e w1 ⟨hb, pb, rfl, hb1, q1, q2, hs1⟩
    have K1 := Lib.hid (K0.out.trans (hb1.mono hz0))
    have K2 := Lib.hid hs1
    clear hb1 hs1
    go_wp2_with fail
    refine (HN.out hb pb _ K1.out K2.out (by omega) (by omega)).mono ?_; rintro e w2 ⟨b, rfl, L2⟩
    have K3 := Lib.hid L2
    clear L2
    go_wp2_with fail
    refine (HFo.out _ _).mono ?_; rintro e w3 ⟨rfl, rfl⟩
    go_wp2_with fail
    go_ret
    exact ⟨rfl, K3.out.low⟩
  · have h64 : 64 < n := by omega
    clear hn
    go_enter Try.func4, Try.ntmps4
    go_wp2_with fail
    refine (HA.out _).mono ?_; rintro e w0 ⟨rfl, hb0⟩
    have K0 := Lib.hid hb0
    have hz0 := hb0.size
    clear hb0
    go_wp2_with fail
    refine (HM.out _).mono ?_; rintro e w1 ⟨hb, pb, rfl, hb1, q1, q2, hs1⟩
    have K1 := Lib.hid (K0.out.trans (hb1.mono hz0))
    have K2 := Lib.hid hs1
    clear hb1 hs1
    go_wp2_with fail
    refine (HN.out hb pb _ K1.out K2.out (by omega) (by omega)).mono ?_; rintro e w2 ⟨b, rfl, L2⟩
    have K3 := Lib.hid L2
    clear L2
    go_wp2_with fail
    go_ret
    exact ⟨rfl, K3.out.low⟩

theorem lowest_walk (n : Int) (a : Option Addr) (len cap : Nat) (zs : List Int) (w : World) (hR : RowOk w a len zs) :
    Calls Try.prog 4 #[.int .i64 n, .slice a len cap] w fun e w' => e = .returned (.bool true) ∧ Below w.heap.size w w' := by
  by_cases h : n < 4 ∨ 64 < n
  · exact lowest_b n h _ w
  · obtain ⟨k, rfl⟩ := Int.eq_ofNat_of_zero_le (show 0 ≤ n by omega)
    exact lowest_a k (by omega) (by omega) a len cap zs w hR
end Go.Proofs.Ytmbeicijljlejaa
