/-
  Layer 20 (plan): the contracts of base.Item, jettyref20.Item and End, plan.above, plan.item, plan.next and the peek's methods.
-/
import Derived.Test.YtdppidnjjdhnaaaModes2
import Derived.Test.YtdppidnjjdhnaaaRef01
import Derived.Deep.RegionHeld3
namespace Go.Proofs.Ytdppidnjjdhnaaa
open Go.RowKit Go.Joins
set_option linter.unusedVariables false

def itemL (id : Int) : ByteArray := le4 ((if id < 0 then 0 else id) % 4294967296)
def endL : ByteArray := ⟨#[255, 255, 255, 255, 255, 255, 255, 255, 255]⟩

set_option maxHeartbeats 1000000 in
theorem bitem_any (id : Int) (w : World) (h0 : -9223372036854775808 ≤ id) (h1 : id ≤ 9223372036854775807) :
    Calls Try.prog 15 #[.int .i64 id] w fun e w' => e = .returned (.string (itemL id)) ∧ Below w.heap.size w w' := by
  unfold itemL
  by_cases h : id < 0
  · rw [if_pos h]
    go_enter Try.func15, Try.ntmps15
    go_wp2_with (go_at_call 21; refine (num4 _ _ (by omega) (by omega)).mono ?_; rintro e w1 ⟨rfl, hb⟩)
    go_ret
    exact ⟨rfl, hb⟩
  · rw [if_neg h]
    have h2 : 0 ≤ id % 4294967296 ∧ id % 4294967296 < 4294967296 := by omega
    obtain ⟨h3, h4⟩ := h2
    go_enter Try.func15, Try.ntmps15
    go_wp2_with (go_at_call 21; refine (num4 _ _ (by omega) (by omega)).mono ?_; rintro e w1 ⟨rfl, hb⟩)
    go_ret
    exact ⟨rfl, hb⟩

set_option maxHeartbeats 1000000 in
theorem put4 (n : Int) (w : World) (h0 : 0 ≤ n) (h1 : n < 4294967296) :
    Calls Try.prog 22 #[.int .i64 n, .int .i64 4] w fun e w' => e = .returned (.string (le4 n)) ∧ Below w.heap.size w w' := by
  go_enter Try.func22, Try.ntmps22
  go_wp2_with (go_at_call 23; refine (rnum_any _ 4 _ (by omega) (by omega) (by omega) (by omega)).mono ?_; rintro e w1 ⟨rfl, hb⟩)
  go_ret
  exact ⟨by rw [← (lowB_four n h0 h1).1]; rfl, hb⟩

set_option maxHeartbeats 1000000 in
theorem ritem_any (id : Int) (w : World) (h0 : -9223372036854775808 ≤ id) (h1 : id ≤ 9223372036854775807) :
    Calls Try.prog 17 #[.int .i64 id] w fun e w' => e = .returned (.string (itemL id)) ∧ Below w.heap.size w w' := by
  unfold itemL
  by_cases h : id < 0
  · rw [if_pos h]
    go_enter Try.func17, Try.ntmps17
    go_wp2_with (go_at_call 22; refine (put4 _ _ (by omega) (by omega)).mono ?_; rintro e w1 ⟨rfl, hb⟩)
    go_ret
    exact ⟨rfl, hb⟩
  · rw [if_neg h]
    have h2 : 0 ≤ id % 4294967296 ∧ id % 4294967296 < 4294967296 := by omega
    obtain ⟨h3, h4⟩ := h2
    go_enter Try.func17, Try.ntmps17
    go_wp2_with (go_at_call 22; refine (put4 _ _ (by omega) (by omega)).mono ?_; rintro e w1 ⟨rfl, hb⟩)
    go_ret
    exact ⟨rfl, hb⟩

set_option maxHeartbeats 1000000 in
theorem rend_any (w : World) : Calls Try.prog 12 #[] w fun e w' => e = .returned (.string endL) ∧ Below w.heap.size w w' := by
  have hmk : ∀ w, (Instr.makeSlice 58 (.int .i64 9) (.int .i64 9)).run Try.prog w = .ok (.slice (some ⟨w.heap.size, 0, none⟩) 9 9) (w.alloc (.cells #[.int .u8 0, .int .u8 0, .int .u8 0, .int .u8 0, .int .u8 0, .int .u8 0, .int .u8 0, .int .u8 0, .int .u8 0] 5)) := fun _ => by kernel_rfl
  have hcv := fun (w : World) => run_convert_bytes_arg (P := Try.prog) (w.alloc (.cells #[.int .u8 255, .int .u8 255, .int .u8 255, .int .u8 255, .int .u8 255, .int .u8 255, .int .u8 255, .int .u8 255, .int .u8 255] 5)) 58 5 Try.underlying58 Try.underlying5 w.heap.size 0 9 9 [255, 255, 255, 255, 255, 255, 255, 255, 255] rfl (fun i hi => by
    rw [World.cell?_alloc_mark]
    rcases i with _ | _ | _ | _ | _ | _ | _ | _ | _ | i
    all_goals first | rfl | omega) 9 Try.underlying9
  go_enter Try.func12, Try.ntmps12
  go_wp2
  refine wp_loop_rounds 10 ?_
  iterate 10
    rw [rounds_succ]
    go_wp2
  go_ret
  exact ⟨rfl, (Below.refl _ _).alloc (Nat.le_refl _) _⟩

set_option maxHeartbeats 1000000 in
theorem above2_any (st m : Int) (w : World) :
    Calls Try.prog 13 #[.int .i64 st, .int .i64 m] w fun e w' => e = .returned (.slice (some ⟨w.heap.size, 0, none⟩) 2 2) ∧
      w' = w.alloc (.cells #[.int .i64 0, .string ByteArray.empty, .int .i64 (aboveL m), .int .i64 st, .string ByteArray.empty, .int .i64 (aboveL m)] 40) := by
  go_enter Try.func13, Try.ntmps13
  go_wp2_with (go_at_call 11; refine (above_any _ _).mono ?_; rintro e w1 ⟨rfl, rfl⟩)
  go_ret
  exact ⟨rfl, rfl⟩
end Go.Proofs.Ytdppidnjjdhnaaa
