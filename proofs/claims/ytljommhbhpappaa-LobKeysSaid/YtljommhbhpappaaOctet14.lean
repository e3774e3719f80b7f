/-
  The contracts of octet.Num (layer 1) at the widths 1 and 4, and of space.entry.
-/
import Derived.Test.YtljommhbhpappaaSpace3
import Derived.WalkKit
import Derived.WalkSpells
import Derived.WalkLawsBesides
import Derived.BigQuiet
import Derived.Deep.QuietTactic
import Derived.Lib.Hide
namespace Go.Proofs.Ytljommhbhpappaa
open Go.RowKit Go.Joins
set_option linter.unusedVariables false
set_option linter.unusedSimpArgs false

theorem Try.info5 : (Try.prog.info? 5).map (fun i => (i.zero, i.size, i.bytes)) = some (some (.int .u8 0), 1, 1) := by kernel_rfl

/-- four bytes of a number, the lowest first -/
def le4 (n : Int) : ByteArray := ⟨#[UInt8.ofNat (n % 256).toNat, UInt8.ofNat (n / 256 % 256).toNat, UInt8.ofNat (n / 65536 % 256).toNat, UInt8.ofNat (n / 16777216).toNat]⟩

set_option maxHeartbeats 1000000 in
theorem num4 (n : Int) (w : World) (h0 : 0 ≤ n) (h1 : n < 4294967296) :
    Calls Try.prog 102 #[.int .u64 n, .int .i64 4] w fun e w' =>
      e = .returned (.tuple #[.string (le4 n), .int .i64 0])
      ∧ Below w.heap.size w w' := by
  have hmk : ∀ w, (Instr.makeSlice 106 (.int .i64 4) (.int .i64 4)).run Try.prog w = .ok (.slice (some ⟨w.heap.size, 0, none⟩) 4 4) (w.alloc (.cells #[.int .u8 0, .int .u8 0, .int .u8 0, .int .u8 0] 5)) := fun _ => by kernel_rfl
  have hcv : ∀ (x0 x1 x2 x3 : Int) (w : World), (convert 106 9 (.slice (some ⟨w.heap.size, 0, none⟩) 4 4)).run Try.prog (w.alloc (.cells #[.int .u8 x0, .int .u8 x1, .int .u8 x2, .int .u8 x3] 5)) = .ok (.string ⟨#[UInt8.ofNat x0.toNat, UInt8.ofNat x1.toNat, UInt8.ofNat x2.toNat, UInt8.ofNat x3.toNat]⟩) (w.alloc (.cells #[.int .u8 x0, .int .u8 x1, .int .u8 x2, .int .u8 x3] 5)) := by
    intro x0 x1 x2 x3 w
    refine run_convert_bytes_arg _ 106 5 Try.underlying106 Try.underlying5 w.heap.size 0 4 4 [x0, x1, x2, x3] rfl ?_ 9 Try.underlying9
    intro i hi
    rw [World.cell?_alloc_mark]
    rcases i with _ | _ | _ | _ | i
    all_goals first | rfl | omega
  have h2 : (n / 4294967296 != 0) = false := by rw [bne_eq_false_iff_eq]; omega
  go_enter Try.func102, Try.ntmps102
  go_wp2
  refine wp_loop_rounds 5 ?_
  rw [rounds_succ]
  go_wp2
  rw [rounds_succ]
  go_wp2
  rw [rounds_succ]
  go_wp2
  rw [rounds_succ]
  go_wp2
  rw [rounds_succ]
  go_wp2
  go_ret2
  exact ⟨rfl, (Below.refl _ _).alloc (Nat.le_refl _) _⟩

/-- one byte of a number -/
def le1 (n : Int) : ByteArray := ⟨#[UInt8.ofNat n.toNat]⟩

set_option maxHeartbeats 1000000 in
theorem num1 (n : Int) (w : World) (h0 : 0 ≤ n) (h1 : n < 256) :
    Calls Try.prog 102 #[.int .u64 n, .int .i64 1] w fun e w' =>
      e = .returned (.tuple #[.string (le1 n), .int .i64 0])
      ∧ Below w.heap.size w w' := by
  have hmk : ∀ w, (Instr.makeSlice 106 (.int .i64 1) (.int .i64 1)).run Try.prog w = .ok (.slice (some ⟨w.heap.size, 0, none⟩) 1 1) (w.alloc (.cells #[.int .u8 0] 5)) := fun _ => by kernel_rfl
  have hcv : ∀ (x0 : Int) (w : World), (convert 106 9 (.slice (some ⟨w.heap.size, 0, none⟩) 1 1)).run Try.prog (w.alloc (.cells #[.int .u8 x0] 5)) = .ok (.string ⟨#[UInt8.ofNat x0.toNat]⟩) (w.alloc (.cells #[.int .u8 x0] 5)) := by
    intro x0 w
    refine run_convert_bytes_arg _ 106 5 Try.underlying106 Try.underlying5 w.heap.size 0 1 1 [x0] rfl ?_ 9 Try.underlying9
    intro i hi
    rw [World.cell?_alloc_mark]
    rcases i with _ | i
    all_goals first | rfl | omega
  have h2 : (n / 256 != 0) = false := by rw [bne_eq_false_iff_eq]; omega
  go_enter Try.func102, Try.ntmps102
  go_wp2
  refine wp_loop_rounds 2 ?_
  rw [rounds_succ]
  go_wp2
  rw [rounds_succ]
  go_wp2
  go_ret2
  exact ⟨rfl, (Below.refl _ _).alloc (Nat.le_refl _) _⟩

/-- a store's cell of the directory -/
def entryD (kind root : Int) : ByteArray := le1 kind ++ le4 root

set_option maxHeartbeats 1000000 in
theorem entry_any (kind root : Int) (w : World) (h0 : 0 ≤ kind) (h1 : kind < 256) (h2 : 0 ≤ root) (h3 : root < 4294967296) :
    Calls Try.prog 75 #[.int .i64 kind, .int .i64 root] w fun e w' => e = .returned (.string (entryD kind root)) ∧ Below w.heap.size w w' := by
  have n1 := Lib.hid (fun w => num1 kind w h0 h1)
  have n4 := Lib.hid (fun w => num4 root w h2 h3)
  go_enter Try.func75, Try.ntmps75
  go_wp2_with fail
  refine (n1.out _).mono ?_; rintro e w1 ⟨rfl, hb1⟩
  go_wp2_with fail
  refine (n4.out _).mono ?_; rintro e w2 ⟨rfl, hb2⟩
  go_wp2_with fail
  go_ret
  have hz := hb1.size
  exact ⟨rfl, hb1.trans (hb2.mono hz)⟩
end Go.Proofs.Ytljommhbhpappaa
