/-
  The contracts of package modes (layer 8), continued: Join, Covers, Compatible, Above.
-/
import Derived.Test.YtileamjmhhifaaaGreatModes
namespace Go.Proofs.YtileamjmhhifaaaGreat
open Go.RowKit

/-- the first mode from k on (n of them) whose rights are these; else 6 -/
def jFrom (all : Int) : Nat → Int → Int
  | 0, _ => 6
  | n + 1, k => if rt k = all then k else jFrom all n (k + 1)

def joinL (a b : Int) : Int := if badB a || badB b then 0 else jFrom (bits .or .i64 (rt a) (rt b)) 6 0
def coversL (a b : Int) : Bool := !badB a && !badB b && bits .or .i64 (rt a) (rt b) == rt a
def aboveL (m : Int) : Int := if m = 1 ∨ m = 3 then 1 else if m = 2 ∨ m = 4 ∨ m = 5 ∨ m = 6 then 2 else 0

theorem jFrom_step (all : Int) (k : Nat) (hk : k < 6) (h : rt k = all) : jFrom all (6 - k) k = k := by
  obtain ⟨n, hn⟩ : ∃ n, 6 - k = n + 1 := ⟨5 - k, by omega⟩
  rw [hn]; simp [jFrom, h]
theorem jFrom_next (all : Int) (k : Nat) (hk : k < 6) (h : rt k ≠ all) : jFrom all (6 - k) k = jFrom all (6 - (k + 1)) ((k : Int) + 1) := by
  obtain ⟨n, hn⟩ : ∃ n, 6 - k = n + 1 := ⟨5 - k, by omega⟩
  have h2 : 6 - (k + 1) = n := by omega
  rw [hn, h2]; simp [jFrom, h]

set_option maxHeartbeats 400000 in
theorem join_any (a b : Int) (w : World) :
    Calls Tryz.prog 27 #[.int .i64 a, .int .i64 b] w fun e w' => e = .returned (.int .i64 (joinL a b)) ∧ w' = w := by
  by_cases ha : badB a = true
  · have e : joinL a b = 0 := by simp [joinL, ha]
    rw [e]
    have HA := Lib.hid ha
    go_enter Tryz.func27, Tryz.ntmps27
    go_wp2_with (go_at_call 52; refine (bad_any _ _).mono ?_; rintro e w' ⟨rfl, rfl⟩)
    go_ret
    exact ⟨rfl, rfl⟩
  simp only [Bool.not_eq_true] at ha
  by_cases hb : badB b = true
  · have e : joinL a b = 0 := by simp [joinL, hb]
    rw [e]
    go_enter Tryz.func27, Tryz.ntmps27
    go_wp2_with (go_at_call 52; refine (bad_any _ _).mono ?_; rintro e w' ⟨rfl, rfl⟩)
    go_ret
    exact ⟨rfl, rfl⟩
  simp only [Bool.not_eq_true] at hb
  have e : joinL a b = jFrom (bits .or .i64 (rt a) (rt b)) 6 0 := by simp [joinL, ha, hb]
  rw [e]; clear e
  go_enter Tryz.func27, Tryz.ntmps27
  go_wp2_with (first | (go_at_call 52; refine (bad_any _ _).mono ?_; rintro e w' ⟨rfl, rfl⟩) | (go_at_call 53; refine (rights_any _ _).mono ?_; rintro e w' ⟨rfl, rfl⟩))
  generalize hall : bits .or .i64 (rt a) (rt b) = all
  have HALL := Lib.hid hall
  clear hall ha hb
  go_loop [6] (fun m => ∃ k : Nat, k ≤ 6 ∧ m = .int .i64 k ∧ jFrom all 6 0 = jFrom all (6 - k) k) (fun m => 6 - (intOf m).toNat)
  case atStart => exact ⟨0, by omega, rfl, rfl⟩
  case round =>
    obtain ⟨k, hk, rfl, hj⟩ := hrel
    have HJ := Lib.hid hj
    clear hj
    by_cases hlt : k < 6
    · by_cases hr : rt k = all
      · have hr' : (rt k == all) = true := by simp [hr]
        have HR := Lib.hid hr
        clear hr
        go_wp2_with (go_at_call 53; refine (rights_any _ _).mono ?_; rintro e w' ⟨rfl, rfl⟩)
        go_ret
        exact ⟨by rw [HALL.out, HJ.out, jFrom_step all k hlt HR.out]; rfl, rfl⟩
      · have hr' : (rt k == all) = false := by simp [hr]
        have HR := Lib.hid hr
        clear hr
        go_wp2_with (go_at_call 53; refine (rights_any _ _).mono ?_; rintro e w' ⟨rfl, rfl⟩)
        go_round
        case rel => exact ⟨k + 1, by omega, by go_num, by rw [HJ.out, jFrom_next all k hlt HR.out]; rfl⟩
        case measure => simp [intOf]; omega
    · have hk6 : k = 6 := by omega
      subst hk6
      go_wp2
      go_ret
      exact ⟨by rw [HALL.out, HJ.out]; rfl, rfl⟩

def compatB (a b : Int) : Bool :=
  if a = 0 ∨ b = 0 then true
  else if bits .and .i64 (bits .or .i64 a b) 16 ≠ 0 then false
  else if bits .and .i64 (bits .and .i64 a b) 8 ≠ 0 then false
  else if (bits .and .i64 a 2 ≠ 0 ∧ bits .and .i64 b 12 ≠ 0) ∨ (bits .and .i64 b 2 ≠ 0 ∧ bits .and .i64 a 12 ≠ 0) then false
  else true
def compatL (a b : Int) : Bool := !badB a && !badB b && compatB (rt a) (rt b)

theorem isMode {m : Int} (h : badB m = false) : m = 0 ∨ m = 1 ∨ m = 2 ∨ m = 3 ∨ m = 4 ∨ m = 5 ∨ m = 6 := by
  simp [badB] at h; omega

end Go.Proofs.YtileamjmhhifaaaGreat
