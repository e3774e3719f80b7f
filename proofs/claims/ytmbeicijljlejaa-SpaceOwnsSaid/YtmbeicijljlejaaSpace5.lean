/-
  Layer 14 (space): the contracts of State and Make.
-/
import Derived.Test.YtmbeicijljlejaaSpace4
namespace Go.Proofs.Ytmbeicijljlejaa
open Go.RowKit Go.Joins
set_option linter.unusedVariables false
set_option linter.unusedSimpArgs false

def Pg.setA (p : Pg) (k : Nat) (a : Int) : Pg :=
  match k with
  | 0 => { p with a0 := a }
  | 1 => { p with a1 := a }
  | 2 => { p with a2 := a }
  | 3 => { p with a3 := a }
  | 4 => { p with a4 := a }
  | _ => { p with a5 := a }
theorem cs_setA (p : Pg) (k : Nat) (h : k < 6) (x : Int) : p.cs.setIfInBounds (4 + k * 2) (.int .i64 x) = (p.setA k x).cs := by
  have h6 : k = 0 ∨ k = 1 ∨ k = 2 ∨ k = 3 ∨ k = 4 ∨ k = 5 := by omega
  rcases h6 with rfl | rfl | rfl | rfl | rfl | rfl <;> rfl

set_option maxHeartbeats 2000000 in
set_option maxRecDepth 100000 in
theorem state_ok (S : Vol) (b mb hb pb : Nat) (d : Pg) (w : World) (hs : StageAt w b mb hb pb S) (hd : DirAt S d) (k : Nat) (hk : k < 6) (ha : d.a k ≠ 0) (st : Int) (hst : st = 1 ∨ st = 2) (hok : okPg (d.setA k st) = true) :
    Calls Try.prog 13 #[.pointer (some ⟨b, 0, none⟩), .int .i64 (k + 1 : Nat), .int .i64 st] w fun e w' => e = .returned (.int .i64 0) ∧ w.grownBy w' (some mb) ∧ StageAt w' b mb hb pb (S.put 0 (d.setA k st)) := by
  obtain ⟨l1, l2, l3, l4⟩ := hs.lt
  have HD := Lib.hid (fun w' h => dir_ok S b mb hb pb d w' h hd)
  have HS := Lib.hid hs
  have ca := cs_a d k hk
  have hn0 : (d.a k == 0) = false := by simp [ha]
  have HSet := Lib.hid (fun w' h => set_any S b mb hb pb 0 (d.setA k st) w' h)
  rw [okSet_one hok 0 (by omega) (by omega)] at HSet
  have e0 : chkE true = 0 := rfl
  rw [e0] at HSet
  simp only [if_true] at HSet
  have hcs := cs_setA d k hk st
  generalize d.setA k st = d2 at *
  generalize d.a k = a at *
  clear hs hd ha hok e0
  have hst2 : ((st != 1) && (st != 2)) = false := by rcases hst with rfl | rfl <;> rfl
  rcases hst with rfl | rfl
  all_goals
    go_enter Try.func13, Try.ntmps13
    go_wp2_with fail
    refine (HD.out _ HS.out).mono ?_; rintro e w1 ⟨rfl, hb1⟩
    have hsz := hb1.size
    have HB1 := Lib.hid hb1
    clear hb1
    go_wp2_with fail
    have Ball : Below w.heap.size w (w1.alloc (.cells d2.cs 50)) := HB1.out.alloc (by omega) _
    refine (HSet.out _ (HS.out.below Ball ⟨l1, l2, l3, l4⟩)).mono ?_; rintro e w4 ⟨rfl, hg4, hs4⟩
    go_wp2_with fail
    go_ret
    exact ⟨rfl, (grown_of_below Ball _).trans hg4, hs4⟩
end Go.Proofs.Ytmbeicijljlejaa
