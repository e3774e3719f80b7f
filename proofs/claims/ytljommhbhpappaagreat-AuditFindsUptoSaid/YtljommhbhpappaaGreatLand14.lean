/-
  Layer 14 (space): the laws' own land; the refusals that the laws meet (Make where six stores are, Forget and Find of no store); the least free place.
-/
import Derived.Test.YtljommhbhpappaaGreatPkLand
namespace Go.Proofs.YtljommhbhpappaaGreat
open Go.RowKit Go.Joins
set_option linter.unusedVariables false
set_option linter.unusedSimpArgs false

/-- the stage behind land -/
def Vol.after (S : Vol) (e : Int) : Vol := if e = 0 then S.landed else ⟨S.base, []⟩
theorem least {p : Nat → Bool} : ∀ (n : Nat), p n = false → ∃ k, k ≤ n ∧ p k = false ∧ ∀ j, j < k → p j = true
  | 0, h => ⟨0, Nat.le_refl _, h, fun j hj => by omega⟩
  | n + 1, h => by
    by_cases hq : ∃ i, i ≤ n ∧ p i = false
    · obtain ⟨i, hi, hp⟩ := hq
      have : ∀ i, i ≤ n → p i = false → ∃ k, k ≤ i ∧ p k = false ∧ ∀ j, j < k → p j = true := by
        intro i
        induction i using Nat.strongRecOn with
        | _ i ih =>
          intro hi hp
          by_cases hb : ∀ j, j < i → p j = true
          · exact ⟨i, Nat.le_refl _, hp, hb⟩
          · obtain ⟨j, hj⟩ := Classical.not_forall.1 hb
            obtain ⟨hj1, hj2⟩ := Classical.not_imp.1 hj
            obtain ⟨k, hk, h1, h2⟩ := ih j hj1 (by omega) (by simpa using hj2)
            exact ⟨k, by omega, h1, h2⟩
      obtain ⟨k, hk, h1, h2⟩ := this i hi hp
      exact ⟨k, by omega, h1, h2⟩
    · refine ⟨n + 1, Nat.le_refl _, h, fun j hj => ?_⟩
      cases hpj : p j with
      | true => rfl
      | false => exact absurd ⟨j, by omega, hpj⟩ hq

set_option maxHeartbeats 2000000 in
set_option maxRecDepth 100000 in
theorem make_many {P : Nat → Prop} {w0 w : World} {b hb : Nat} {S : Vol} {d m : Pg} {n : Nat} (L : Lay P w0 w b hb S) (h : VolOk S d m n) (hall : ∀ j, j < 6 → d.a j ≠ 0) (kind : Int) (hk : 1 ≤ kind ∧ kind ≤ 3) :
    Calls Tryz.prog 19 #[.pointer (some ⟨b, 0, none⟩), .int .i64 kind] w fun e w' => e = .returned (.tuple #[.int .i64 0, .int .i64 192]) ∧ Lay P w0 w' b hb S := by
  obtain ⟨mb, pb, hs, h4⟩ := L.at'
  have HD := Lib.hid (fun w' hh => dir_ok S b mb hb pb d w' hh h.dir)
  have HS := Lib.hid hs
  have HL := Lib.hid L
  have HBef := Lib.hid hall
  obtain ⟨k1, k2⟩ := hk
  clear hs h L hall h4
  go_enter Tryz.func19, Tryz.ntmps19
  go_wp2_with fail
  refine (HD.out _ HS.out).mono ?_; rintro e w1 ⟨rfl, hb1⟩
  have hsz := hb1.size
  have HB1 := Lib.hid hb1
  clear hb1
  go_wp2_with fail
  go_loopw [30] (fun i wr => ∃ j : Nat, j ≤ 6 ∧ i = .int .i64 j ∧ Below (w1.heap.size + 1) (w1.alloc (.cells d.cs 38)) wr) (fun i _ => 6 - (intOf i).toNat)
  case atStart => exact ⟨0, by omega, rfl, (Below.refl _ _)⟩
  case round =>
    obtain ⟨j, hj, rfl, hbl⟩ := hrel
    have hz := hbl.size
    simp only [World.size_alloc] at hz
    have R1 : rowAt wr w1.heap.size = some d.cs := (rowAt_below hbl (by omega)).trans (rowAt_at w1 d.cs _ _ rfl)
    have HB3 := Lib.hid hbl
    clear hbl
    by_cases hlt : j < 6
    · have hidx := index6 d j hlt
      have h0 : (d.a j == 0) = false := by simp [HBef.out j hlt]
      generalize d.a j = a at *
      generalize d.d j = x at *
      go_wp2_with fail
      go_roundw
      case rel => exact ⟨j + 1, by omega, by go_num, HB3.out.alloc (by omega) _⟩
      case measure => simp [intOf]; omega
    · have hje : j = 6 := by omega
      subst hje
      go_wp2_with fail
      go_ret2
      exact ⟨rfl, HL.out.step ((HB1.out.alloc (by omega) (.cells d.cs 38)).trans (HB3.out.mono (by omega)))⟩
end Go.Proofs.YtljommhbhpappaaGreat
