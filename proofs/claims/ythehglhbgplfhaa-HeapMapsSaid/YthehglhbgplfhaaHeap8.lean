/-
  Layer 15 (heap): find, Read.
-/
import Derived.Test.YthehglhbgplfhaaHeap7
namespace Go.Proofs.Ythehglhbgplfhaa
open Go.RowKit Go.Joins
set_option linter.unusedVariables false
set_option linter.unusedSimpArgs false

theorem hit_facts {a : Nat} {p : Pg} {id : Int} (h : hitB a p id = true) : 0 ≤ id ∧ id / 8 = a ∧ id % 8 < 6 ∧ p.a (id % 8).toNat = 1 := by
  cases id with
  | negSucc x => cases h
  | ofNat x =>
    simp only [hitB, Bool.and_eq_true, decide_eq_true_eq] at h
    obtain ⟨⟨h1, h2⟩, h3⟩ := h
    have e : ((Int.ofNat x) % 8).toNat = x % 8 := by show ((x : Int) % 8).toNat = _; omega
    refine ⟨Int.natCast_nonneg x, ?_, ?_, by rw [e]; exact h3⟩
    · show (x : Int) / 8 = _; omega
    · show (x : Int) % 8 < 6; omega

set_option maxHeartbeats 4000000 in
set_option maxRecDepth 100000 in
theorem find_any {S : Vol} {n : Nat} {C : List Pg} (hh : HeapOk S n C) (b mb hb pb : Nat) (id : Int) (hid : id < 9223372036854775808) (w : World) (hs : StageAt w b mb hb pb S) :
    Calls Try.prog 52 #[.pointer (some ⟨b, 0, none⟩), .int .i64 1, .int .i64 id] w fun e w' => Below w.heap.size w w' ∧
      ((∃ k, ∃ h : k < C.length, hitB (2 + k) C[k] id = true ∧ e = .returned (.tuple #[.int .i64 ((2 + k : Nat) : Int), .int .i64 (id % 8), C[k].v, .int .i64 0])) ∨
        ((∀ k (h : k < C.length), hitB (2 + k) C[k] id = false) ∧ ∃ a s : Int, e = .returned (.tuple #[.int .i64 a, .int .i64 s, Pg.zero.v, .int .i64 150]))) := by
  have HW := Lib.hid (find_walk hh b mb hb pb id hid w hs)
  clear hh hs
  go_enter Try.func52, Try.ntmps52
  go_wp2_with fail
  refine HW.out.mono ?_
  rintro e w1 ⟨rfl, ⟨k, hk, hhit, hM⟩ | ⟨hno, hM⟩⟩
  · obtain ⟨f1, f2, f3, f4⟩ := hit_facts hhit
    have HHit := Lib.hid hhit
    have cc11 := (cell_of_block hM.c11 0).trans rfl
    have dc5 := (cell_of_block (hM.below (Below.refl w1.heap.size w1).drew).c5 0).trans rfl
    have dR10 := rowAt_of (hM.below (Below.refl w1.heap.size w1).drew).c10
    have dR8 := rowAt_of (hM.below (Below.refl w1.heap.size w1).drew).c8
    have RF := rowAt_setRow w1.drew (w.heap.size + 1) _ C[k].cs dR8
    have BF : Below w.heap.size w (w1.drew.setRow (w.heap.size + 1) C[k].cs) := below_setRow (hM.low.drew) _ (by omega)
    have HBF := Lib.hid BF
    obtain ⟨q, hq⟩ : ∃ q, C[k] = q := ⟨_, rfl⟩
    rw [hq] at dR10 RF HBF
    have HQ := Lib.hid hq
    have HF2 := Lib.hid f2
    clear hM hhit BF f4 hq f2
    go_wp2_with fail
    go_region
    all_goals
      go_wp2
      refine ret_ttpt rfl rfl (w.heap.size + 1) q rfl RF ⟨HBF.out, .inl ⟨k, hk, HHit.out, ?_⟩⟩
      rw [HQ.out, ← HF2.out]; rfl
  · have cc11 := (cell_of_block hM.c11 0).trans rfl
    have dc5 := (cell_of_block (hM.below (Below.refl w1.heap.size w1).drew).c5 0).trans rfl
    have dR10 := rowAt_of (hM.below (Below.refl w1.heap.size w1).drew).c10
    have dR8 := rowAt_of (hM.below (Below.refl w1.heap.size w1).drew).c8
    have RF := rowAt_setRow w1.drew (w.heap.size + 1) _ Pg.zero.cs dR8
    have BF : Below w.heap.size w (w1.drew.setRow (w.heap.size + 1) Pg.zero.cs) := below_setRow (hM.low.drew) _ (by omega)
    have HBF := Lib.hid BF
    have HNo := Lib.hid hno
    clear hM hno BF
    go_wp2_with fail
    go_region
    all_goals
      go_wp2
      exact ret_ttpt rfl rfl (w.heap.size + 1) Pg.zero rfl RF ⟨HBF.out, .inr ⟨HNo.out, _, _, rfl⟩⟩

set_option maxHeartbeats 4000000 in
set_option maxRecDepth 100000 in
theorem read_any {S : Vol} {n : Nat} {C : List Pg} (hh : HeapOk S n C) (b mb hb pb : Nat) (id : Int) (hid : id < 9223372036854775808) (w : World) (hs : StageAt w b mb hb pb S) :
    Calls Try.prog 33 #[.pointer (some ⟨b, 0, none⟩), .int .i64 1, .int .i64 id] w fun e w' => Below w.heap.size w w' ∧
      ((∃ k, ∃ h : k < C.length, hitB (2 + k) C[k] id = true ∧ e = .returned (.tuple #[.string (C[k].d (id % 8).toNat), .int .i64 0])) ∨
        ((∀ k (h : k < C.length), hitB (2 + k) C[k] id = false) ∧ e = .returned (.tuple #[.string ⟨#[]⟩, .int .i64 150]))) := by
  have HF := Lib.hid (find_any hh b mb hb pb id hid w hs)
  clear hh hs
  go_enter Try.func33, Try.ntmps33
  go_wp2_with fail
  refine HF.out.mono ?_
  rintro e w1 ⟨hb1, ⟨k, hk, hhit, rfl⟩ | ⟨hno, a, s, rfl⟩⟩
  · obtain ⟨f1, f2, f3, f4⟩ := hit_facts hhit
    have HHit := Lib.hid hhit
    have hi : (id % 8).toNat < 6 := by omega
    have R1 := rowAt_at w1 C[k].cs 41 _ rfl
    have cD := (cell_row R1 (4 + (id % 8).toNat * 2 + 1)).trans (cs_d _ _ hi)
    have hz := hb1.size
    have HB := Lib.hid (hb1.alloc hz (.cells C[k].cs 41))
    obtain ⟨q, hq⟩ : ∃ q, C[k] = q := ⟨_, rfl⟩
    obtain ⟨d, hd⟩ : ∃ d, q.d (id % 8).toNat = d := ⟨_, rfl⟩
    rw [hq] at R1 cD HB
    rw [hd] at cD
    have HQ := Lib.hid hq
    have HD := Lib.hid hd
    have hf0 : 0 ≤ id % 8 := by omega
    rw [hq]
    clear hhit f4 f2 hb1 hq hd
    go_wp2_with fail
    go_ret2
    exact ⟨HB.out, .inl ⟨k, hk, HHit.out, by rw [HQ.out, HD.out]; rfl⟩⟩
  · have hz := hb1.size
    have HB := Lib.hid (hb1.alloc hz (.cells Pg.zero.cs 41))
    have HNo := Lib.hid hno
    clear hb1 hno
    go_wp2_with fail
    go_ret2
    exact ⟨HB.out, .inr ⟨HNo.out, rfl⟩⟩
end Go.Proofs.Ythehglhbgplfhaa
