/-
  Layer 14 (space): plain laws on a map's bits; the contract of Forget.
-/
import Derived.Test.YtljommhbhpappaaSpace8
namespace Go.Proofs.Ytljommhbhpappaa
open Go.RowKit Go.Joins
set_option linter.unusedVariables false
set_option linter.unusedSimpArgs false

theorem set_tab : ∀ b : Fin 256, ∀ k j : Fin 8, ∀ y : Bool, (UInt8.ofNat (setByte b.val k.val y)).toNat.testBit j.val = if j = k then y else b.val.testBit j.val := by decide +kernel
theorem bitD_mark (d : ByteArray) (i j : Nat) (y : Bool) (hj : j / 8 < d.size) : bitD (markD d j y) i = if i = j then y else bitD d i := by
  have hjd : j / 8 < d.data.size := hj
  unfold bitD
  by_cases h8 : i / 8 = j / 8
  · have e : byteAt (markD d j y) (i / 8) = (UInt8.ofNat (setByte (byteAt d (j / 8)) (j % 8) y)).toNat := by
      rw [h8]
      generalize hu : UInt8.ofNat (setByte (byteAt d (j / 8)) (j % 8) y) = u
      unfold byteAt markD
      simp only [hu, Array.getD_eq_getD_getElem?, Array.getElem?_setIfInBounds_self_of_lt hjd, Option.getD_some]
    have hb : byteAt d (j / 8) < 256 := by unfold byteAt; exact UInt8.toNat_lt _
    have t := set_tab ⟨byteAt d (j / 8), hb⟩ ⟨j % 8, Nat.mod_lt _ (by omega)⟩ ⟨i % 8, Nat.mod_lt _ (by omega)⟩ y
    rw [e, t, h8]
    by_cases hij : i = j
    · subst hij; simp
    · have hne : ¬ i % 8 = j % 8 := by omega
      simp [hij, hne]
  · have e : byteAt (markD d j y) (i / 8) = byteAt d (i / 8) := by
      unfold byteAt markD
      simp only [Array.getD_eq_getD_getElem?, Array.getElem?_setIfInBounds_ne (fun e => h8 e.symm)]
    have hij : ¬ i = j := fun e => h8 (by rw [e])
    rw [e, if_neg hij]
theorem bitAt_mark (p : Pg) (i j : Nat) (y : Bool) (hi : i < 1632) (hj : j < 1632) (hs : ∀ k, k < 6 → (p.d k).size = 34) : bitAt (markPg p j y) i = if i = j then y else bitAt p i := by
  unfold bitAt markPg
  rw [d_setD _ _ _ (by omega) (by omega)]
  by_cases h : i / 272 = j / 272
  · rw [if_pos h, bitD_mark _ _ _ _ (by rw [hs _ (by omega)]; omega), h]
    by_cases hij : i = j
    · subst hij; simp
    · have hne : ¬ i % 272 = j % 272 := by omega
      simp [hij, hne]
  · have hij : ¬ i = j := fun e => h (by rw [e])
    rw [if_neg h, if_neg hij]
end Go.Proofs.Ytljommhbhpappaa
