/-
  Layer 17 (lob): the document's answer: pieces and steps.
-/
import Derived.Test.YtljommhbhpappaaLr17a
import Derived.Test.YtljommhbhpappaaLaw17k
import Derived.Test.YtljommhbhpappaaLob5
import Derived.Maps.AppendAt
namespace Go.Proofs.Ytljommhbhpappaa
open Go.RowKit Go.Joins
set_option linter.unusedVariables false
set_option linter.unusedSimpArgs false

theorem chunk_more (b : ByteArray) (k : Nat) (hk : k < b.size ∨ k = 0) : chunks (b.extract k b.size) = b.extract k (min (k + 16) b.size) :: (if k + 16 < b.size then chunks (b.extract (k + 16) b.size) else []) := by
  have hs : (b.extract k b.size).size = b.size - k := by rw [ByteArray.size_extract]; omega
  by_cases h : k + 16 < b.size
  · rw [if_pos h, chunks_big (by omega), hs, Nat.min_eq_left (by omega), ByteArray.extract_extract, ByteArray.extract_extract]
    congr 2
    · congr 1 <;> omega
    · congr 1 <;> omega
  · rw [if_neg h, chunks_small (by omega), Nat.min_eq_right (by omega)]

set_option maxHeartbeats 4000000 in
set_option maxRecDepth 100000 in
theorem opieces_any (b : ByteArray) (hb : b.size ≤ 100000) (w : World) :
    Calls Try.prog 27 #[.string b] w fun e w' => ∃ v, e = .returned v ∧ Below w.heap.size w w' ∧ w'.ownsRow w.heap.size 9 1 v (chunks b).length ((chunks b).map Value.string) := by
  obtain ⟨i0, hi, hz0, hz1, hz2⟩ := info_parts infoStr17
  have HM := Lib.hid (chunk_more b)
  have hall : chunks b = chunks (b.extract 0 b.size) := by simp
  go_enter Try.func27, Try.ntmps27
  go_wp2_with fail
  go_loopw [3, 4] (fun l v wr => ∃ (k : Nat) (acc : List ByteArray), v = .int .i64 k ∧ k = acc.length * 16 ∧ k ≤ b.size + 16 ∧ wr.ownsRow w.heap.size 9 1 l acc.length (acc.map Value.string) ∧ Below w.heap.size w wr ∧ chunks b = acc ++ (if k < b.size ∨ k = 0 then chunks (b.extract k b.size) else [])) (fun _ v _ => b.size + 32 - (intOf v).toNat)
  case atStart => exact ⟨0, [], rfl, rfl, by omega, World.ownsRow_nil _ _ _ _, Below.refl _ _, by rw [if_pos (.inr rfl), ← hall]; rfl⟩
  case round =>
    obtain ⟨k, acc, rfl, hk, hkb, hown, hbw, hch⟩ := hrel
    have hz := hbw.size
    by_cases hgo : k < b.size ∨ k = 0
    · rw [if_pos hgo, HM.out k hgo] at hch
      have hmin : min ((k : Int) + 16) (b.size : Int) = ((min (k + 16) b.size : Nat) : Int) := by omega
      have hw : IntKind.wrap .i64 ((k : Int) + 16) = (k : Int) + 16 := by rw [IntKind.wrap_i64]; omega
      have hb0 : (0 : Int) ≤ (k : Int) := by omega
      have hb1 : (k : Int) ≤ ((min (k + 16) b.size : Nat) : Int) := by omega
      have hb2 : ((min (k + 16) b.size : Nat) : Int) ≤ (b.size : Int) := by omega
      have ht : k ≠ 0 → decide ((k : Int) < (b.size : Int)) = true := by intro h; simp; omega
      have HC := Lib.hid hch
      clear hch
      obtain ⟨e, he⟩ : ∃ e, min (k + 16) b.size = e := ⟨_, rfl⟩
      rw [he] at hmin hb1 hb2 HC
      have hacc : acc.length ≤ 100000 := by omega
      have fin : ∀ v' w5, w5.ownsRow w.heap.size 9 1 v' (acc.length + 1) (acc.map Value.string ++ [.string (b.extract k e)]) → Below w.heap.size w w5 →
          (∃ (k2 : Nat) (acc2 : List ByteArray), Value.int .i64 ((k : Int) + 16) = .int .i64 k2 ∧ k2 = acc2.length * 16 ∧ k2 ≤ b.size + 16 ∧ w5.ownsRow w.heap.size 9 1 v' acc2.length (acc2.map Value.string) ∧ Below w.heap.size w w5 ∧ chunks b = acc2 ++ (if k2 < b.size ∨ k2 = 0 then chunks (b.extract k2 b.size) else [])) := fun v' w5 ho hbl => by
        refine ⟨k + 16, acc ++ [b.extract k e], by simp, by simp; omega, by omega, by simpa using ho, hbl, ?_⟩
        rw [HC.out]
        simp
      have FIN := Lib.hid fin
      clear fin HC hk
      by_cases hk0 : k = 0
      · subst hk0
        have hm0 : min (16 : Int) (b.size : Int) = (e : Int) := by simpa using hmin
        go_wp2_with (at_builtin; refine wpList_append_own _ rfl _ _ 27 rfl w.heap.size 9 i0 _ 1 16 Try.underlying27 hi hz0 hz1 hz2 rfl (by decide) _ _ _ rfl (hown.alloc _) ⟨wr.heap.size, 0, none⟩ 1 1 [.string (b.extract 0 e)] rfl rfl ?c1 ?c2 ?c3 ?c4 ?c5 ?_)
        case c2 => simp [Value.oneCell']
        case c3 => simp only [maxLen]; omega
        case c4 => omega
        case c5 => first | omega | (simp; omega)
        intro v' w5 hown' hgrow _
        have hb5 : Below w.heap.size w w5 := (hbw.alloc hz _).grown hgrow (by go_size) (fun q hq => (hown.lt q hq).1)
        clear hown hgrow
        go_wp2_with fail
        go_roundw
        case rel => exact FIN.out _ _ hown' hb5
        case measure => first | (simp [intOf]; done) | (simp [intOf]; omega)
      · have ht2 := ht hk0
        have hk0i : ((k : Int) == 0) = false := by simp; omega
        go_wp2_with (at_builtin; refine wpList_append_own _ rfl _ _ 27 rfl w.heap.size 9 i0 _ 1 16 Try.underlying27 hi hz0 hz1 hz2 rfl (by decide) _ _ _ rfl (hown.alloc _) ⟨wr.heap.size, 0, none⟩ 1 1 [.string (b.extract k e)] rfl rfl ?d1 ?d2 ?d3 ?d4 ?d5 ?_)
        case d1 => exact cell_one_new _ _ _
        case d2 => simp [Value.oneCell']
        case d3 => simp only [maxLen]; omega
        case d4 => omega
        case d5 => first | omega | (simp; omega)
        intro v' w5 hown' hgrow _
        have hb5 : Below w.heap.size w w5 := (hbw.alloc hz _).grown hgrow (by go_size) (fun q hq => (hown.lt q hq).1)
        clear hown hgrow
        go_wp2_with fail
        go_roundw
        case rel => exact FIN.out _ _ hown' hb5
        case measure => first | (simp [intOf]; done) | (simp [intOf]; omega)
    · rw [if_neg hgo, List.append_nil] at hch
      have hk0i : ((k : Int) == 0) = false := by simp; omega
      have ht2 : decide ((k : Int) < (b.size : Int)) = false := by simp; omega
      have ht3 : ¬ k < b.size := by omega
      have HC := Lib.hid hch
      clear hch hk hgo
      go_wp2_with fail
      go_ret
      refine ⟨_, rfl, hbw, ?_⟩
      rw [HC.out]; exact hown
end Go.Proofs.Ytljommhbhpappaa
