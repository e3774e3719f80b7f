/-
  Layer 14 (space): the contracts of Used and Forget.
-/
import Derived.Test.YtljommhbhpappaaSpace7
import Derived.OwnWalk
import Derived.Deep.AppendLies
namespace Go.Proofs.Ytljommhbhpappaa
open Go.RowKit Go.Joins
set_option linter.unusedVariables false
set_option linter.unusedSimpArgs false

/-- the pages that belong to somebody, below a number -/
def usedTo (m : Pg) (k : Nat) : List Nat := (List.range k).filter fun j => bitAt m j
def idVals (l : List Nat) : List Value := l.map fun j : Nat => .int .i64 (j : Int)
theorem usedTo_succ (m : Pg) (k : Nat) : usedTo m (k + 1) = if bitAt m k then usedTo m k ++ [k] else usedTo m k := by
  unfold usedTo
  rw [List.range_succ, List.filter_append]
  cases h : bitAt m k <;> simp [h]

theorem usedTo_len (m : Pg) (k : Nat) : (usedTo m k).length ≤ k := by
  unfold usedTo
  exact Nat.le_trans (List.length_filter_le _ _) (by simp)
theorem own_below1 {w w' : World} {base n : Nat} {e : TypeId} {v : Value} {xs : List Value} {s : Nat} (h : w.ownsRow base e s v n xs) (hb : Below w.heap.size w w') : w'.ownsRow base e s v n xs := h.kept (row := none) ⟨hb.os, hb.tape, hb.output, hb.size, fun i hi _ => hb.block i hi⟩ (by cases v.ownBlock <;> simp)
theorem infoInt : (Try.prog.info? 3).map (fun i => (i.zero, i.size, i.bytes)) = some (some (.int .i64 0), 1, 8) := by kernel_rfl

set_option maxHeartbeats 2000000 in
set_option maxRecDepth 100000 in
theorem used_any (S : Vol) (b mb hb pb : Nat) (m : Pg) (n : Nat) (w : World) (hs : StageAt w b mb hb pb S) (hm : MapAt S m n) :
    Calls Try.prog 57 #[.pointer (some ⟨b, 0, none⟩)] w fun e w' => ∃ v, e = .returned (.tuple #[v, .int .i64 n, .int .i64 0]) ∧ Below w.heap.size w w' ∧ w'.ownsRow w.heap.size 3 1 v (usedTo m n).length (idVals (usedTo m n)) := by
  have HR := Lib.hid (fun w' h => read_ok S b mb hb pb m w' h hm.e hm.p hm.map)
  rw [hm.cnt] at HR
  have hn := hm.hi
  have hl := hm.lo
  have HS := Lib.hid hs
  have HT := Lib.hid (fun j (hj : j < n) w => taken_any m j (by omega) (hm.sz _ (by omega)) w)
  have hlt := hs.lt
  obtain ⟨l1, l2, l3, l4⟩ := hlt
  clear hs hm
  obtain ⟨i0, hi, hz0, hz1, hz2⟩ := info_parts infoInt
  go_enter Try.func57, Try.ntmps57
  go_wp2_with fail
  refine (HR.out _ HS.out).mono ?_; rintro e w1 ⟨rfl, hb1⟩
  have hsz := hb1.size
  have HB1 := Lib.hid hb1
  clear hb1
  go_wp2_with fail
  go_loopw [8, 20] (fun l i wr => ∃ k : Nat, k ≤ n ∧ i = .int .i64 k ∧ wr.ownsRow (w1.heap.size + 1) 3 1 l (usedTo m k).length (idVals (usedTo m k)) ∧ Below (w1.heap.size + 1) (w1.alloc (.cells m.cs 112)) wr) (fun _ i _ => n - (intOf i).toNat)
  case atStart => exact ⟨0, by omega, rfl, World.ownsRow_nil _ _ _ _, Below.refl _ _⟩
  case round =>
    obtain ⟨k, hk, rfl, hown, hb⟩ := hrel
    have hz := hb.size
    simp only [World.size_alloc] at hz
    have R1 : rowAt wr w1.heap.size = some m.cs := (rowAt_below hb (by omega)).trans (rowAt_at w1 m.cs _ _ rfl)
    by_cases hki : k < n
    · have HTk := Lib.hid (HT.out k hki)
      have hsucc := usedTo_succ m k
      have hlen := usedTo_len m k
      cases hbit : bitAt m k with
      | true =>
        rw [hbit] at HTk hsucc
        simp only [if_true] at hsucc
        have HSu := Lib.hid hsucc
        clear hsucc hbit
        go_wp2_with fail
        refine (HTk.out _).mono ?_; rintro e w2 ⟨rfl, hb2⟩
        have hown2 := own_below1 hown hb2
        have hz2' := hb2.size
        go_wp2_with (at_builtin; refine wpList_append_own _ rfl _ _ 28 rfl (w1.heap.size + 1) 3 i0 _ 1 8 Try.underlying28 hi hz0 hz1 hz2 rfl (by decide) _ _ _ rfl (hown2.alloc _) ⟨w2.heap.size, 0, none⟩ 1 1 [.int .i64 k] rfl rfl ?c1 ?c2 ?c3 ?c4 ?c5 ?_)
        (try case c1 => exact cell_one_new _ _ _)
        case c2 => simp [Value.oneCell']
        case c3 => simp only [maxLen]; omega
        case c4 => omega
        case c5 => first | omega | (simp; omega)
        intro v' w5 hown' hgrow _
        have hb5 : Below (w1.heap.size + 1) (w1.alloc (.cells m.cs 112)) w5 := ((hb.trans (hb2.mono (by omega))).alloc (by omega) _).grown hgrow (by simp; omega) (fun q hq => (hown.lt q hq).1)
        clear hown
        go_wp2_with fail
        go_roundw
        case rel => exact ⟨k + 1, by omega, by go_num, by rw [HSu.out]; simpa [idVals] using hown', hb5⟩
        case measure => simp [intOf]; omega
      | false =>
        rw [hbit] at HTk hsucc
        have HSu := Lib.hid hsucc
        clear hsucc hbit
        go_wp2_with fail
        refine (HTk.out _).mono ?_; rintro e w2 ⟨rfl, hb2⟩
        have hown2 := own_below1 hown hb2
        go_wp2_with fail
        go_roundw
        case rel => exact ⟨k + 1, by omega, by go_num, by rw [HSu.out]; exact hown2, hb.trans (hb2.mono (by omega))⟩
        case measure => simp [intOf]; omega
    · have hke : k = n := by omega
      subst hke
      go_wp2_with fail
      go_ret3
      exact ⟨_, rfl, (HB1.out.alloc (by omega) (.cells m.cs 112)).trans (hb.mono (by omega)), ownsRow_le hown (by omega)⟩
end Go.Proofs.Ytljommhbhpappaa
