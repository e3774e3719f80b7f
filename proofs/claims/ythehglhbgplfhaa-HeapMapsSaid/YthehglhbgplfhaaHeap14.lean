/-
  Layer 15 (heap): List.
-/
import Derived.Test.YthehglhbgplfhaaSortP
import Derived.Test.YthehglhbgplfhaaRecs
namespace Go.Proofs.Ythehglhbgplfhaa
open Go.RowKit Go.Joins
set_option linter.unusedVariables false
set_option linter.unusedSimpArgs false

theorem cf56 (args : Array Value) (w : World) : (callFunc 56 args).run Try.prog w = .ok (.enter 56 args) w := by kernel_rfl

set_option maxHeartbeats 2000000 in
theorem list_walk {S : Vol} {n : Nat} {C : List Pg} (hh : HeapOk S n C) (b mb hb pb : Nat) (w : World) (hs : StageAt w b mb hb pb S) :
    Calls Try.prog 44 #[.pointer (some ⟨b, 0, none⟩), .int .i64 1, .func (.func 56) #[] #[.pointer (some ⟨w.heap.size, 0, none⟩)]] (w.alloc (.cells #[.slice none 0 0] 86)) fun e w' =>
      e = .returned (.int .i64 0) ∧ ListMem w.heap.size w.heap.size w w' (recs 2 C) := by
  have hn := hh.n1024
  have ht := hh.top
  refine (walk_any 56 _ cf56 hh b (fun _ => false) (fun k w' => ListMem w.heap.size w.heap.size w w' (recs 2 (C.take k))) _ ?_ ?_ ?_ ?_).mono ?_
  · rintro k w' h1
    exact ⟨mb, hb, pb, hs.below h1.low hs.lt⟩
  · rintro k w' w'' h1 hb2
    exact h1.below hb2 h1.low.size
  · rintro k hk w' hz h1
    have hl := recs_len 2 (C.take k)
    rw [List.length_take, Nat.min_eq_left (by omega)] at hl
    refine (visit_list (2 + k) C[k] w.heap.size w.heap.size (Nat.le_refl _) (recs 2 (C.take k)) (by omega) (by omega) w w' (Nat.le_refl _) h1).mono ?_
    rintro e w'' ⟨rfl, g1, g2, g3⟩
    exact ⟨rfl, by rw [recs_snoc C k hk]; exact g1, g2, fun q c _ hc => g3 q c hc⟩
  · refine ⟨(Below.refl _ _).alloc (Nat.le_refl _) _, _, heap_alloc_new _ _, ?_⟩
    exact World.ownsRow_nil _ _ _ _
  · rintro e w' ⟨rfl, -, k, hk, h1, hno, hst⟩
    have hl : k + 1 = C.length := by
      rcases hst with h | h
      · cases h
      · exact h
    rw [hl, List.take_length] at h1
    exact ⟨rfl, h1⟩

set_option maxHeartbeats 4000000 in
set_option maxRecDepth 100000 in
theorem list_any {S : Vol} {n : Nat} {C : List Pg} (hh : HeapOk S n C) (b mb hb pb : Nat) (w : World) (hs : StageAt w b mb hb pb S) :
    Calls Try.prog 36 #[.pointer (some ⟨b, 0, none⟩), .int .i64 1] w fun e w' => ∃ v, e = .returned (.tuple #[v, .int .i64 0]) ∧ Below w.heap.size w w' ∧ w'.ownsRow w.heap.size 90 3 v (recs 2 C).length (prRow (recs 2 C)) := by
  have HW := Lib.hid (list_walk hh b mb hb pb w hs)
  have hn := hh.n1024
  have ht := hh.top
  have hl := recs_len 2 C
  have HSort := Lib.hid (fun v w' h => sort_pairs (recs 2 C) (recs_small (by omega)) (recs_rise 2 C) (by omega) w.heap.size v w' h)
  clear hh hs hl
  generalize recs 2 C = R at *
  go_enter Try.func36, Try.ntmps36
  go_wp2_with fail
  refine HW.out.mono ?_; rintro e w1 ⟨rfl, hlow, v, hv1, hv2⟩
  have c6 := (cell_of_block hv1 0).trans rfl
  have HV2 := Lib.hid hv2
  have HL := Lib.hid hlow
  have HV1 := Lib.hid hv1
  have hz := hlow.size
  clear hv1 hv2 hlow
  go_wp2_with fail
  refine (HSort.out _ _ HV2.out).mono ?_; rintro e w2 ⟨rfl, hb2⟩
  have d6 := (cell_of_block ((hb2.block _ (Array.getElem?_eq_some_iff.1 HV1.out).1).trans HV1.out) 0).trans rfl
  have HV3 := Lib.hid (own_low HV2.out hb2)
  have HL2 := Lib.hid (HL.out.trans (hb2.mono hz))
  clear hb2 c6
  go_wp2_with fail
  go_ret2
  exact ⟨v, rfl, HL2.out, HV3.out⟩
end Go.Proofs.Ythehglhbgplfhaa
