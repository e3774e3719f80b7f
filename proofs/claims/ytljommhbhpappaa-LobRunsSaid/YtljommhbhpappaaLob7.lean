/-
  Layer 17 (lob): the calls that change an object, and a law's steps.
-/
import Derived.Test.YtljommhbhpappaaLob6
import Derived.Test.YtljommhbhpappaaFrame17b
import Derived.Deep.RegionHeld3
namespace Go.Proofs.Ytljommhbhpappaa
open Go.RowKit Go.Joins
set_option linter.unusedVariables false
set_option linter.unusedSimpArgs false

theorem strAt_own {w : World} {g0 : Nat} {v : Value} {L : List ByteArray} (h : w.ownsRow g0 9 1 v L.length (L.map Value.string)) (hl : L.length ≤ 100000) : ∃ ta tc, v = .slice ta L.length tc ∧ StrAt w ta L := by
  rcases ownsRow_forms h with ⟨rfl, h0⟩ | ⟨g, cap, rfl⟩
  · have h0 : L.length = 0 := by simpa using h0
    exact ⟨none, 0, by rw [h0], by omega, .inl h0⟩
  · refine ⟨_, _, rfl, by omega, .inr ⟨g, rfl, (h.lt g rfl).2, fun i hi => ?_⟩⟩
    have := h.cells (g := g) rfl i (.string L[i]) (by simp [List.getElem?_eq_getElem hi])
    rw [Addr.add_lit] at this
    simpa using this

theorem StrAt.via {w v w' : World} {a : Option Addr} {I : List ByteArray} (h : StrAt w a I) (hb : Below v.heap.size v w') (he : v.heap = w.heap) : StrAt w' a I := by
  have h' : StrAt v a I := by
    unfold StrAt at h ⊢
    unfold World.cell? at h ⊢
    rw [he]; exact h
  exact h'.below hb
/-- an object's pieces as strings in memory -/
theorem pieces_at (b : ByteArray) (hb : b.size ≤ 4096) (w : World) :
    Calls Try.prog 62 #[.string b] w fun e w' => ∃ ta tc, e = .returned (.slice ta (chunks b).length tc) ∧ Below w.heap.size w w' ∧ StrAt w' ta (chunks b) := by
  refine (pieces_any b (by omega) w).mono ?_
  rintro e w' ⟨v, rfl, hb', hown⟩
  have hl := chunks_len b.size b (Nat.le_refl _)
  obtain ⟨ta, tc, rfl, h⟩ := strAt_own hown (by omega)
  exact ⟨ta, tc, rfl, hb', h⟩
/-- what a call that changes leaves: the steps as a list of its own -/
def StepsOut (w w' : World) (v : Value) (L : List Stp) : Prop := Below w.heap.size w w' ∧ w'.ownsRow w.heap.size 47 3 v L.length (stpRow L)
theorem StepsOut.nil {w w' : World} (h : Below w.heap.size w w') : StepsOut w w' (.slice none 0 0) [] := ⟨h, World.ownsRow_nil _ _ _ _⟩
theorem StepsOut.of {w w1 w' : World} {v : Value} {L : List Stp} (h : Below w.heap.size w w1) (h1 : Below w1.heap.size w1 w') (h2 : w'.ownsRow w1.heap.size 47 3 v L.length (stpRow L)) : StepsOut w w' v L :=
  ⟨h.trans (h1.mono h.size), ownsRow_le h2 h.size⟩
theorem steps_at (num : Int) (fa ta : Option Addr) (fc tc : Nat) (fr to : List ByteArray) (w : World) (hf : StrAt w fa fr) (ht : StrAt w ta to) :
    Calls Try.prog 61 #[.int .i64 num, .slice fa fr.length fc, .slice ta to.length tc] w fun e w' => ∃ v, e = .returned v ∧ Below w.heap.size w w' ∧ w'.ownsRow w.heap.size 47 3 v (stepsFull num fr to).length (stpRow (stepsFull num fr to)) :=
  steps_any num fa ta fc tc fr to w hf ht

section
variable {bv : Value} {num : Int} {r : ByteArray × Int} {w : World}
set_option maxHeartbeats 4000000 in
set_option maxRecDepth 100000 in
theorem lnew_any (HB0 : Calls Try.prog 60 #[bv, .int .i64 1, .int .i64 num] w fun e w' => e = .returned (.tuple #[.string r.1, .int .i64 r.2]) ∧ Below w.heap.size w w') :
    Calls Try.prog 18 #[bv, .int .i64 1, .int .i64 num] w fun e w' => ∃ v, e = .returned (.tuple #[v, .int .i64 (if r.2 = 150 then 0 else if r.2 = 0 then 160 else r.2)]) ∧ StepsOut w w' v (if r.2 = 150 then stepsFull num [] (chunks ByteArray.empty) else []) := by
  have HB := Lib.hid HB0
  clear HB0
  obtain ⟨by1, en⟩ := r
  simp only at HB ⊢
  by_cases h1 : en = 150
  · subst h1
    have HP := Lib.hid (fun w' => pieces_at ByteArray.empty (by simp) w')
    have HSt := Lib.hid (fun ta tc w' ht => steps_at num none ta 0 tc [] (chunks ByteArray.empty) w' ⟨by simp, .inl rfl⟩ ht)
    rw [if_pos rfl, if_pos rfl]
    generalize stepsFull num [] (chunks ByteArray.empty) = L at *
    generalize chunks ByteArray.empty = C at *
    go_enter Try.func18, Try.ntmps18
    go_wp2_with fail
    refine HB.out.mono ?_; rintro e w1 ⟨rfl, hb1⟩
    have B1 := Lib.hid hb1
    clear hb1
    go_wp2_with fail
    refine (HP.out _).mono ?_; rintro e w2 ⟨ta, tc, rfl, hb2, hta⟩
    have B2 := Lib.hid (B1.out.trans (hb2.mono B1.out.size))
    have HTa := Lib.hid hta
    clear hb2 hta
    go_wp2_with fail
    refine (HSt.out ta tc _ HTa.out).mono ?_; rintro e w3 ⟨v3, rfl, hb3, hown3⟩
    have HO3 := Lib.hid (StepsOut.of B2.out hb3 hown3)
    clear hb3 hown3
    go_wp2_with fail
    go_ret2
    exact ⟨_, rfl, HO3.out⟩
  · rw [if_neg h1, if_neg h1]
    by_cases h2 : en = 0
    · subst h2
      rw [if_pos rfl]
      go_enter Try.func18, Try.ntmps18
      go_wp2_with fail
      refine HB.out.mono ?_; rintro e w1 ⟨rfl, hb1⟩
      have B1 := Lib.hid hb1
      clear hb1
      go_wp2_with fail
      go_ret2
      exact ⟨_, rfl, StepsOut.nil B1.out⟩
    · rw [if_neg h2]
      go_enter Try.func18, Try.ntmps18
      go_wp2_with fail
      refine HB.out.mono ?_; rintro e w1 ⟨rfl, hb1⟩
      have B1 := Lib.hid hb1
      clear hb1
      go_wp2_with fail
      go_ret2
      exact ⟨_, rfl, StepsOut.nil B1.out⟩

set_option maxHeartbeats 4000000 in
set_option maxRecDepth 100000 in
theorem ltrunc_any (n : Int) (hr : r.1.size ≤ 4096) (HB0 : Calls Try.prog 60 #[bv, .int .i64 1, .int .i64 num] w fun e w' => e = .returned (.tuple #[.string r.1, .int .i64 r.2]) ∧ Below w.heap.size w w') :
    Calls Try.prog 64 #[bv, .int .i64 1, .int .i64 num, .int .i64 n] w fun e w' => ∃ v, e = .returned (.tuple #[v, .int .i64 (trR r n).1]) ∧ StepsOut w w' v (if (trR r n).1 = 0 then stepsFull num (chunks r.1) (chunks (trR r n).2) else []) := by
  have HB := Lib.hid HB0
  clear HB0
  obtain ⟨b, en⟩ := r
  unfold trR
  simp only at HB hr ⊢
  by_cases h1 : en = 0
  · subst h1
    rw [if_neg (by simp)]
    by_cases h2 : n < 0 ∨ (b.size : Int) < n
    · rw [if_pos h2, if_neg (by decide)]
      rcases h2 with h2 | h2
      · have h2i : decide (n < 0) = true := by simp [h2]
        go_enter Try.func64, Try.ntmps64
        go_wp2_with fail
        refine HB.out.mono ?_; rintro e w1 ⟨rfl, hb1⟩
        have B1 := Lib.hid hb1
        clear hb1
        go_wp2_with fail
        go_ret2
        exact ⟨_, rfl, StepsOut.nil B1.out⟩
      · have h2i : decide (n < 0) = false := by simp; omega
        have h3i : decide ((b.size : Int) < n) = true := by simp [h2]
        go_enter Try.func64, Try.ntmps64
        go_wp2_with fail
        refine HB.out.mono ?_; rintro e w1 ⟨rfl, hb1⟩
        have B1 := Lib.hid hb1
        clear hb1
        go_wp2_with fail
        go_ret2
        exact ⟨_, rfl, StepsOut.nil B1.out⟩
    · rw [if_neg h2, if_pos rfl]
      have h2i : decide (n < 0) = false := by simp; omega
      have h3i : decide ((b.size : Int) < n) = false := by simp; omega
      have HP1 := Lib.hid (fun w' => pieces_at b hr w')
      have HP2 := Lib.hid (fun w' => pieces_at (b.extract 0 n.toNat) (by rw [ByteArray.size_extract]; omega) w')
      have HSt := Lib.hid (fun fa fc ta tc w' hf ht => steps_at num fa ta fc tc (chunks b) (chunks (b.extract 0 n.toNat)) w' hf ht)
      have hb0 : 0 ≤ n := by omega
      have hbn : n ≤ (b.size : Int) := by omega
      generalize stepsFull num (chunks b) (chunks (b.extract 0 n.toNat)) = L at *
      generalize chunks b = C at *
      generalize chunks (b.extract 0 n.toNat) = D at *
      go_enter Try.func64, Try.ntmps64
      go_wp2_with fail
      refine HB.out.mono ?_; rintro e w1 ⟨rfl, hb1⟩
      have B1 := Lib.hid hb1
      clear hb1
      go_wp2_with fail
      go_region_held3 (fun W => True) (trivial)
        (first
          | ((go_at_call 62; with_reducible refine (HP1.out _).mono ?_; rintro e w2 ⟨fa, fc, rfl, hb2, hfa⟩))
          | ((go_at_call 62; with_reducible refine (HP2.out _).mono ?_; rintro e w3 ⟨ta, tc, rfl, hb3, hta⟩))
          | ((go_at_call 61; refine (HSt.out fa fc ta tc _ (hfa.via hb3 rfl) hta).mono ?_; rintro e w4 ⟨v4, rfl, hb4, hown4⟩)))
      all_goals
        have B2 : Hid (Below w.heap.size w w2) := Lib.hid (by first | exact B1.out.trans (hb2.mono B1.out.size) | exact B1.out.drew.trans (hb2.mono B1.out.size))
        have B3 : Hid (Below w.heap.size w w3) := Lib.hid (by first | exact B2.out.trans (hb3.mono B2.out.size) | exact B2.out.drew.trans (hb3.mono B2.out.size))
        have HO4 : Hid (StepsOut w w4 v4 L) := Lib.hid (by first | exact StepsOut.of B3.out hb4 hown4 | exact StepsOut.of B3.out.drew hb4 hown4)
        clear hb2 hb3 hb4 hown4
        go_wp2_with fail
        go_ret2
        exact ⟨_, rfl, HO4.out⟩
  · rw [if_pos h1, if_neg h1]
    go_enter Try.func64, Try.ntmps64
    go_wp2_with fail
    refine HB.out.mono ?_; rintro e w1 ⟨rfl, hb1⟩
    have B1 := Lib.hid hb1
    clear hb1
    go_wp2_with fail
    go_ret2
    exact ⟨_, rfl, StepsOut.nil B1.out⟩

set_option maxHeartbeats 4000000 in
set_option maxRecDepth 100000 in
theorem ldestroy_any (hr : r.1.size ≤ 4096) (HB0 : Calls Try.prog 60 #[bv, .int .i64 1, .int .i64 num] w fun e w' => e = .returned (.tuple #[.string r.1, .int .i64 r.2]) ∧ Below w.heap.size w w') :
    Calls Try.prog 65 #[bv, .int .i64 1, .int .i64 num] w fun e w' => ∃ v, e = .returned (.tuple #[v, .int .i64 r.2]) ∧ StepsOut w w' v (if r.2 = 0 then stepsFull num (chunks r.1) [] else []) := by
  have HB := Lib.hid HB0
  clear HB0
  obtain ⟨b, en⟩ := r
  simp only at HB hr ⊢
  by_cases h1 : en = 0
  · subst h1
    rw [if_pos rfl]
    have HP1 := Lib.hid (fun w' => pieces_at b hr w')
    have HSt := Lib.hid (fun fa fc w' hf => steps_at num fa none fc 0 (chunks b) [] w' hf ⟨by simp, .inl rfl⟩)
    generalize stepsFull num (chunks b) [] = L at *
    generalize chunks b = C at *
    go_enter Try.func65, Try.ntmps65
    go_wp2_with fail
    refine HB.out.mono ?_; rintro e w1 ⟨rfl, hb1⟩
    have B1 := Lib.hid hb1
    clear hb1
    go_wp2_with fail
    refine (HP1.out _).mono ?_; rintro e w2 ⟨fa, fc, rfl, hb2, hfa⟩
    have B2 := Lib.hid (B1.out.trans (hb2.mono B1.out.size))
    have HFa := Lib.hid hfa
    clear hb2 hfa
    go_wp2_with fail
    refine (HSt.out fa fc _ HFa.out).mono ?_; rintro e w4 ⟨v4, rfl, hb4, hown4⟩
    have HO4 := Lib.hid (StepsOut.of B2.out hb4 hown4)
    clear hb4 hown4
    go_wp2_with fail
    go_ret2
    exact ⟨_, rfl, HO4.out⟩
  · rw [if_neg h1]
    go_enter Try.func65, Try.ntmps65
    go_wp2_with fail
    refine HB.out.mono ?_; rintro e w1 ⟨rfl, hb1⟩
    have B1 := Lib.hid hb1
    clear hb1
    go_wp2_with fail
    go_ret2
    exact ⟨_, rfl, StepsOut.nil B1.out⟩
end
end Go.Proofs.Ytljommhbhpappaa
