/-
  Layer 13 (stage): contracts in the form of the laws; awake of chapter 13.
-/
import Derived.Test.YtljommhbhpappaaGreatPkLand
import Derived.Test.YtljommhbhpappaaGreatApply2
namespace Go.Proofs.YtljommhbhpappaaGreat
open Go.RowKit Go.Joins
set_option linter.unusedVariables false
set_option linter.unusedSimpArgs false

set_option maxHeartbeats 1000000 in
theorem memory_bad (n : Int) (h : n < 1 ∨ 1024 < n) (w : World) :
    Calls Tryz.prog 17 #[.int .i64 n] w fun e w' => e = .returned (.tuple #[.pointer none, .int .i64 1]) ∧ w = w' := by
  by_cases h1 : n < 1
  · clear h
    go_enter Tryz.func17, Tryz.ntmps17
    go_wp2_with fail
    go_ret2
    exact ⟨rfl, rfl⟩
  · have h2 : 1024 < n := by omega
    clear h
    go_enter Tryz.func17, Tryz.ntmps17
    go_wp2_with fail
    go_ret2
    exact ⟨rfl, rfl⟩
theorem okKind (k : Int) (h0 : 0 ≤ k) (h4 : k ≤ 4) : okPg { k := k } = true := by
  refine okPg_of ?_ fun i hi => ?_
  · simp [okH]; omega
  · have h6 : i = 0 ∨ i = 1 ∨ i = 2 ∨ i = 3 ∨ i = 4 ∨ i = 5 := by omega
    rcases h6 with rfl | rfl | rfl | rfl | rfl | rfl <;> exact okC00

section
variable {P : Nat → Prop} {w0 w : World} {b hb : Nat} {S : Vol}
theorem set_lay (L : Lay P w0 w b hb S) (id : Int) (p : Pg) :
    Calls Tryz.prog 16 #[.pointer (some ⟨b, 0, none⟩), .int .i64 id, p.v] w fun e w' => e = .returned (.int .i64 (chkE (okSet id p))) ∧ Lay P w0 w' b hb (if okSet id p then S.put id p else S) := by
  obtain ⟨mb, pb, hs, h4⟩ := L.at'
  exact (set_any S b mb hb pb id p w hs).mono fun e w' ⟨he, hg, hs'⟩ => ⟨he, Lay.write L.keep L.dom h4 hg hs'⟩
theorem get_lay (L : Lay P w0 w b hb S) (id : Int) :
    Calls Tryz.prog 13 #[.pointer (some ⟨b, 0, none⟩), .int .i64 id] w fun e w' => e = .returned (.tuple #[(stPg S id).v, .int .i64 (stE S id)]) ∧ Lay P w0 w' b hb S ∧ Below w.heap.size w w' := by
  obtain ⟨mb, pb, hs, h4⟩ := L.at'
  exact (get_any S b mb hb pb id w hs).mono fun e w' ⟨he, hbl⟩ => ⟨he, L.step hbl, hbl⟩
theorem shelfGet_lay (L : Lay P w0 w b hb S) (id : Int) :
    Calls Tryz.prog 127 #[.pointer (some ⟨hb, 0, none⟩), .int .i64 id] w fun e w' => e = .returned (.tuple #[(shelfPg S.base id).v, .int .i64 (shelfE S.base id)]) ∧ Lay P w0 w' b hb S ∧ Below w.heap.size w w' := by
  obtain ⟨mb, pb, hs, h4⟩ := L.at'
  exact (shelfGet_any hb pb S.base id w hs.2.2.1).mono fun e w' ⟨he, hbl⟩ => ⟨he, L.step hbl, hbl⟩
end

/-- the stage that awake makes -/
def A13 : Vol := (⟨List.replicate 2 Pg.zero, []⟩ : Vol).put 1 { k := 3 }
theorem A13_fit : A13.Fit 2 := (Vol.Fit.nil (List.replicate 2 Pg.zero) (by simp)).put 1 { k := 3 } (by omega) (by decide) (okKind 3 (by omega) (by omega))
theorem A13_keys : A13.keys = [1] := by
  show sortK [(1, Pg.v { k := 3 })] = [1]
  unfold sortK
  simp [List.mergeSort]
theorem A13_imgs : imgs A13 A13.keys = [(1, { k := 3 })] := by
  rw [A13_keys]
  have e1 : stPg A13 1 = { k := 3 } := by rw [A13, stPg_put, if_pos rfl]
  have e2 : shelfPg A13.base 1 = Pg.zero := rfl
  have e3 : pgEq Pg.zero { k := 3 } = false := pgEq_false (by intro h; have := congrArg Pg.k h; cases this)
  simp [imgs, e1, e2, e3]

end Go.Proofs.YtljommhbhpappaaGreat
