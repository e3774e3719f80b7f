/-
  Layer 13 (stage): contracts in the form of the laws; awake of chapter 13.
-/
import Derived.Test.YthehglhbgplfhaaLand
import Derived.Test.YthehglhbgplfhaaApply2
namespace Go.Proofs.Ythehglhbgplfhaa
open Go.RowKit Go.Joins
set_option linter.unusedVariables false
set_option linter.unusedSimpArgs false

set_option maxHeartbeats 1000000 in
theorem memory_bad (n : Int) (h : n < 1 ∨ 1024 < n) (w : World) :
    Calls Try.prog 13 #[.int .i64 n] w fun e w' => e = .returned (.tuple #[.pointer none, .int .i64 1]) ∧ w = w' := by
  by_cases h1 : n < 1
  · clear h
    go_enter Try.func13, Try.ntmps13
    go_wp2_with fail
    go_ret2
    exact ⟨rfl, rfl⟩
  · have h2 : 1024 < n := by omega
    clear h
    go_enter Try.func13, Try.ntmps13
    go_wp2_with fail
    go_ret2
    exact ⟨rfl, rfl⟩
theorem okKind (k : Int) (h0 : 0 ≤ k) (h4 : k ≤ 4) : okPg { k := k } = true := by
  refine okPg_of ?_ fun i hi => ?_
  · simp [okH]; omega
  · have h6 : i = 0 ∨ i = 1 ∨ i = 2 ∨ i = 3 ∨ i = 4 ∨ i = 5 := by omega
    rcases h6 with rfl | rfl | rfl | rfl | rfl | rfl <;> exact okC00

section
variable {P : Nat → Prop} {w0 w : World} {b hb : Nat} {S : Vol}
theorem set_lay (L : Lay P w0 w b hb S) (id : Int) (p : Pg) :
    Calls Try.prog 21 #[.pointer (some ⟨b, 0, none⟩), .int .i64 id, p.v] w fun e w' => e = .returned (.int .i64 (chkE (okSet id p))) ∧ Lay P w0 w' b hb (if okSet id p then S.put id p else S) := by
  obtain ⟨mb, pb, hs, h4⟩ := L.at'
  exact (set_any S b mb hb pb id p w hs).mono fun e w' ⟨he, hg, hs'⟩ => ⟨he, Lay.write L.keep L.dom h4 hg hs'⟩
theorem get_lay (L : Lay P w0 w b hb S) (id : Int) :
    Calls Try.prog 18 #[.pointer (some ⟨b, 0, none⟩), .int .i64 id] w fun e w' => e = .returned (.tuple #[(stPg S id).v, .int .i64 (stE S id)]) ∧ Lay P w0 w' b hb S ∧ Below w.heap.size w w' := by
  obtain ⟨mb, pb, hs, h4⟩ := L.at'
  exact (get_any S b mb hb pb id w hs).mono fun e w' ⟨he, hbl⟩ => ⟨he, L.step hbl, hbl⟩
theorem shelfGet_lay (L : Lay P w0 w b hb S) (id : Int) :
    Calls Try.prog 25 #[.pointer (some ⟨hb, 0, none⟩), .int .i64 id] w fun e w' => e = .returned (.tuple #[(shelfPg S.base id).v, .int .i64 (shelfE S.base id)]) ∧ Lay P w0 w' b hb S ∧ Below w.heap.size w w' := by
  obtain ⟨mb, pb, hs, h4⟩ := L.at'
  exact (shelfGet_any hb pb S.base id w hs.2.2.1).mono fun e w' ⟨he, hbl⟩ => ⟨he, L.step hbl, hbl⟩
end

/-- the stage that awake makes -/
def A13 : Vol := (⟨List.replicate 2 Pg.zero, []⟩ : Vol).put 1 { k := 3 }
theorem A13_fit : A13.Fit 2 := (Vol.Fit.nil (List.replicate 2 Pg.zero) (by simp)).put 1 { k := 3 } (by omega) (by decide) (okKind 3 (by omega) (by omega))
theorem A13_keys : A13.keys = [1] := by
  show sortK [(1, Pg.v { k := 3 })] = [1]
  unfold sortK
  simp [List.mergeSort]
theorem A13_imgs : imgs A13 A13.keys = [(1, { k := 3 })] := by
  rw [A13_keys]
  have e1 : stPg A13 1 = { k := 3 } := by rw [A13, stPg_put, if_pos rfl]
  have e2 : shelfPg A13.base 1 = Pg.zero := rfl
  have e3 : pgEq Pg.zero { k := 3 } = false := pgEq_false (by intro h; have := congrArg Pg.k h; cases this)
  simp [imgs, e1, e2, e3]

set_option maxHeartbeats 2000000 in
set_option maxRecDepth 100000 in
theorem awake13 (w : World) :
    Calls Try.prog 20 #[] w fun e w' => e = .returned (.bool true) ∧ Below w.heap.size w w' := by
  have HM := Lib.hid (fun (w' : World) => memory_ok 2 (by omega) (by omega) w')
  have HN := Lib.hid (fun hb pb w' hB h h1 h2 => new_lay hb pb (List.replicate 2 Pg.zero) w w' hB h h1 h2)
  have hs := fun (P : Nat → Prop) (w1 w' : World) b hb (L : Lay P w1 w' b hb ⟨List.replicate 2 Pg.zero, []⟩) => set_lay L 1 { k := 3 }
  have e1 : okSet 1 { k := 3 } = true := okSet_one (okKind 3 (by omega) (by omega)) 1 (by omega) (by omega)
  rw [e1] at hs
  have HS := Lib.hid hs
  have hg := fun (P : Nat → Prop) (w1 w' : World) b hb (L : Lay P w1 w' b hb A13) => get_lay L 1
  have e2 : stPg A13 1 = { k := 3 } := by rw [A13, stPg_put, if_pos rfl]
  have e3 : stE A13 1 = 0 := by rw [A13, stE_put, if_pos rfl]
  rw [e2, e3] at hg
  have HG := Lib.hid hg
  have hq := fun (P : Nat → Prop) (w1 w' : World) b hb (L : Lay P w1 w' b hb A13) => shelfGet_lay L 1
  have e4 : shelfPg A13.base 1 = Pg.zero := rfl
  have e5 : shelfE A13.base 1 = 0 := rfl
  rw [e4, e5] at hq
  have HQ := Lib.hid hq
  have hi := fun (P : Nat → Prop) (w1 w' : World) b hb (L : Lay P w1 w' b hb A13) => images_lay L A13_fit
  rw [A13_imgs] at hi
  have HI := Lib.hid hi
  have p1 := pgEq_self { k := 3 }
  have p2 := pgEq_self Pg.zero
  clear hs e1 hg e2 e3 hq e4 e5 hi
  go_enter Try.func20, Try.ntmps20
  go_wp2_with fail
  refine (HM.out _).mono ?_; rintro e w1 ⟨hb, pb, rfl, hb1, q1, q2, hs1⟩
  have K1 := Lib.hid hb1
  have K2 := Lib.hid hs1
  clear hb1 hs1
  go_wp2_with fail
  refine (HN.out hb pb _ K1.out K2.out q1 q2).mono ?_; rintro e w2 ⟨b, rfl, L2⟩
  have K3 := Lib.hid L2
  clear L2
  have hz2 := K3.out.low.size
  have L3 := K3.out.guard (.cells (Pg.cs { k := 3 }) 41)
  obtain ⟨Q, hQ⟩ : ∃ Q : Nat → Prop, Q = fun k => k < w.heap.size ∨ k = w2.heap.size := ⟨_, rfl⟩
  rw [← hQ] at L3
  have hQl : ∀ k, k < w.heap.size → Q k := by intro k hk; rw [hQ]; exact .inl hk
  have hQf : Q w2.heap.size := by rw [hQ]; exact .inr rfl
  have HQl := Lib.hid hQl
  have HQf := Lib.hid hQf
  have K4 := Lib.hid L3
  have K3b : Hid (Below w.heap.size w (w2.alloc (.cells (Pg.cs { k := 3 }) 41))) := Lib.hid (K3.out.low.alloc hz2 _)
  clear L3 hQl hQf hQ
  go_wp2_with fail
  refine (HS.out _ _ _ _ _ K4.out).mono ?_; rintro e w3 ⟨rfl, L3⟩
  have hx3 : rowAt w3 w2.heap.size = some (Pg.cs { k := 3 }) := by
    unfold rowAt
    rw [L3.keep.block _ HQf.out]
    exact rowAt_at w2 _ _ _ rfl
  have hs3 := L3.keep.size
  simp only [World.size_alloc] at hs3
  have K5 : Hid (Lay Q (w2.alloc (.cells (Pg.cs { k := 3 }) 41)) w3 b hb A13) := Lib.hid L3
  clear L3
  go_wp2_with fail
  refine (HG.out _ _ _ _ _ K5.out).mono ?_; rintro e w4 ⟨rfl, L4, hb4⟩
  have K6 := Lib.hid L4
  have hz4 := hb4.size
  have hx4 := (rowAt_below hb4 (by omega)).trans hx3
  clear L4 hb4 hx3
  go_wp2_with fail
  refine (HQ.out _ _ _ _ _ (K6.out.alloc _)).mono ?_; rintro e w5 ⟨rfl, L5, hb5⟩
  have hra : rowAt w5 w4.heap.size = some (Pg.cs { k := 3 }) := (rowAt_below hb5 (by go_size)).trans (rowAt_at _ _ _ _ rfl)
  have hx5 := (rowAt_below hb5 (by go_size)).trans ((rowAt_past w4 (.cells (Pg.cs { k := 3 }) 41) _ (by omega)).trans hx4)
  have hz5 := hb5.size
  simp only [World.size_alloc] at hz5
  have K7 := Lib.hid L5
  clear L5 hb5 hx4
  go_wp2_with fail
  refine (HI.out _ _ _ _ _ (K7.out.alloc _)).mono ?_; rintro e w6 ⟨v, rfl, L6, hb6, ho6⟩
  have h56 : w5.heap.size + 1 ≤ w6.heap.size := by have := hb6.size; simpa using this
  have hra6 := (rowAt_below hb6 (by go_size)).trans ((rowAt_past w5 (.cells Pg.zero.cs 41) _ (by omega)).trans hra)
  have hx6 := (rowAt_below hb6 (by go_size)).trans ((rowAt_past w5 (.cells Pg.zero.cs 41) _ (by omega)).trans hx5)
  have hb6' : rowAt w6 w5.heap.size = some Pg.zero.cs := (rowAt_below hb6 (by go_size)).trans (rowAt_at _ _ _ _ rfl)
  obtain ⟨g, vc, hv⟩ := ownsRow_form ho6 (by simp)
  subst hv
  have hc := ho6.cellAt 0 (by simp)
  have hc0 : w6.cell? ⟨g, 0, none⟩ = some (.int .i64 1) := hc.trans rfl
  have KB := Lib.hid (K3b.out.trans (L6.keep.below HQl.out))
  clear L6 hb6 ho6 hc hra hx5
  go_wp2_with fail
  go_ret
  exact ⟨rfl, KB.out⟩
end Go.Proofs.Ythehglhbgplfhaa
