/-
  Layer 9 (locks): the document's before and waits.
-/
import Derived.Test.YtileamjmhhifaaaGreatLd4
import Derived.Test.YtileamjmhhifaaaGreatBOrd
namespace Go.Proofs.YtileamjmhhifaaaGreat
open Go.RowKit Go.Joins Go.Sort Go.Shelf
set_option linter.unusedVariables false
set_option linter.unusedSimpArgs false

open Classical in
noncomputable def befB (a b : Dr) : Bool :=
  if a.n.s = b.n.s then
    if a.n.i = b.n.i then
      if (a.m = 0 ↔ b.m = 0) then (if a.m = 0 then decide (a.t < b.t) else decide (a.x < b.x))
      else decide (a.m ≠ 0)
    else decide (KLt a.n.i b.n.i)
  else decide (a.n.s < b.n.s)
set_option maxHeartbeats 4000000 in
theorem bef_any (a b : Dr) (w : World) : Calls Tryz.prog 40 #[.agg a.cs, .agg b.cs] w fun e w' => e = .returned (.bool (befB a b)) ∧ Gr w w' := by
  obtain ⟨⟨sa, ai⟩, ax, am, aw, at'⟩ := a
  obtain ⟨⟨sb, bi⟩, bx, bm, bw, bt⟩ := b
  simp only [Dr.cs]
  unfold befB
  simp only
  have fin : ∀ o1 o2 : Obj, Gr w ((w.alloc o1).alloc o2) := fun o1 o2 => ((Gr.refl w).alloc o1).alloc o2
  have HF := Lib.hid fin
  clear fin
  by_cases e1 : sa = sb
  · subst e1
    rw [if_pos rfl]
    by_cases e2 : ai = bi
    · subst e2
      rw [if_pos rfl]
      have e3 : (ai.toList == ai.toList) = true := beq_self_eq_true _
      by_cases c1 : am = 0
      · by_cases c2 : bm = 0
        · subst c1 c2
          rw [if_pos Iff.rfl, if_pos rfl]
          go_enter Tryz.func40, Tryz.ntmps40
          go_wp2
          go_ret
          exact ⟨rfl, HF.out _ _⟩
        · subst c1
          have c3 : (bm == 0) = false := by simpa using c2
          rw [if_neg (fun h => c2 (h.1 rfl))]
          go_enter Tryz.func40, Tryz.ntmps40
          go_wp2
          go_ret
          exact ⟨by simp, HF.out _ _⟩
      · have c3 : (am == 0) = false := by simpa using c1
        have c5 : (am != 0) = true := by simpa using c1
        by_cases c2 : bm = 0
        · subst c2
          rw [if_neg (fun h => c1 (h.2 rfl))]
          go_enter Tryz.func40, Tryz.ntmps40
          go_wp2
          go_ret
          exact ⟨by simp [c1], HF.out _ _⟩
        · have c4 : (bm == 0) = false := by simpa using c2
          rw [if_pos ⟨fun h => absurd h c1, fun h => absurd h c2⟩, if_neg c1]
          go_enter Tryz.func40, Tryz.ntmps40
          go_wp2
          go_ret
          exact ⟨rfl, HF.out _ _⟩
    · rw [if_neg e2]
      have e3 : (ai.toList == bi.toList) = false := by rw [beq_eq, decide_eq_false_iff_not]; exact e2
      have e4 := blt_eq ai bi
      have HE : Hid (∀ c, decide (KLt ai bi) = c → (decide (KLt ai bi) : Bool) = c) := Lib.hid fun c h => h
      go_enter Tryz.func40, Tryz.ntmps40
      go_wp2
      go_ret
      exact ⟨by first | rfl | (rw [e4]) | simp [e4], HF.out _ _⟩
  · rw [if_neg e1]
    have e2 : (sa != sb) = true := by simpa using e1
    go_enter Tryz.func40, Tryz.ntmps40
    go_wp2
    go_ret
    exact ⟨rfl, HF.out _ _⟩
theorem two_boxes {w w' : World} {o1 o2 : Obj} (h : Below ((w.alloc o1).alloc o2).heap.size ((w.alloc o1).alloc o2) w') : w'.heap[w.heap.size]? = some o1 ∧ w'.heap[w.heap.size + 1]? = some o2 := by
  have e1 : (w.alloc o1).heap.size = w.heap.size + 1 := World.size_alloc _ _
  have h1 := heap_alloc_new w o1
  have h2 := heap_alloc_new (w.alloc o1) o2
  rw [e1] at h2
  have h3 := ((Below.refl (w.alloc o1).heap.size (w.alloc o1)).alloc (Nat.le_refl _) o2).block w.heap.size (by omega)
  exact ⟨(h.block _ (by rw [World.size_alloc, e1]; omega)).trans (h3.trans h1), (h.block _ (by rw [World.size_alloc, e1]; omega)).trans h2⟩
def waitsB (a b : Dr) : Bool := Nm.eqB a.n b.n && (a.w != 0 && (a.x != b.x && ((b.m != 0 && !compatL a.w b.m) || (a.m == 0 && ((b.m != 0 && b.w != 0) || (b.m == 0 && decide (b.t < a.t)))))))
set_option maxHeartbeats 8000000 in
theorem waits_any (a b : Dr) (w : World) : Calls Tryz.prog 46 #[.agg a.cs, .agg b.cs] w fun e w' => e = .returned (.bool (waitsB a b)) ∧ Gr w w' := by
  have HC := Lib.hid fun W => rcompatB a.w b.m W
  obtain ⟨⟨sa, ai⟩, ax, am, aw, at'⟩ := a
  obtain ⟨⟨sb, bi⟩, bx, bm, bw, bt⟩ := b
  simp only [Dr.cs] at HC ⊢
  unfold waitsB
  simp only
  have heq := nm_eqv ⟨sa, ai⟩ ⟨sb, bi⟩
  have fin : ∀ o1 o2 : Obj, Gr w ((w.alloc o1).alloc o2) := fun o1 o2 => ((Gr.refl w).alloc o1).alloc o2
  have HF := Lib.hid fin
  clear fin
  generalize Nm.eqB ⟨sa, ai⟩ ⟨sb, bi⟩ = qn at *
  simp only at heq
  cases qn with
  | false =>
    go_enter Tryz.func46, Tryz.ntmps46
    go_wp2
    go_ret
    exact ⟨rfl, HF.out _ _⟩
  | true =>
    by_cases c1 : aw = 0
    · subst c1
      go_enter Tryz.func46, Tryz.ntmps46
      go_wp2
      go_ret
      exact ⟨rfl, HF.out _ _⟩
    have d1 : (aw != 0) = true := by simpa using c1
    have f1 : (aw == 0) = false := by simpa using c1
    by_cases c2 : ax = bx
    · subst c2
      have d2 : (ax != ax) = false := by simp
      go_enter Tryz.func46, Tryz.ntmps46
      go_wp2
      go_ret
      exact ⟨by rw [d1, d2]; rfl, HF.out _ _⟩
    have d2 : (ax != bx) = true := by simpa using c2
    have f2 : (ax == bx) = false := by simpa using c2
    rw [d1, d2]
    obtain ⟨cq, hcq⟩ : ∃ cq, compatL aw bm = cq := ⟨_, rfl⟩
    rw [hcq] at HC ⊢
    clear hcq
    by_cases c3 : bm = 0
    · subst c3
      by_cases c4 : am = 0
      · subst c4
        go_enter Tryz.func46, Tryz.ntmps46
        go_wp2
        go_ret
        exact ⟨by simp, HF.out _ _⟩
      · have d4 : (am != 0) = true := by simpa using c4
        have f4 : (am == 0) = false := by simpa using c4
        go_enter Tryz.func46, Tryz.ntmps46
        go_wp2
        go_ret
        exact ⟨by rw [f4]; rfl, HF.out _ _⟩
    have d3 : (bm != 0) = true := by simpa using c3
    have f3 : (bm == 0) = false := by simpa using c3
    rw [d3, f3]
    cases cq with
    | false =>
      go_enter Tryz.func46, Tryz.ntmps46
      go_wp2_with fail
      refine (HC.out _).mono ?_
      rintro e w' ⟨rfl, hg⟩
      have HG := Lib.hid ((HF.out _ _).trans hg)
      obtain ⟨hA, hB⟩ := two_boxes hg.below
      have ka3 := cell_of_block hA 3
      have ka5 := cell_of_block hA 5
      have kb3 := cell_of_block hB 3
      have kb4 := cell_of_block hB 4
      have kb5 := cell_of_block hB 5
      simp only [List.getElem?_toArray, List.getElem?_cons_succ, List.getElem?_cons_zero] at ka3 ka5 kb3 kb4 kb5
      clear hA hB
      clear hg
      go_wp2
      go_ret
      exact ⟨rfl, HG.out⟩
    | true =>
      by_cases c4 : am = 0
      · subst c4
        go_enter Tryz.func46, Tryz.ntmps46
        go_wp2_with fail
        refine (HC.out _).mono ?_
        rintro e w' ⟨rfl, hg⟩
        have HG := Lib.hid ((HF.out _ _).trans hg)
        obtain ⟨hA, hB⟩ := two_boxes hg.below
        have ka3 := cell_of_block hA 3
        have ka5 := cell_of_block hA 5
        have kb3 := cell_of_block hB 3
        have kb4 := cell_of_block hB 4
        have kb5 := cell_of_block hB 5
        simp only [List.getElem?_toArray, List.getElem?_cons_succ, List.getElem?_cons_zero] at ka3 ka5 kb3 kb4 kb5
        clear hA hB
        clear hg
        by_cases c5 : bw = 0
        · subst c5
          go_wp2
          go_ret
          exact ⟨by simp, HG.out⟩
        · have d5 : (bw != 0) = true := by simpa using c5
          go_wp2
          go_ret
          exact ⟨by simp [c5], HG.out⟩
      · have d4 : (am != 0) = true := by simpa using c4
        have f4 : (am == 0) = false := by simpa using c4
        go_enter Tryz.func46, Tryz.ntmps46
        go_wp2_with fail
        refine (HC.out _).mono ?_
        rintro e w' ⟨rfl, hg⟩
        have HG := Lib.hid ((HF.out _ _).trans hg)
        obtain ⟨hA, hB⟩ := two_boxes hg.below
        have ka3 := cell_of_block hA 3
        have ka5 := cell_of_block hA 5
        have kb3 := cell_of_block hB 3
        have kb4 := cell_of_block hB 4
        have kb5 := cell_of_block hB 5
        simp only [List.getElem?_toArray, List.getElem?_cons_succ, List.getElem?_cons_zero] at ka3 ka5 kb3 kb4 kb5
        clear hA hB
        clear hg
        go_wp2
        go_ret
        exact ⟨by rw [f4]; rfl, HG.out⟩
end Go.Proofs.YtileamjmhhifaaaGreat
