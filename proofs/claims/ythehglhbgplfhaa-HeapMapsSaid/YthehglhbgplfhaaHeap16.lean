/-
  Layer 15 (heap): a change of a heap that lands, or is dropped: the laws' own do.
-/
import Derived.Test.YthehglhbgplfhaaHeap15
namespace Go.Proofs.Ythehglhbgplfhaa
open Go.RowKit Go.Joins
set_option linter.unusedVariables false
set_option linter.unusedSimpArgs false

theorem Poked.low {cs : List Nat} {w w1 w2 : World} (h : Poked cs w w1) (hb : Below w.heap.size w1 w2) : Poked cs w w2 :=
  ⟨hb.os.trans h.os, hb.tape.trans h.tape, hb.output.trans h.output, Nat.le_trans h.size hb.size, fun q hq hc => (hb.block q hq).trans (h.block q hq hc)⟩
theorem Poked.row {cs : List Nat} {w w' : World} (h : Poked cs w w') {n : Nat} (hn : n < w.heap.size) (hc : n ∉ cs) : rowAt w' n = rowAt w n := by
  unfold rowAt; rw [h.block n hn hc]

/-- one cell otherwise -/
theorem step_set {S : Vol} {n N : Nat} {C : List Pg} (hh : HeapOk S n C) (hf : S.Fit N) (hn : n ≤ N) (k : Nat) (hk : k < C.length) (i : Nat) (hi : i < 6) (x : Int) (y : ByteArray) (hok : okC x y = true) :
    HeapOk (S.put ((2 + k : Nat) : Int) (C[k].setC i x y)) n (C.set k (C[k].setC i x y)) ∧ (S.put ((2 + k : Nat) : Int) (C[k].setC i x y)).Fit N := by
  have hsc := h_setC C[k] i hi x y
  have hp := ok_setC (hh.ok k hk) i hi x y hok
  have ht := hh.top
  exact ⟨hh.set k hk _ hp ⟨hsc.1, hsc.2.2.1, hsc.2.2.2⟩, hf.put _ _ (by omega) (by omega) hp⟩
theorem okC_cell {S : Vol} {n : Nat} {C : List Pg} (hh : HeapOk S n C) (k : Nat) (hk : k < C.length) (i : Nat) (hi : i < 6) : okC (C[k].a i) (C[k].d i) = true := (okPg_to (hh.ok k hk)).2 i hi
theorem doStep_set {S1 : Vol} {n : Nat} {C C1 : List Pg} (hh : HeapOk S1 n C1) (hsame : SameC C1 C) (hl : C.length ≤ C1.length) (k : Nat) (hk : k < C1.length) (i : Nat) (hi : i < 6) (x : Int) (y : ByteArray) (u : Un) (hu1 : u.kind = 1) (hu2 : u.page = ((2 + k : Nat) : Int)) (hu3 : u.slot = (i : Int)) (hu4 : u.st = C1[k].a i) (hu5 : u.d = C1[k].d i) : DoStep C (C1.set k (C1[k].setC i x y)) u 0 := by
  have h1 := hsame k i hi
  rw [cellA_lt hk, cellD_lt hk] at h1
  refine ⟨by rw [List.length_set]; exact hl, .inr ⟨rfl, hu1, k, i, by rw [List.length_set]; exact hk, hi, hu2, hu3, by rw [hu4]; exact h1.1, by rw [hu5]; exact h1.2, by rw [hu4, hu5]; exact okC_cell hh k hk i hi, fun k' i' hi' hne => ?_⟩⟩
  have h2 := cell_set hk i hi x y k' i' hi'
  rw [if_neg hne, if_neg hne] at h2
  have h3 := hsame k' i' hi'
  exact ⟨h2.1.trans h3.1, h2.2.trans h3.2⟩
theorem doStep_none (C : List Pg) (u : Un) (e : Int) (h : e ≠ 0 ∨ u.kind = 0) : DoStep C C u e := ⟨Nat.le_refl _, .inl ⟨SameC.refl C, h⟩⟩

/-- what an operation of a heap leaves: what it set can land; dropped, all is as it was -/
structure OpPost (S : Vol) (n N : Nat) (C C' : List Pg) (u : Un) (e : Int) (b mb hb pb : Nat) (S5 : Vol) (w w1 : World) : Prop where
  grown : w.grownBy w1 (some mb)
  stage : StageAt w1 b mb hb pb S5
  fit : S5.Fit N
  clean : Clean (S5.after e) n N C'
  step : DoStep C C' u e
theorem OpPost.none' {S S5 : Vol} {n N : Nat} {C : List Pg} {u : Un} {e : Int} {b mb hb pb : Nat} {w w1 : World} (hc : Clean S n N C) (he : e ≠ 0) (hg : w.grownBy w1 (some mb)) (hs : StageAt w1 b mb hb pb S5) (hbs : S5.base = S.base) (hf : S5.Fit N) : OpPost S n N C C u e b mb hb pb S5 w w1 := by
  refine ⟨hg, hs, hf, ?_, doStep_none C u e (.inl he)⟩
  rw [Vol.after, if_neg he, hbs, hc.eq]
  exact hc
theorem OpPost.set {S S1 : Vol} {n N : Nat} {C C1 : List Pg} {u : Un} {b mb hb pb : Nat} {w w1 : World} (hh : HeapOk S1 n C1) (hf : S1.Fit N) (hn : n ≤ N) (hsame : SameC C1 C) (hl : C.length ≤ C1.length) (k : Nat) (hk : k < C1.length) (i : Nat) (hi : i < 6) (x : Int) (y : ByteArray) (hok : okC x y = true)
    (hu1 : u.kind = 1) (hu2 : u.page = ((2 + k : Nat) : Int)) (hu3 : u.slot = (i : Int)) (hu4 : u.st = C1[k].a i) (hu5 : u.d = C1[k].d i) (hg : w.grownBy w1 (some mb)) (hs : StageAt w1 b mb hb pb (S1.put ((2 + k : Nat) : Int) (C1[k].setC i x y))) :
    OpPost S n N C (C1.set k (C1[k].setC i x y)) u 0 b mb hb pb (S1.put ((2 + k : Nat) : Int) (C1[k].setC i x y)) w w1 := by
  obtain ⟨h1, h2⟩ := step_set hh hf hn k hk i hi x y hok
  refine ⟨hg, hs, h2, ?_, doStep_set hh hsame hl k hk i hi x y u hu1 hu2 hu3 hu4 hu5⟩
  rw [Vol.after, if_pos rfl]
  exact Clean.landed h1 h2 hn

theorem insert_op {S : Vol} {n N : Nat} {C : List Pg} (hc : Clean S n N C) (b mb hb pb : Nat) (val : ByteArray) (vp : Option Addr) (len cap : Nat) (zs : List Int) (w : World) (hs : StageAt w b mb hb pb S) (hR : RowOk w vp len zs) :
    Calls Try.prog 17 #[.pointer (some ⟨b, 0, none⟩), .int .i64 1, .string val, .slice vp len cap] w fun r w1 => ∃ (id : Int) (u : Un) (e : Int) (S5 : Vol) (C' : List Pg), r = .returned (.tuple #[.int .i64 id, u.v, .int .i64 e]) ∧ OpPost S n N C C' u e b mb hb pb S5 w w1 := by
  by_cases hv : 32 < val.size
  · refine (insert_long val _ _ vp len cap hv w).mono ?_
    rintro r w1 ⟨rfl, hb1⟩
    exact ⟨0, Un.zero, 2, S, C, rfl, OpPost.none' (e := 2) hc (by omega) (grown_of_below hb1 _) (hs.below hb1 hs.lt) rfl hc.fit⟩
  · refine (insert_any hc.heap b mb hb pb val (by omega) vp len cap zs w hs hR).mono ?_
    rintro r w1 (⟨g, k, i, S1, q, rfl, ho⟩ | ⟨S1, rfl, hbd⟩)
    · have hA := ho.at'
      have hq := hA.pg hA.lt
      have hlen := growN_len g C
      refine ⟨_, _, 0, S1.put ((2 + k : Nat) : Int) (((growN g C)[k]'hA.lt).setC i 1 val), (growN g C).set k (((growN g C)[k]'hA.lt).setC i 1 val), rfl, ?_⟩
      have hst := ho.stage
      rw [← hq] at hst
      exact OpPost.set (C := C) hA.heap (hA.fit N hc.le hc.fit) hc.le (SameC.growN C hc.heap.pos g) (by omega) k hA.lt i ho.six 1 val (by simp [okC]; omega) rfl rfl rfl (by rw [hq]) (by rw [hq]) ho.grown hst
    · exact ⟨0, Un.zero, 140, S1, C, rfl, OpPost.none' (e := 140) hc (by omega) hbd.grown hbd.stage hbd.base (hbd.fit N hc.le hc.fit)⟩

theorem update_op {S : Vol} {n N : Nat} {C : List Pg} (hc : Clean S n N C) (b mb hb pb : Nat) (id : Int) (hid : id < 9223372036854775808) (val : ByteArray) (w : World) (hs : StageAt w b mb hb pb S) :
    Calls Try.prog 34 #[.pointer (some ⟨b, 0, none⟩), .int .i64 1, .int .i64 id, .string val] w fun r w1 => ∃ (u : Un) (e : Int) (S5 : Vol) (C' : List Pg), r = .returned (.tuple #[u.v, .int .i64 e]) ∧ OpPost S n N C C' u e b mb hb pb S5 w w1 := by
  by_cases hv : 32 < val.size
  · refine (update_long _ _ _ val hv w).mono ?_
    rintro r w1 ⟨rfl, hb1⟩
    exact ⟨Un.zero, 2, S, C, rfl, OpPost.none' (e := 2) hc (by omega) (grown_of_below hb1 _) (hs.below hb1 hs.lt) rfl hc.fit⟩
  · by_cases hhit : ∃ k, ∃ hk : k < C.length, hitB (2 + k) C[k] id = true
    · obtain ⟨k, hk, hhit⟩ := hhit
      obtain ⟨f1, f2, f3, f4⟩ := hit_facts hhit
      refine (update_hit hc.heap b mb hb pb id hid k hk hhit val (by omega) w hs).mono ?_
      rintro r w1 ⟨rfl, hg, hs1⟩
      exact ⟨_, 0, _, _, rfl, OpPost.set (C := C) hc.heap hc.fit hc.le (SameC.refl C) (Nat.le_refl _) k hk (id % 8).toNat (by omega) 1 val (by simp [okC]; omega) rfl rfl (by show id % 8 = _; omega) (by rw [undoOf, getD_get hk]) (by rw [undoOf, getD_get hk]) hg hs1⟩
    · have hno : ∀ k (h : k < C.length), hitB (2 + k) C[k] id = false := fun k h => by
        cases hq : hitB (2 + k) C[k] id with
        | false => rfl
        | true => exact absurd ⟨k, h, hq⟩ hhit
      refine (update_miss hc.heap b mb hb pb id hid hno val (by omega) w hs).mono ?_
      rintro r w1 ⟨rfl, hb1⟩
      exact ⟨Un.zero, 150, S, C, rfl, OpPost.none' (e := 150) hc (by omega) (grown_of_below hb1 _) (hs.below hb1 hs.lt) rfl hc.fit⟩

theorem delete_op {S : Vol} {n N : Nat} {C : List Pg} (hc : Clean S n N C) (b mb hb pb : Nat) (id : Int) (hid : id < 9223372036854775808) (w : World) (hs : StageAt w b mb hb pb S) :
    Calls Try.prog 35 #[.pointer (some ⟨b, 0, none⟩), .int .i64 1, .int .i64 id] w fun r w1 => ∃ (u : Un) (e : Int) (S5 : Vol) (C' : List Pg), r = .returned (.tuple #[u.v, .int .i64 e]) ∧ OpPost S n N C C' u e b mb hb pb S5 w w1 := by
  by_cases hhit : ∃ k, ∃ hk : k < C.length, hitB (2 + k) C[k] id = true
  · obtain ⟨k, hk, hhit⟩ := hhit
    obtain ⟨f1, f2, f3, f4⟩ := hit_facts hhit
    have hi : (id % 8).toNat < 6 := by omega
    have hok2 : okC 2 (C[k].d (id % 8).toNat) = true := by
      have h3 := okC_cell hc.heap k hk _ hi
      simp only [okC, Bool.and_eq_true, decide_eq_true_eq] at h3
      simp [okC, h3.1.2]
    refine (delete_hit hc.heap b mb hb pb id hid k hk hhit w hs).mono ?_
    rintro r w1 ⟨rfl, hg, hs1⟩
    exact ⟨_, 0, _, _, rfl, OpPost.set (C := C) hc.heap hc.fit hc.le (SameC.refl C) (Nat.le_refl _) k hk (id % 8).toNat hi 2 _ hok2 rfl rfl (by show id % 8 = _; omega) (by rw [undoOf, getD_get hk]) (by rw [undoOf, getD_get hk]) hg hs1⟩
  · have hno : ∀ k (h : k < C.length), hitB (2 + k) C[k] id = false := fun k h => by
      cases hq : hitB (2 + k) C[k] id with
      | false => rfl
      | true => exact absurd ⟨k, h, hq⟩ hhit
    refine (delete_miss hc.heap b mb hb pb id hid hno w hs).mono ?_
    rintro r w1 ⟨rfl, hb1⟩
    exact ⟨Un.zero, 150, S, C, rfl, OpPost.none' (e := 150) hc (by omega) (grown_of_below hb1 _) (hs.below hb1 hs.lt) rfl hc.fit⟩

/-- the undo laid in its variable -/
theorem do_tailA {S S5 : Vol} {n N : Nat} {C C' : List Pg} {u : Un} {e : Int} {b mb hb pb : Nat} {w W0 w1 : World} (hP : OpPost S n N C C' u e b mb hb pb S5 W0 w1) (B0 : Below w.heap.size w W0) (R6 : rowAt W0 (w.heap.size + 1) = some Un.zero.cs) (R8 : rowAt W0 (w.heap.size + 1 + 1) = some Un.zero.cs) (hz : W0.heap.size = w.heap.size + 1 + 1 + 1) (hl : b < w.heap.size ∧ mb < w.heap.size ∧ hb < w.heap.size ∧ pb < w.heap.size) :
    rowAt w1 (w.heap.size + 1 + 1) = some Un.zero.cs ∧ Poked [mb, pb] w (w1.setRow (w.heap.size + 1 + 1) u.cs) ∧ StageAt (w1.setRow (w.heap.size + 1 + 1) u.cs) b mb hb pb S5 ∧ rowAt (w1.setRow (w.heap.size + 1 + 1) u.cs) (w.heap.size + 1 + 1) = some u.cs ∧ rowAt (w1.setRow (w.heap.size + 1 + 1) u.cs) (w.heap.size + 1) = some Un.zero.cs ∧ w.heap.size + 1 + 1 < (w1.setRow (w.heap.size + 1 + 1) u.cs).heap.size := by
  have hz1 := hP.grown.size
  have r1 := (rowAt_grown hP.grown (by omega) (by omega)).trans R8
  have r2 := (rowAt_grown hP.grown (by omega) (by omega)).trans R6
  have hB : Below w.heap.size w1 (w1.setRow (w.heap.size + 1 + 1) u.cs) := below_setRow (Below.refl _ _) _ (by omega)
  have hp0 : Poked [mb, pb] w W0 := Poked.of_below B0
  have hp1 : Poked [mb, pb] W0 w1 := Poked.of_grown hP.grown (by simp)
  have hzz := hB.size
  exact ⟨r1, (hp0.trans hp1).low hB, hP.stage.below hB hl, rowAt_setRow _ _ _ _ r1, (rowAt_setRow_far _ _ _ _ (by omega)).trans r2, by omega⟩
theorem do_tailB {S' : Vol} {u : Un} {b mb hb pb : Nat} {w W2 w3 : World} (hp2 : Poked [mb, pb] w W2) (r8 : rowAt W2 (w.heap.size + 1 + 1) = some u.cs) (r6 : rowAt W2 (w.heap.size + 1) = some Un.zero.cs) (hz : w.heap.size + 1 + 1 < W2.heap.size) (hl : b < w.heap.size ∧ mb < w.heap.size ∧ hb < w.heap.size ∧ pb < w.heap.size) (hp3 : Poked [mb, pb] W2 w3) (hs : StageAt w3 b mb hb pb S') :
    rowAt w3 (w.heap.size + 1 + 1) = some u.cs ∧ rowAt w3 (w.heap.size + 1) = some Un.zero.cs ∧ rowAt (w3.setRow (w.heap.size + 1) u.cs) (w.heap.size + 1) = some u.cs ∧ Poked [mb, pb] w (w3.setRow (w.heap.size + 1) u.cs) ∧ StageAt (w3.setRow (w.heap.size + 1) u.cs) b mb hb pb S' := by
  have a1 := (hp3.row hz (by simp; omega)).trans r8
  have a2 := (hp3.row (show w.heap.size + 1 < W2.heap.size by omega) (by simp; omega)).trans r6
  have hz3 := hp3.size
  have hB : Below w.heap.size w3 (w3.setRow (w.heap.size + 1) u.cs) := below_setRow (Below.refl _ _) _ (by omega)
  exact ⟨a1, a2, rowAt_setRow _ _ _ _ a2, (hp2.trans hp3).low hB, hs.below hB hl⟩

set_option maxHeartbeats 8000000 in
set_option maxRecDepth 100000 in
theorem do_any {S : Vol} {n N : Nat} {C : List Pg} (hc : Clean S n N C) (c : Cl) (b mb hb pb : Nat) (w : World) (hs : StageAt w b mb hb pb S) (hcl : ClOk w c) :
    Calls Try.prog 37 #[.pointer (some ⟨hb, 0, none⟩), .pointer (some ⟨b, 0, none⟩), c.v] w fun r w' => ∃ (u : Un) (e : Int) (C' : List Pg) (S' : Vol), r = .returned (.tuple #[u.v, .int .i64 e]) ∧ Poked [mb, pb] w w' ∧ StageAt w' b mb hb pb S' ∧ Clean S' n N C' ∧ DoStep C C' u e := by
  obtain ⟨l1, l2, l3, l4⟩ := hs.lt
  have B0 : Below w.heap.size w (((w.alloc (.cells c.cs 79)).alloc (.cells Un.zero.cs 36)).alloc (.cells Un.zero.cs 36)) := ((((Below.refl _ _).alloc (Nat.le_refl _) _).alloc (by simp) _).alloc (by simp; omega) _)
  have hs0 := hs.below B0 ⟨l1, l2, l3, l4⟩
  have hcl0 := hcl.below B0
  have R5 : rowAt (((w.alloc (.cells c.cs 79)).alloc (.cells Un.zero.cs 36)).alloc (.cells Un.zero.cs 36)) w.heap.size = some c.cs := (rowAt_past _ _ _ (by simp; omega)).trans ((rowAt_past _ _ _ (by simp)).trans (rowAt_at w _ _ _ rfl))
  have R6 : rowAt (((w.alloc (.cells c.cs 79)).alloc (.cells Un.zero.cs 36)).alloc (.cells Un.zero.cs 36)) (w.heap.size + 1) = some Un.zero.cs := (rowAt_past _ _ _ (by simp)).trans (rowAt_at _ _ _ _ (by simp))
  have R8 : rowAt (((w.alloc (.cells c.cs 79)).alloc (.cells Un.zero.cs 36)).alloc (.cells Un.zero.cs 36)) (w.heap.size + 1 + 1) = some Un.zero.cs := rowAt_at _ _ _ _ (by simp)
  have hzW : (((w.alloc (.cells c.cs 79)).alloc (.cells Un.zero.cs 36)).alloc (.cells Un.zero.cs 36)).heap.size = w.heap.size + 1 + 1 + 1 := by simp
  have c0 : (((w.alloc (.cells c.cs 79)).alloc (.cells Un.zero.cs 36)).alloc (.cells Un.zero.cs 36)).cell? ⟨w.heap.size, 0, none⟩ = some (.int .i64 c.kind) := (cell_row R5 0).trans rfl
  have c2 : (((w.alloc (.cells c.cs 79)).alloc (.cells Un.zero.cs 36)).alloc (.cells Un.zero.cs 36)).cell? ⟨w.heap.size, 2, none⟩ = some (.int .i64 c.id) := (cell_row R5 2).trans rfl
  have c3 : (((w.alloc (.cells c.cs 79)).alloc (.cells Un.zero.cs 36)).alloc (.cells Un.zero.cs 36)).cell? ⟨w.heap.size, 3, none⟩ = some (.string c.val) := (cell_row R5 3).trans rfl
  have c4 : (((w.alloc (.cells c.cs 79)).alloc (.cells Un.zero.cs 36)).alloc (.cells Un.zero.cs 36)).cell? ⟨w.heap.size, 4, none⟩ = some (.slice c.ka c.kl c.kc) := (cell_row R5 4).trans rfl
  obtain ⟨hid, zs, hrow⟩ := hcl0
  have HI := Lib.hid (insert_op hc b mb hb pb c.val c.ka c.kl c.kc zs _ hs0 hrow)
  have HU := Lib.hid (update_op hc b mb hb pb c.id hid c.val _ hs0)
  have HD := Lib.hid (delete_op hc b mb hb pb c.id hid _ hs0)
  have HL := Lib.hid (fun (S5 : Vol) (hf : S5.Fit N) (e : Int) (w' : World) (h : StageAt w' b mb hb pb S5) => land_any hf e b mb hb pb w' h)
  have HC := Lib.hid hc
  have HB0 := Lib.hid B0
  have HS0 := Lib.hid hs0
  have hl : b < w.heap.size ∧ mb < w.heap.size ∧ hb < w.heap.size ∧ pb < w.heap.size := ⟨l1, l2, l3, l4⟩
  have HR6 := Lib.hid R6
  have HR8 := Lib.hid R8
  clear hs hs0 hcl hrow hc B0 R5 R6 R8
  by_cases k0 : c.kind = 0
  · rw [k0] at c0
    clear k0
    go_enter Try.func37, Try.ntmps37
    go_wp2_with fail
    refine HI.out.mono ?_; rintro r w1 ⟨id, u, e, S5, C', rfl, hP⟩
    obtain ⟨r1, p2, s2, r8, r6, z2⟩ := do_tailA hP HB0.out HR6.out HR8.out hzW hl
    have HCl := Lib.hid hP.clean
    have HSt := Lib.hid hP.step
    have HFt := Lib.hid hP.fit
    have HP2 := Lib.hid p2
    have HS2 := Lib.hid s2
    have HR82 := Lib.hid r8
    have HR62 := Lib.hid r6
    clear hP p2 s2 r8 r6
    go_wp2_with fail
    refine (HL.out S5 HFt.out e _ HS2.out).mono ?_; rintro r w3 ⟨rfl, hp3, hs3⟩
    obtain ⟨a1, a2, a3, a4, a5⟩ := do_tailB HP2.out HR82.out HR62.out z2 hl hp3 hs3
    have HA4 := Lib.hid a4
    have HA5 := Lib.hid a5
    clear hp3 hs3 a4 a5
    go_wp2_with fail
    exact ret_un rfl rfl (w.heap.size + 1) u rfl a3 ⟨u, e, C', _, rfl, HA4.out, HA5.out, HCl.out, HSt.out⟩
  by_cases k2 : c.kind = 2
  · rw [k2] at c0
    clear k0 k2
    go_enter Try.func37, Try.ntmps37
    go_wp2_with fail
    refine HU.out.mono ?_; rintro r w1 ⟨u, e, S5, C', rfl, hP⟩
    obtain ⟨r1, p2, s2, r8, r6, z2⟩ := do_tailA hP HB0.out HR6.out HR8.out hzW hl
    have HCl := Lib.hid hP.clean
    have HSt := Lib.hid hP.step
    have HFt := Lib.hid hP.fit
    have HP2 := Lib.hid p2
    have HS2 := Lib.hid s2
    have HR82 := Lib.hid r8
    have HR62 := Lib.hid r6
    clear hP p2 s2 r8 r6
    go_wp2_with fail
    refine (HL.out S5 HFt.out e _ HS2.out).mono ?_; rintro r w3 ⟨rfl, hp3, hs3⟩
    obtain ⟨a1, a2, a3, a4, a5⟩ := do_tailB HP2.out HR82.out HR62.out z2 hl hp3 hs3
    have HA4 := Lib.hid a4
    have HA5 := Lib.hid a5
    clear hp3 hs3 a4 a5
    go_wp2_with fail
    exact ret_un rfl rfl (w.heap.size + 1) u rfl a3 ⟨u, e, C', _, rfl, HA4.out, HA5.out, HCl.out, HSt.out⟩
  by_cases k3 : c.kind = 3
  · rw [k3] at c0
    clear k0 k2 k3
    go_enter Try.func37, Try.ntmps37
    go_wp2_with fail
    refine HD.out.mono ?_; rintro r w1 ⟨u, e, S5, C', rfl, hP⟩
    obtain ⟨r1, p2, s2, r8, r6, z2⟩ := do_tailA hP HB0.out HR6.out HR8.out hzW hl
    have HCl := Lib.hid hP.clean
    have HSt := Lib.hid hP.step
    have HFt := Lib.hid hP.fit
    have HP2 := Lib.hid p2
    have HS2 := Lib.hid s2
    have HR82 := Lib.hid r8
    have HR62 := Lib.hid r6
    clear hP p2 s2 r8 r6
    go_wp2_with fail
    refine (HL.out S5 HFt.out e _ HS2.out).mono ?_; rintro r w3 ⟨rfl, hp3, hs3⟩
    obtain ⟨a1, a2, a3, a4, a5⟩ := do_tailB HP2.out HR82.out HR62.out z2 hl hp3 hs3
    have HA4 := Lib.hid a4
    have HA5 := Lib.hid a5
    clear hp3 hs3 a4 a5
    go_wp2_with fail
    exact ret_un rfl rfl (w.heap.size + 1) u rfl a3 ⟨u, e, C', _, rfl, HA4.out, HA5.out, HCl.out, HSt.out⟩
  · have e0 : (c.kind == 0) = false := by simp [k0]
    have e2 : (c.kind == 2) = false := by simp [k2]
    have e3 : (c.kind == 3) = false := by simp [k3]
    clear k0 k2 k3
    have HFt := Lib.hid HC.out.fit
    go_enter Try.func37, Try.ntmps37
    go_wp2_with fail
    refine (HL.out S HFt.out 0 _ HS0.out).mono ?_; rintro r w3 ⟨rfl, hp3, hs3⟩
    obtain ⟨a1, a2, a3, a4, a5⟩ := do_tailB (Poked.of_below HB0.out) HR8.out HR6.out (by rw [hzW]; omega) hl hp3 hs3
    have HA4 := Lib.hid a4
    have HA5 := Lib.hid a5
    clear hp3 hs3 a4 a5
    go_wp2_with fail
    exact ret_un rfl rfl (w.heap.size + 1) Un.zero rfl a3 ⟨Un.zero, 0, C, _, rfl, HA4.out, HA5.out, by rw [Vol.after, if_pos rfl]; exact Clean.landed HC.out.heap HC.out.fit HC.out.le, doStep_none C _ _ (.inr rfl)⟩
end Go.Proofs.Ythehglhbgplfhaa
