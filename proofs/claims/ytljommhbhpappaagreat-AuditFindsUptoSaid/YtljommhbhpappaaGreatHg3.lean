/-
  Layer 15 (heap), for any chain of pages: find.
-/
import Derived.Test.YtljommhbhpappaaGreatHg2
namespace Go.Proofs.YtljommhbhpappaaGreat
open Go.RowKit Go.Joins
set_option linter.unusedVariables false
set_option linter.unusedSimpArgs false

theorem getD_get {C : List Pg} {k : Nat} (h : k < C.length) : C.getD k Pg.zero = C[k] := by
  rw [List.getD_eq_getElem?_getD, List.getElem?_eq_getElem h]; rfl
/-- does page a hold record id? -/
def hitB (a : Nat) (p : Pg) (id : Int) : Bool := match id with
  | .ofNat x => decide (a = x / 8) && decide (x % 8 < 6) && decide (p.a (x % 8) = 1)
  | .negSucc _ => false
set_option maxHeartbeats 4000000 in
set_option maxRecDepth 100000 in
theorem visit_find (a : Nat) (p : Pg) (id : Int) (c5 c10 c11 : Nat) (w : World) (q : Pg) (f : Bool) (hid : id < 9223372036854775808)
    (k5 : w.heap[c5]? = some (.cells #[.int .i64 id] 3)) (k10 : w.heap[c10]? = some (.cells q.cs 38)) (k11 : w.heap[c11]? = some (.cells #[.bool f] 4)) :
    Calls Tryz.prog 97 #[.int .i64 (a : Int), p.v, .pointer (some ⟨c5, 0, none⟩), .pointer (some ⟨c10, 0, none⟩), .pointer (some ⟨c11, 0, none⟩)] w fun e w' =>
      e = .returned (.bool (hitB a p id || f)) ∧ Poked [c10, c11] w w' ∧ w'.heap[c10]? = some (.cells (if hitB a p id then p else q).cs 38) ∧ w'.heap[c11]? = some (.cells #[.bool (hitB a p id || f)] 4) := by
  have l5 := (Array.getElem?_eq_some_iff.1 k5).1
  have l10 := (Array.getElem?_eq_some_iff.1 k10).1
  have l11 := (Array.getElem?_eq_some_iff.1 k11).1
  have B0 : Below w.heap.size w (w.alloc (.cells p.cs 38)) := (Below.refl _ _).alloc (Nat.le_refl _) _
  have R0 : rowAt (w.alloc (.cells p.cs 38)) w.heap.size = some p.cs := rowAt_at w _ _ _ rfl
  have t5 := (B0.block c5 l5).trans k5
  have t10 := (B0.block c10 l10).trans k10
  have t11 := (B0.block c11 l11).trans k11
  have d5 := (cell_of_block t5 0).trans rfl
  have d11 := (cell_of_block t11 0).trans rfl
  have f11 : (w.alloc (.cells p.cs 38)).frozen? ⟨c11, 0, none⟩ = false := by simp [World.frozen?, t11]
  have R10 := rowAt_of t10
  have hmiss : hitB a p id = false → Poked [c10, c11] w (w.alloc (.cells p.cs 38)) ∧ (w.alloc (.cells p.cs 38)).heap[c10]? = some (.cells (if hitB a p id then p else q).cs 38) ∧ (w.alloc (.cells p.cs 38)).heap[c11]? = some (.cells #[.bool (hitB a p id || f)] 4) := fun h => by
    rw [h]; exact ⟨Poked.of_below B0, t10, t11⟩
  by_cases hneg : id < 0
  · have hh : hitB a p id = false := by
      cases id with
      | ofNat x => exact absurd hneg (by simp)
      | negSucc x => rfl
    have HM := Lib.hid (hmiss hh)
    rw [hh] at HM ⊢
    have e1 : decide (0 ≤ id) = false := by simp; omega
    clear hmiss hh t5 t10 t11 k5 k10 k11 B0
    go_enter Tryz.func97, Tryz.ntmps97
    go_wp2_with fail
    go_ret
    exact ⟨rfl, HM.out⟩
  · have h0 : 0 ≤ id := by omega
    have hh : hitB a p id = (decide ((a : Int) = id / 8) && decide (id % 8 < 6) && decide (p.a (id % 8).toNat = 1)) := by
      obtain ⟨x, rfl⟩ := Int.eq_ofNat_of_zero_le h0
      show (decide (a = x / 8) && decide (x % 8 < 6) && decide (p.a (x % 8) = 1)) = _
      have e1 : decide ((a : Int) = (x : Int) / 8) = decide (a = x / 8) := decide_eq_decide.2 (by omega)
      have e2 : decide ((x : Int) % 8 < 6) = decide (x % 8 < 6) := decide_eq_decide.2 (by omega)
      have e3 : ((x : Int) % 8).toNat = x % 8 := by omega
      rw [e1, e2, e3]
    have hq : ¬ id < 0 := hneg
    by_cases h1 : (a : Int) = id / 8
    · by_cases h2 : id % 8 < 6
      · have hi : (id % 8).toNat < 6 := by omega
        have cA := (cell_row R0 (4 + (id % 8).toNat * 2)).trans (cs_a p _ hi)
        obtain ⟨x, hx⟩ : ∃ x, p.a (id % 8).toNat = x := ⟨_, rfl⟩
        rw [hx] at cA hh
        by_cases h3 : x = 1
        · have hh' : hitB a p id = true := by rw [hh]; simp [h1, h2, h3]
          have n1 : c10 ≠ c11 := blk_ne t10 t11 (by decide)
          have s10 := setRow_heap _ _ _ p.cs _ _ k10
          have s11 := (heap_setRow_far w c10 c11 p.cs n1).trans k11
          have b11 := (cell_of_block s11 0).trans rfl
          have bf11 : (w.setRow c10 p.cs).frozen? ⟨c11, 0, none⟩ = false := by simp [World.frozen?, s11]
          have s11' := setCell_block s11 0 (.bool true)
          have s10' := (heap_setCell_far _ ⟨c11, 0, none⟩ (.bool true) c10 (Ne.symm n1)).trans s10
          have hP0 : Poked [c10, c11] w ((w.setRow c10 p.cs).setCell ⟨c11, 0, none⟩ (.bool true)) := ((Poked.of_below (Below.refl _ _)).setRow _ _ (by simp)).setCell _ _ (by simp)
          have hz0 : ((w.setRow c10 p.cs).setCell ⟨c11, 0, none⟩ (.bool true)).heap.size = w.heap.size := by simp [World.setRow]
          have hP : Poked [c10, c11] w (((w.setRow c10 p.cs).setCell ⟨c11, 0, none⟩ (.bool true)).alloc (.cells p.cs 38)) := hP0.trans (Poked.of_below ((Below.refl _ _).alloc (Nat.le_refl _) _))
          have k10' := (Below.heap_alloc _ (.cells p.cs 38) _ (by omega)).trans s10'
          have k11' := (Below.heap_alloc _ (.cells p.cs 38) _ (by omega)).trans s11'
          have HM := Lib.hid (And.intro hP (And.intro k10' k11'))
          rw [hh']
          subst h3
          clear hmiss hh' hh t5 t10 t11 k5 k10 k11 B0 hx s10 s11 s11' s10' hP0 hz0 k11' k10' hP
          go_enter Tryz.func97, Tryz.ntmps97
          go_wp2_with fail
          go_ret
          exact ⟨rfl, HM.out⟩
        · have hh' : hitB a p id = false := by rw [hh]; simp [h3]
          have HM := Lib.hid (hmiss hh')
          have e3 : (x == 1) = false := by simp [h3]
          rw [hh'] at HM ⊢
          clear hmiss hh' hh t5 t10 t11 k5 k10 k11 B0 hx
          go_enter Tryz.func97, Tryz.ntmps97
          go_wp2_with fail
          go_ret
          exact ⟨rfl, HM.out⟩
      · have hh' : hitB a p id = false := by rw [hh]; simp [h2]
        have HM := Lib.hid (hmiss hh')
        rw [hh'] at HM ⊢
        clear hmiss hh' hh t5 t10 t11 k5 k10 k11 B0
        go_enter Tryz.func97, Tryz.ntmps97
        go_wp2_with fail
        go_ret
        exact ⟨rfl, HM.out⟩
    · have hh' : hitB a p id = false := by rw [hh]; simp [h1]
      have HM := Lib.hid (hmiss hh')
      rw [hh'] at HM ⊢
      clear hmiss hh' hh t5 t10 t11 k5 k10 k11 B0
      go_enter Tryz.func97, Tryz.ntmps97
      go_wp2_with fail
      go_ret
      exact ⟨rfl, HM.out⟩
theorem cf67 (args : Array Value) (w : World) : (callFunc 97 args).run Tryz.prog w = .ok (.enter 97 args) w := by kernel_rfl
/-- the end of a function that hands back two numbers, a page, a number -/
theorem results_ttct {fn : Func} {p u u2 v : Tmp} {ty : TypeId} (h : fn.results = #[.tmp u, .tmp u2, .cell p ty, .tmp v]) (tmps : Array Value) (P : Program) (w : World) :
    (results fn tmps).run P w = ((asAddr (tmps.getD p undef)).run P w).andThen fun a w₁ => ((loadVar ty a).run P w₁).andThen fun x w₂ => .ok (.tuple #[tmps.getD u undef, tmps.getD u2 undef, x, tmps.getD v undef]) w₂ := by
  simp only [results, h]
  simp [Sem.run_bind, Result.andThen]
theorem ret_ttpt {fn : Func} {R : Ending → World → Prop} {a : Act} {w : World} {pt u u2 v : Tmp} (h : fn.results = #[.tmp u, .tmp u2, .cell pt 38, .tmp v]) (hd : a.defers = []) (n : Nat) (p : Pg) (hp : a.tmps.getD pt undef = .pointer (some ⟨n, 0, none⟩)) (hr : rowAt w n = some p.cs)
    (hR : R (.returned (.tuple #[a.tmps.getD u undef, a.tmps.getD u2 undef, p.v, a.tmps.getD v undef])) w) : bodyPost Tryz.prog fn R .ret a w := by
  refine bodyPost_ret ?_ hd hR
  rw [results_ttct h, hp]
  have hl := run_loadPage w n (by rw [hr]; rfl)
  rw [hr] at hl
  simp only [asAddr, Sem.run_pure, Result.andThen_ok, hl]
  rfl
/-- the variables of find -/
structure FindMem (w wr : World) (id : Int) (q : Pg) (f : Bool) : Prop where
  low : Below w.heap.size w wr
  c5 : wr.heap[w.heap.size]? = some (.cells #[.int .i64 id] 3)
  c8 : wr.heap[w.heap.size + 1]? = some (.cells Pg.zero.cs 38)
  c10 : wr.heap[w.heap.size + 1 + 1]? = some (.cells q.cs 38)
  c11 : wr.heap[w.heap.size + 1 + 1 + 1]? = some (.cells #[.bool f] 4)
def findStart (w : World) (id : Int) : World := (((w.alloc (.cells #[.int .i64 id] 3)).alloc (.cells Pg.zero.cs 38)).alloc (.cells Pg.zero.cs 38)).alloc (.cells #[.bool false] 4)
theorem findStart_mem (w : World) (id : Int) : FindMem w (findStart w id) id Pg.zero false := by
  refine ⟨((((Below.refl _ _).alloc (Nat.le_refl _) _).alloc (by simp only [World.size_alloc]; omega) _).alloc (by simp only [World.size_alloc]; omega) _).alloc (by simp only [World.size_alloc]; omega) _, ?_, ?_, ?_, ?_⟩
  · exact (Below.heap_alloc _ _ _ (by simp only [World.size_alloc]; omega)).trans ((Below.heap_alloc _ _ _ (by simp only [World.size_alloc]; omega)).trans ((Below.heap_alloc _ _ _ (by simp only [World.size_alloc]; omega)).trans (heap_alloc_new _ _)))
  · refine (Below.heap_alloc _ _ _ (by simp only [World.size_alloc]; omega)).trans ((Below.heap_alloc _ _ _ (by simp only [World.size_alloc]; omega)).trans ?_)
    have := heap_alloc_new (w.alloc (.cells #[.int .i64 id] 3)) (.cells Pg.zero.cs 38)
    simpa only [World.size_alloc] using this
  · refine (Below.heap_alloc _ _ _ (by simp only [World.size_alloc]; omega)).trans ?_
    have := heap_alloc_new ((w.alloc (.cells #[.int .i64 id] 3)).alloc (.cells Pg.zero.cs 38)) (.cells Pg.zero.cs 38)
    simpa only [World.size_alloc] using this
  · have := heap_alloc_new (((w.alloc (.cells #[.int .i64 id] 3)).alloc (.cells Pg.zero.cs 38)).alloc (.cells Pg.zero.cs 38)) (.cells #[.bool false] 4)
    simp only [World.size_alloc] at this
    exact this
theorem findStart_size (w : World) (id : Int) : (findStart w id).heap.size = w.heap.size + 1 + 1 + 1 + 1 := by simp [findStart]
theorem FindMem.below {w wr w2 : World} {id : Int} {q : Pg} {f : Bool} (h : FindMem w wr id q f) (hb2 : Below wr.heap.size wr w2) : FindMem w w2 id q f :=
  ⟨h.low.trans (hb2.mono h.low.size), (hb2.block _ (Array.getElem?_eq_some_iff.1 h.c5).1).trans h.c5, (hb2.block _ (Array.getElem?_eq_some_iff.1 h.c8).1).trans h.c8, (hb2.block _ (Array.getElem?_eq_some_iff.1 h.c10).1).trans h.c10, (hb2.block _ (Array.getElem?_eq_some_iff.1 h.c11).1).trans h.c11⟩
theorem FindMem.poked {w wr w2 : World} {id : Int} {q q' : Pg} {f f' : Bool} (h : FindMem w wr id q f) (hp : Poked [w.heap.size + 1 + 1, w.heap.size + 1 + 1 + 1] wr w2)
    (h10 : w2.heap[w.heap.size + 1 + 1]? = some (.cells q'.cs 38)) (h11 : w2.heap[w.heap.size + 1 + 1 + 1]? = some (.cells #[.bool f'] 4)) : FindMem w w2 id q' f' := by
  have hz := h.low.size
  exact ⟨h.low.trans ⟨hp.os, hp.tape, hp.output, hp.size, fun i hi => hp.block i (by omega) (by simp; omega)⟩, (hp.block _ (Array.getElem?_eq_some_iff.1 h.c5).1 (by simp; omega)).trans h.c5, (hp.block _ (Array.getElem?_eq_some_iff.1 h.c8).1 (by simp)).trans h.c8, h10, h11⟩
/-- was a record met among the first pages? -/
def hitTo (I : List Nat) (C : List Pg) (id : Int) (k : Nat) : Bool := (List.range k).any fun j => hitB (I.getD j 0) (C.getD j Pg.zero) id
theorem hitTo_succ (I : List Nat) (C : List Pg) (id : Int) (k : Nat) : hitTo I C id (k + 1) = (hitTo I C id k || hitB (I.getD k 0) (C.getD k Pg.zero) id) := by
  simp [hitTo, List.range_succ]
theorem hitTo_none {I : List Nat} {C : List Pg} {id : Int} {k : Nat} (h : hitTo I C id k = false) (j : Nat) (hj : j < k) : hitB (I.getD j 0) (C.getD j Pg.zero) id = false := by
  simp only [hitTo, List.any_eq_false, List.mem_range] at h
  simpa using h j hj
set_option maxHeartbeats 2000000 in
theorem gfind_walk {S : Vol} {d m : Pg} {n : Nat} {st0 : Int} {I : List Nat} {C : List Pg} (hh : GH S d m n st0 I C) (b mb hb pb : Nat) (id : Int) (hid : id < 9223372036854775808) (w : World) (hs : StageAt w b mb hb pb S) :
    Calls Tryz.prog 41 #[.pointer (some ⟨b, 0, none⟩), .int .i64 st0, .func (.func 97) #[] #[.pointer (some ⟨w.heap.size, 0, none⟩), .pointer (some ⟨w.heap.size + 1 + 1, 0, none⟩), .pointer (some ⟨w.heap.size + 1 + 1 + 1, 0, none⟩)]] (findStart w id) fun e w' =>
      e = .returned (.int .i64 0) ∧ ((∃ k, ∃ h : k < C.length, hitB (I.getD k 0) C[k] id = true ∧ FindMem w w' id C[k] true) ∨ ((∀ k (h : k < C.length), hitB (I.getD k 0) C[k] id = false) ∧ FindMem w w' id Pg.zero false)) := by
  have hm := findStart_mem w id
  refine (gwalk_any 97 _ cf67 hh b (fun k => hitTo I C id (k + 1)) (fun k w' => ∃ q : Pg, FindMem w w' id q (hitTo I C id k) ∧ (hitTo I C id k = false → q = Pg.zero) ∧ (∀ j, k = j + 1 → ∀ h : j < C.length, hitB (I.getD j 0) C[j] id = true → q = C[j])) _ ?_ ?_ ?_ ?_).mono ?_
  · rintro k w' ⟨q, h1, -⟩
    exact ⟨mb, hb, pb, hs.below h1.low hs.lt⟩
  · rintro k w' w'' ⟨q, h1, h2⟩ hb2
    exact ⟨q, h1.below hb2, h2⟩
  · rintro k hk w' hz ⟨q, h1, h2, h3⟩
    rw [findStart_size] at hz
    refine (visit_find (I.getD k 0) C[k] id w.heap.size (w.heap.size + 1 + 1) (w.heap.size + 1 + 1 + 1) w' q (hitTo I C id k) hid h1.c5 h1.c10 h1.c11).mono ?_
    rintro e w'' ⟨rfl, hp, g1, g2⟩
    have hor : (hitB (I.getD k 0) C[k] id || hitTo I C id k) = hitTo I C id (k + 1) := by rw [hitTo_succ, getD_get hk, Bool.or_comm]
    rw [hor] at g2
    refine ⟨by rw [hor], ⟨_, h1.poked hp g1 g2, fun hf => ?_, fun j hj h hhit => ?_⟩, hp.size, fun x c hx hc => ?_⟩
    · rw [← hor, Bool.or_eq_false_iff] at hf
      rw [hf.1]; exact h2 hf.2
    · obtain rfl : k = j := by omega
      rw [hhit]; rfl
    · rw [findStart_size] at hx
      exact (hp.block x (Array.getElem?_eq_some_iff.1 hc).1 (by simp; omega)).trans hc
  · exact ⟨Pg.zero, hm, fun _ => rfl, fun j hj => by omega⟩
  · rintro e w' ⟨rfl, -, k, hk, ⟨q, h1, h2, h3⟩, hno, hst⟩
    refine ⟨rfl, ?_⟩
    have hpre : hitTo I C id k = false := by
      cases k with
      | zero => rfl
      | succ k => exact hno k (by omega)
    cases hs1 : hitTo I C id (k + 1) with
    | true =>
      have hit : hitB (I.getD k 0) C[k] id = true := by
        rw [hitTo_succ, hpre, getD_get hk] at hs1
        simpa using hs1
      rw [hs1] at h1
      exact .inl ⟨k, hk, hit, by rw [← h3 k rfl hk hit]; exact h1⟩
    | false =>
      have hlast : k + 1 = C.length := by
        rcases hst with h | h
        · rw [hs1] at h; cases h
        · exact h
      rw [hs1] at h1
      refine .inr ⟨fun j hj => ?_, by rw [← h2 hs1]; exact h1⟩
      rw [← getD_get hj]
      exact hitTo_none hs1 j (by omega)
theorem hit_facts {a : Nat} {p : Pg} {id : Int} (h : hitB a p id = true) : 0 ≤ id ∧ id / 8 = a ∧ id % 8 < 6 ∧ p.a (id % 8).toNat = 1 := by
  cases id with
  | negSucc x => cases h
  | ofNat x =>
    simp only [hitB, Bool.and_eq_true, decide_eq_true_eq] at h
    obtain ⟨⟨h1, h2⟩, h3⟩ := h
    have e : ((Int.ofNat x) % 8).toNat = x % 8 := by show ((x : Int) % 8).toNat = _; omega
    refine ⟨Int.natCast_nonneg x, ?_, ?_, by rw [e]; exact h3⟩
    · show (x : Int) / 8 = _; omega
    · show (x : Int) % 8 < 6; omega
set_option maxHeartbeats 4000000 in
set_option maxRecDepth 100000 in
theorem gfind_any {S : Vol} {d m : Pg} {n : Nat} {st0 : Int} {I : List Nat} {C : List Pg} (hh : GH S d m n st0 I C) (b mb hb pb : Nat) (id : Int) (hid : id < 9223372036854775808) (w : World) (hs : StageAt w b mb hb pb S) :
    Calls Tryz.prog 70 #[.pointer (some ⟨b, 0, none⟩), .int .i64 st0, .int .i64 id] w fun e w' => Below w.heap.size w w' ∧
      ((∃ k, ∃ h : k < C.length, hitB (I.getD k 0) C[k] id = true ∧ e = .returned (.tuple #[.int .i64 ((I.getD k 0 : Nat) : Int), .int .i64 (id % 8), C[k].v, .int .i64 0])) ∨
        ((∀ k (h : k < C.length), hitB (I.getD k 0) C[k] id = false) ∧ ∃ a s : Int, e = .returned (.tuple #[.int .i64 a, .int .i64 s, Pg.zero.v, .int .i64 150]))) := by
  have HW := Lib.hid (gfind_walk hh b mb hb pb id hid w hs)
  clear hh hs
  go_enter Tryz.func70, Tryz.ntmps70
  go_wp2_with fail
  refine HW.out.mono ?_
  rintro e w1 ⟨rfl, ⟨k, hk, hhit, hM⟩ | ⟨hno, hM⟩⟩
  · obtain ⟨f1, f2, f3, f4⟩ := hit_facts hhit
    have HHit := Lib.hid hhit
    have cc11 := (cell_of_block hM.c11 0).trans rfl
    have dc5 := (cell_of_block (hM.below (Below.refl w1.heap.size w1).drew).c5 0).trans rfl
    have dR10 := rowAt_of (hM.below (Below.refl w1.heap.size w1).drew).c10
    have dR8 := rowAt_of (hM.below (Below.refl w1.heap.size w1).drew).c8
    have RF := rowAt_setRow w1.drew (w.heap.size + 1) _ C[k].cs dR8
    have BF : Below w.heap.size w (w1.drew.setRow (w.heap.size + 1) C[k].cs) := below_setRow (hM.low.drew) _ (by omega)
    have HBF := Lib.hid BF
    obtain ⟨q, hq⟩ : ∃ q, C[k] = q := ⟨_, rfl⟩
    rw [hq] at dR10 RF HBF
    have HQ := Lib.hid hq
    have HF2 := Lib.hid f2
    clear hM hhit BF f4 hq f2
    go_wp2_with fail
    go_region
    all_goals
      go_wp2
      refine ret_ttpt rfl rfl (w.heap.size + 1) q rfl RF ⟨HBF.out, .inl ⟨k, hk, HHit.out, ?_⟩⟩
      rw [HQ.out, ← HF2.out]; rfl
  · have cc11 := (cell_of_block hM.c11 0).trans rfl
    have dc5 := (cell_of_block (hM.below (Below.refl w1.heap.size w1).drew).c5 0).trans rfl
    have dR10 := rowAt_of (hM.below (Below.refl w1.heap.size w1).drew).c10
    have dR8 := rowAt_of (hM.below (Below.refl w1.heap.size w1).drew).c8
    have RF := rowAt_setRow w1.drew (w.heap.size + 1) _ Pg.zero.cs dR8
    have BF : Below w.heap.size w (w1.drew.setRow (w.heap.size + 1) Pg.zero.cs) := below_setRow (hM.low.drew) _ (by omega)
    have HBF := Lib.hid BF
    have HNo := Lib.hid hno
    clear hM hno BF
    go_wp2_with fail
    go_region
    all_goals
      go_wp2
      exact ret_ttpt rfl rfl (w.heap.size + 1) Pg.zero rfl RF ⟨HBF.out, .inr ⟨HNo.out, _, _, rfl⟩⟩
end Go.Proofs.YtljommhbhpappaaGreat
