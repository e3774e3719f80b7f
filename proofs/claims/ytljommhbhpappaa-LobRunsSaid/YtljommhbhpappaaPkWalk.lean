/-
  Several texts in one: Tree4, Tree5, Tree6, Tree7.
-/
import Derived.Test.YtljommhbhpappaaPkIdx
import Derived.Test.YtljommhbhpappaaPkLob
namespace Go.Proofs.Ytljommhbhpappaa
/-!
  Layer 16 (tree): which keys are to be kept; clean.
-/
section
open Go.RowKit Go.Joins
set_option linter.unusedVariables false
set_option linter.unusedSimpArgs false

set_option maxHeartbeats 2000000 in
theorem sindex_any (ka : Option Addr) (kc : Nat) (kp : List ByteArray) (x : ByteArray) (w : World) (h : StrAt w ka kp) :
    Calls Try.prog 125 #[.slice ka kp.length kc, .string x] w fun e w' => (∃ i : Int, e = .returned (.int .i64 i) ∧ (0 ≤ i ↔ x ∈ kp)) ∧ w = w' := by
  have HK := Lib.hid h
  have hl := h.1
  clear h
  go_enter Try.func125, Try.ntmps125
  go_wp2_with fail
  go_loopw [8] (fun v wr => ∃ k : Nat, k ≤ kp.length ∧ v = .int .i64 k ∧ w = wr ∧ ∀ j (hj : j < kp.length), j < k → kp[j] ≠ x) (fun v _ => kp.length - (intOf v).toNat)
  case atStart => exact ⟨0, by omega, rfl, rfl, fun j _ hj => by omega⟩
  case round =>
    obtain ⟨k, hk, rfl, rfl, hno⟩ := hrel
    by_cases hlt : k < kp.length
    · obtain ⟨b, rfl, hbl, hc⟩ := HK.out.2.resolve_left (by omega)
      have hck := hc k hlt
      have hbq := beq_eq x kp[k]
      have hk0 : (0 : Int) ≤ (k : Int) := Int.natCast_nonneg _
      have hk1 : (k : Int) < (kp.length : Int) := by omega
      clear hc
      by_cases e : x = kp[k]
      · have hq : (x.toList == kp[k].toList) = true := by rw [hbq]; simp [e]
        have hm : x ∈ kp := by rw [e]; exact List.getElem_mem hlt
        generalize kp[k] = y at *
        go_wp2_with fail
        go_ret
        exact ⟨⟨_, rfl, by simp [hm]⟩, rfl⟩
      · have hq : (x.toList == kp[k].toList) = false := by rw [hbq]; simp [e]
        have hno2 : ∀ j (hj : j < kp.length), j < k + 1 → kp[j] ≠ x := fun j hj hjk => by
          by_cases ej : j = k
          · subst ej; exact fun h => e h.symm
          · exact hno j hj (by omega)
        have HN := Lib.hid hno2
        clear hno hno2
        generalize kp[k] = y at *
        go_wp2_with fail
        refine ⟨⟨k + 1, by omega, by go_num, by first | rfl | trivial, HN.out⟩, ?_⟩
        simp [intOf]; omega
    · have hke : k = kp.length := by omega
      subst hke
      have hm : ¬ x ∈ kp := fun hx => by
        obtain ⟨j, hj, e⟩ := List.mem_iff_getElem.1 hx
        exact hno j hj hj e
      go_wp2_with fail
      go_ret
      exact ⟨⟨_, rfl, by simp [hm]⟩, rfl⟩
set_option maxHeartbeats 2000000 in
theorem scontains_any (ka : Option Addr) (kc : Nat) (kp : List ByteArray) (x : ByteArray) (w : World) (h : StrAt w ka kp) :
    Calls Try.prog 119 #[.slice ka kp.length kc, .string x] w fun e w' => e = .returned (.bool (keepsB kp x)) ∧ w = w' := by
  have HI := Lib.hid (sindex_any ka kc kp x w h)
  go_enter Try.func119, Try.ntmps119
  go_wp2_with fail
  refine HI.out.mono ?_; rintro e w1 ⟨⟨i, rfl, hi⟩, rfl⟩
  have hb : decide (0 ≤ i) = keepsB kp x := by
    rw [Bool.eq_iff_iff, keepsB_iff, decide_eq_true_eq]; exact hi
  go_wp2_with fail
  go_ret
  exact ⟨by rw [← hb]; rfl, rfl⟩

/-- a leaf's cells, cleaned from the end on -/
theorem clean_step (kp : List ByteArray) (L : List NC) (i : Nat) (h : i < L.length) : L.take (i + 1) ++ cleanL kp (L.drop (i + 1)) = L.take i ++ L[i] :: cleanL kp (L.drop (i + 1)) := by
  rw [List.take_add_one, List.getElem?_eq_getElem h, List.append_assoc]
  rfl
theorem clean_drop (kp : List ByteArray) (L : List NC) (i : Nat) (h : i < L.length) : cleanL kp (L.drop i) = if (L[i].st == 2 && !keepsB kp L[i].key) = true then cleanL kp (L.drop (i + 1)) else L[i] :: cleanL kp (L.drop (i + 1)) := by
  rw [List.drop_eq_getElem_cons h]
  unfold cleanL
  rw [List.filter_cons]
  by_cases c : (L[i].st == 2 && !keepsB kp L[i].key) = true
  · rw [c]; simp
  · simp only [Bool.not_eq_true] at c
    rw [c]; simp

set_option maxHeartbeats 4000000 in
set_option maxRecDepth 100000 in
theorem clean_any (st nx : Int) (L : List NC) (h6 : L.length ≤ 6) (hok : ∀ c ∈ L, c.leaf) (ka : Option Addr) (kc : Nat) (kp : List ByteArray) (wb b : Nat) (root : Int) (w : World) (hw : WalkAt w wb b st root (.slice ka kp.length kc)) (hk : StrAt w ka kp) :
    Calls Try.prog 108 #[.pointer (some ⟨wb, 0, none⟩), (ndPg 0 st nx L).v] w fun e w' => e = .returned (ndPg 0 st nx (cleanL kp L)).v ∧ Below w.heap.size w w' := by
  have HC := Lib.hid (fun w' => ncount_nd 0 st nx L h6 (fun c hc => (hok c hc).ok) w')
  have HW := Lib.hid hw
  have HKp := Lib.hid hk
  have HOk := Lib.hid hok
  obtain ⟨p, hp⟩ : ∃ p, ndPg 0 st nx L = p := ⟨_, rfl⟩
  rw [hp] at HC ⊢
  have HP := Lib.hid hp
  clear hp hok hw hk
  have hn0 : ((L.length : Nat) : Int) ≤ 6 := by omega
  have hwr : ∀ k : Nat, k ≤ 6 → IntKind.i64.wrap ((k : Int) - 1) = (k : Int) - 1 := fun k hk => by rw [IntKind.wrap_i64]; omega
  have hwn := hwr L.length h6
  go_enter Try.func108, Try.ntmps108
  go_wp2_with fail
  refine (HC.out _).mono ?_; rintro e w1 ⟨rfl, hb1⟩
  have hz1 := hb1.size
  simp only [World.size_alloc] at hz1
  have P1 := Lib.hid ((rowAt_below hb1 (n := w.heap.size) (by go_size)).trans ((rowAt_past _ _ _ (by go_size)).trans (rowAt_at w p.cs 112 _ rfl)))
  have Z1 := Lib.hid ((rowAt_below hb1 (n := w.heap.size + 1) (by go_size)).trans (rowAt_at (w.alloc (.cells p.cs 112)) Pg.zero.cs 112 _ (by go_size)))
  have B1 : Hid (Below w.heap.size w w1) := Lib.hid ((((Below.refl _ _).alloc (Nat.le_refl _) _).alloc (by go_size) _).trans (hb1.mono (by go_size)))
  clear hb1
  go_wp2_with fail
  go_loopw [5] (fun v wr => ∃ k : Nat, k ≤ L.length ∧ v = .int .i64 ((k : Int) - 1) ∧ Below w.heap.size w wr ∧ w.heap.size + 1 < wr.heap.size ∧ rowAt wr w.heap.size = some (ndPg 0 st nx (L.take k ++ cleanL kp (L.drop k))).cs ∧ rowAt wr (w.heap.size + 1) = some Pg.zero.cs) (fun v _ => (intOf v + 1).toNat)
  case atStart => exact ⟨L.length, Nat.le_refl _, rfl, B1.out, by omega, by rw [List.take_length, List.drop_length, show cleanL kp [] = [] from rfl, List.append_nil, HP.out]; exact P1.out, Z1.out⟩
  case round =>
    obtain ⟨k, hk, rfl, hbw, hzw, hrow, hzr⟩ := hrel
    have HBw := Lib.hid hbw
    rcases k with _ | j
    · have hm1 : decide ((0 : Int) ≤ ((0 : Nat) : Int) - 1) = false := by simp
      simp only [List.take_zero, List.drop_zero, List.nil_append] at hrow
      have hrw : row16 (rowAt wr w.heap.size) = true := by rw [hrow]; rfl
      have hrw2 : row16 (rowAt wr (w.heap.size + 1)) = true := by rw [hzr]; rfl
      clear hbw
      go_wp2_with fail
      exact ret_page1 rfl rfl (w.heap.size + 1) _ rfl (rowAt_setRow _ _ _ _ hzr) ⟨rfl, below_setRow HBw.out _ (by omega)⟩
    · have hj : j < L.length := by omega
      obtain ⟨M, hM⟩ : ∃ M, L.take (j + 1) ++ cleanL kp (L.drop (j + 1)) = M := ⟨_, rfl⟩
      have hMs := clean_step kp L j hj
      rw [hM] at hMs hrow
      have hMl : M.length ≤ 6 := by
        rw [← hM, List.length_append, List.length_take]
        have := (cleanL_sub kp (L.drop (j + 1))).length_le
        rw [List.length_drop] at this
        omega
      have hMj : j < M.length := by rw [hMs, List.length_append, List.length_take, List.length_cons]; omega
      have hMg : M[j] = L[j] := by
        have : M[j]? = some L[j] := by
          rw [hMs, List.getElem?_append_right (by rw [List.length_take]; omega), List.length_take, show j - min j L.length = 0 from by omega]; rfl
        rw [List.getElem?_eq_getElem hMj] at this
        exact Option.some.inj this
      have hMe : M.eraseIdx j = L.take j ++ cleanL kp (L.drop (j + 1)) := by
        rw [hMs, List.eraseIdx_append_of_length_le (by rw [List.length_take]; omega), List.length_take, show j - min j L.length = 0 from by omega]; rfl
      have hMok : ∀ c ∈ M, c.ok := fun c hc => by
        rw [← hM] at hc
        rcases List.mem_append.1 hc with hc | hc
        · exact (HOk.out c (List.mem_of_mem_take hc)).ok
        · exact (HOk.out c (List.mem_of_mem_drop ((cleanL_sub kp _).subset hc))).ok
      have HT := Lib.hid (fun w' => ntake_ok 0 st nx M hMl hMok j hMj w')
      have hdr := clean_drop kp L j hj
      have hA := (nd_a 0 st nx M j (by omega)).trans (stL_get hMj)
      have hD := (nd_d 0 st nx M j (by omega)).trans (dL_get hMj)
      rw [hMg] at hA hD
      have hlf := HOk.out _ (List.getElem_mem hj)
      have HK := Lib.hid (fun w' => key_ok L[j].st L[j].key L[j].rest hlf.ok.1 hlf.ok.2.1 (by have := hlf.ok.2.2; omega) w')
      have hd : NC.d L[j] = tx L[j].key ++ L[j].rest := rfl
      rw [hd] at hD
      have HCt := Lib.hid (fun w' hs' => scontains_any ka kc kp L[j].key w' hs')
      have hst : L[j].st = 1 ∨ L[j].st = 2 := hlf.1
      rw [hMe] at HT
      have hj0 : (0 : Int) ≤ (j : Int) := Int.natCast_nonneg _
      have hj6 : (j : Int) < 6 := by omega
      have hdec : decide ((0 : Int) ≤ (((j + 1 : Nat) : Int) - 1)) = true := by simp
      have hsimp : (((j + 1 : Nat) : Int) - 1) = (j : Int) := by omega
      have hwj := hwr j (by omega)
      have HDr := Lib.hid hdr
      have HMs := Lib.hid hMs
      clear hMs hMe hMg hMok hM hdr hd hlf
      obtain ⟨pm, hpm⟩ : ∃ pm, ndPg 0 st nx M = pm := ⟨_, rfl⟩
      rw [hpm] at hA hD HT hrow
      have HPm := Lib.hid hpm
      have cA := (cell_row hrow (4 + j * 2)).trans (cs_a pm j (by omega))
      have cD := (cell_row hrow (4 + j * 2 + 1)).trans (cs_d pm j (by omega))
      rw [hA] at cA
      rw [hD] at cD
      have HRow := Lib.hid hrow
      have HZr := Lib.hid hzr
      clear hpm hrow hzr hbw hA hD
      rw [hsimp]
      generalize hLs : L[j].st = ls at *
      generalize hLk : L[j].key = lk at *
      generalize hLr : L[j].rest = lr at *
      generalize tx lk ++ lr = dd at *
      go_wp2_with fail
      refine (HK.out _).mono ?_; rintro e w3 ⟨rfl, hb3⟩
      have hz3 := hb3.size
      have R3 := (rowAt_below hb3 (by omega)).trans HRow.out
      have Z3 := Lib.hid ((rowAt_below hb3 hzw).trans HZr.out)
      have B3 := Lib.hid (HBw.out.trans (hb3.mono (by omega)))
      have cA3 := (hb3.cell (p := ⟨w.heap.size, 4 + j * 2, none⟩) (by show w.heap.size < _; omega)).trans cA
      have HR3 := Lib.hid R3
      clear hb3 cA cD R3
      rcases hst with hs1 | hs2
      · subst hs1
        have hMnew : M = L.take j ++ cleanL kp (L.drop j) := by
          rw [HMs.out, HDr.out]; rfl
        have HMn := Lib.hid hMnew
        clear hMnew
        go_wp2_with fail
        refine ⟨⟨j, by omega, rfl, B3.out, by omega, ?_, Z3.out⟩, ?_⟩
        · rw [← HMn.out, HPm.out]; exact HR3.out
        · simp [intOf]
      · subst hs2
        have hw3 := HW.out.below B3.out
        have hk3 := HKp.out.below B3.out
        have c3 := hw3.cells.2.2.2
        have HKs := Lib.hid hk3
        clear hw3 hk3
        cases hkb : keepsB kp lk with
        | true =>
          rw [hkb] at HCt
          have hMnew : M = L.take j ++ cleanL kp (L.drop j) := by
            rw [HMs.out, HDr.out, hkb]; rfl
          have HMn := Lib.hid hMnew
          clear hMnew
          go_wp2_with fail
          refine (HCt.out _ HKs.out).mono ?_; rintro e w4 ⟨rfl, rfl⟩
          go_wp2_with fail
          refine ⟨⟨j, by omega, rfl, B3.out, by omega, ?_, Z3.out⟩, ?_⟩
          · rw [← HMn.out, HPm.out]; exact HR3.out
          · simp [intOf]
        | false =>
          rw [hkb] at HCt
          have hMnew : L.take j ++ cleanL kp (L.drop (j + 1)) = L.take j ++ cleanL kp (L.drop j) := by
            rw [HDr.out, hkb]; rfl
          have HMn := Lib.hid hMnew
          clear hMnew
          go_wp2_with fail
          refine (HCt.out _ HKs.out).mono ?_; rintro e w4 ⟨rfl, rfl⟩
          have R3 := HR3.out
          go_wp2_with fail
          refine (HT.out _).mono ?_; rintro e w5 ⟨rfl, hb5⟩
          have hz5 := hb5.size
          have R5 := (rowAt_below hb5 (by omega)).trans R3
          have hrow5 : row16 (rowAt w5 w.heap.size) = true := by rw [R5]; rfl
          have Z5 := (rowAt_below hb5 (by omega)).trans Z3.out
          obtain ⟨p2, hp2⟩ : ∃ p2, ndPg 0 st nx (L.take j ++ cleanL kp (L.drop (j + 1))) = p2 := ⟨_, rfl⟩
          rw [hp2]
          have HP2 := Lib.hid hp2
          have RF := Lib.hid (rowAt_setRow _ _ _ p2.cs R5)
          have ZF := Lib.hid ((rowAt_setRow_far w5 w.heap.size (w.heap.size + 1) p2.cs (by omega)).trans Z5)
          have BF := Lib.hid (below_setRow (B3.out.trans (hb5.mono (by omega))) p2.cs (Nat.le_refl w.heap.size))
          have hsz : (w5.setRow w.heap.size p2.cs).heap.size = w5.heap.size := by simp [World.setRow]
          clear hb5 R3 R5 Z5 hp2
          go_wp2_with fail
          refine ⟨⟨j, by omega, rfl, BF.out, by rw [hsz]; omega, ?_, ZF.out⟩, ?_⟩
          · rw [← HMn.out, HP2.out]; exact RF.out
          · simp [intOf]
end

/-!
  Layer 16 (tree): a walker in memory; what a node does with one cell more.
-/
section
open Go.RowKit Go.Joins
set_option linter.unusedVariables false
set_option linter.unusedSimpArgs false

/-- a walker, its stage and its keys to be kept -/
structure PM (w : World) (wb b mb hb pb : Nat) (st root : Int) (ka : Option Addr) (kc : Nat) (kp : List ByteArray) (S : Vol) : Prop where
  stage : StageAt w b mb hb pb S
  walk : WalkAt w wb b st root (.slice ka kp.length kc)
  keep : StrAt w ka kp
  ne : wb ≠ mb
  nk : ∀ a ∈ ka, a.block ≠ mb
theorem StrAt.grown {w w' : World} {a : Option Addr} {I : List ByteArray} {q : Nat} (h : StrAt w a I) (hg : w.grownBy w' (some q)) (hn : ∀ x ∈ a, x.block ≠ q) : StrAt w' a I := by
  refine ⟨h.1, ?_⟩
  rcases h.2 with h0 | ⟨b, rfl, h1, h2⟩
  · exact .inl h0
  · refine .inr ⟨b, rfl, Nat.lt_of_lt_of_le h1 hg.size, fun i hi => ?_⟩
    have e := hg.block b h1 (by simpa using hn _ rfl)
    have h3 := h2 i hi
    unfold World.cell? at h3 ⊢
    simp only at h3 ⊢
    rw [e]; exact h3
theorem PM.below {w w' : World} {wb b mb hb pb : Nat} {st root : Int} {ka : Option Addr} {kc : Nat} {kp : List ByteArray} {S : Vol} (h : PM w wb b mb hb pb st root ka kc kp S) (hb' : Below w.heap.size w w') : PM w' wb b mb hb pb st root ka kc kp S :=
  ⟨h.stage.below hb' h.stage.lt, h.walk.below hb', h.keep.below hb', h.ne, h.nk⟩
theorem PM.grown {w w' : World} {wb b mb hb pb : Nat} {st root : Int} {ka : Option Addr} {kc : Nat} {kp : List ByteArray} {S S' : Vol} (h : PM w wb b mb hb pb st root ka kc kp S) (hg : w.grownBy w' (some mb)) (hs : StageAt w' b mb hb pb S') : PM w' wb b mb hb pb st root ka kc kp S' :=
  ⟨hs, (hg.block wb h.walk.lt (by simpa using h.ne)).trans h.walk, h.keep.grown hg h.nk, h.ne, h.nk⟩
theorem PM.lt {w : World} {wb b mb hb pb : Nat} {st root : Int} {ka : Option Addr} {kc : Nat} {kp : List ByteArray} {S : Vol} (h : PM w wb b mb hb pb st root ka kc kp S) : wb < w.heap.size ∧ mb < w.heap.size := ⟨h.walk.lt, h.stage.lt.2.1⟩
/-- what has become of a world -/
theorem set_pm {w : World} {wb b mb hb pb : Nat} {st root : Int} {ka : Option Addr} {kc : Nat} {kp : List ByteArray} {S : Vol} (h : PM w wb b mb hb pb st root ka kc kp S) (id : Int) (p : Pg) (hp : okPg p = true) (h0 : 0 ≤ id) (h1 : id < 1024) :
    Calls Try.prog 59 #[.pointer (some ⟨b, 0, none⟩), .int .i64 id, p.v] w fun e w' => e = .returned (.int .i64 0) ∧ w.grownBy w' (some mb) ∧ PM w' wb b mb hb pb st root ka kc kp (S.put id p) := by
  refine (set_any S b mb hb pb id p w h.stage).mono ?_
  rintro e w' ⟨rfl, hg, hs⟩
  have o := okSet_one hp id h0 h1
  rw [o] at hs ⊢
  exact ⟨rfl, hg, h.grown hg hs⟩
theorem take_pm {w : World} {wb b mb hb pb : Nat} {st root : Int} {ka : Option Addr} {kc : Nat} {kp : List ByteArray} {S : Vol} (h : PM w wb b mb hb pb st root ka kc kp S) {d m : Pg} {nn : Nat} (hv : VolOk S d m nn) {r : Nat} {S1 : Vol} {m1 : Pg} (ht : takeV nn S m = some (r, S1, m1)) :
    Calls Try.prog 41 #[.pointer (some ⟨b, 0, none⟩)] w fun e w' => e = .returned (.tuple #[.int .i64 r, .int .i64 0]) ∧ w.grownBy w' (some mb) ∧ PM w' wb b mb hb pb st root ka kc kp S1 := by
  obtain ⟨rfl, rfl, h2, hlt, hf, hbel, -, -⟩ := takeV_some hv ht
  refine (take_some S b mb hb pb m nn w h.stage hv.map r hlt hf hbel).mono ?_
  rintro e w' ⟨rfl, hg, hs⟩
  exact ⟨rfl, hg, h.grown hg hs⟩


/-- a world that came of another one, and what stands in it -/
structure TS (w wt : World) (wb b mb hb pb : Nat) (st root : Int) (ka : Option Addr) (kc : Nat) (kp : List ByteArray) (S : Vol) : Prop where
  g : w.grownBy wt (some mb)
  p : PM wt wb b mb hb pb st root ka kc kp S
  p0 : ∃ S0, PM w wb b mb hb pb st root ka kc kp S0
theorem PM.ts {w : World} {wb b mb hb pb : Nat} {st root : Int} {ka : Option Addr} {kc : Nat} {kp : List ByteArray} {S : Vol} (h : PM w wb b mb hb pb st root ka kc kp S) : TS w w wb b mb hb pb st root ka kc kp S := ⟨grown_of_below (Below.refl _ _) _, h, _, h⟩
theorem TS.lt {w wt : World} {wb b mb hb pb : Nat} {st root : Int} {ka : Option Addr} {kc : Nat} {kp : List ByteArray} {S : Vol} (h : TS w wt wb b mb hb pb st root ka kc kp S) : wb < w.heap.size ∧ mb < w.heap.size ∧ w.heap.size ≤ wt.heap.size := by
  obtain ⟨S0, h0⟩ := h.p0
  exact ⟨h0.lt.1, h0.lt.2, h.g.size⟩
theorem TS.below {w wt w' : World} {wb b mb hb pb : Nat} {st root : Int} {ka : Option Addr} {kc : Nat} {kp : List ByteArray} {S : Vol} (h : TS w wt wb b mb hb pb st root ka kc kp S) (hbel : Below w.heap.size wt w') : TS w w' wb b mb hb pb st root ka kc kp S := by
  obtain ⟨S0, h0⟩ := h.p0
  have hl := h0.stage.lt
  refine ⟨grown_below h.g hbel (Nat.le_refl _), ⟨h.p.stage.below hbel hl, (hbel.block wb h0.walk.lt).trans h.p.walk, ⟨h.p.keep.1, ?_⟩, h.p.ne, h.p.nk⟩, S0, h0⟩
  rcases h.p.keep.2 with e | ⟨b', e, h1, h2⟩
  · exact .inl e
  · rcases h0.keep.2 with e0 | ⟨b0, e0, h3, -⟩
    · exact .inl e0
    · obtain rfl : b' = b0 := by rw [e] at e0; simpa using e0
      refine .inr ⟨b', e, Nat.lt_of_lt_of_le h1 hbel.size, fun i hi => ?_⟩
      exact (hbel.cell (p := ⟨b', i, none⟩) h3).trans (h2 i hi)
theorem TS.after {w wt w' : World} {wb b mb hb pb : Nat} {st root : Int} {ka : Option Addr} {kc : Nat} {kp : List ByteArray} {S : Vol} (h : TS w wt wb b mb hb pb st root ka kc kp S) (hbel : Below wt.heap.size wt w') : TS w w' wb b mb hb pb st root ka kc kp S := h.below (hbel.mono h.g.size)
theorem TS.alloc {w wt : World} {wb b mb hb pb : Nat} {st root : Int} {ka : Option Addr} {kc : Nat} {kp : List ByteArray} {S : Vol} (h : TS w wt wb b mb hb pb st root ka kc kp S) (o : Obj) : TS w (wt.alloc o) wb b mb hb pb st root ka kc kp S := h.after ((Below.refl _ _).alloc (Nat.le_refl _) _)
theorem TS.drew {w wt : World} {wb b mb hb pb : Nat} {st root : Int} {ka : Option Addr} {kc : Nat} {kp : List ByteArray} {S : Vol} (h : TS w wt wb b mb hb pb st root ka kc kp S) : TS w wt.drew wb b mb hb pb st root ka kc kp S := h.after (Below.refl _ _).drew
theorem TS.row {w wt : World} {wb b mb hb pb : Nat} {st root : Int} {ka : Option Addr} {kc : Nat} {kp : List ByteArray} {S : Vol} (h : TS w wt wb b mb hb pb st root ka kc kp S) (n : Nat) (c : Array Value) (hn : w.heap.size ≤ n) : TS w (wt.setRow n c) wb b mb hb pb st root ka kc kp S := h.below (below_setRow (Below.refl _ _) c hn)
theorem TS.cell {w wt : World} {wb b mb hb pb : Nat} {st root : Int} {ka : Option Addr} {kc : Nat} {kp : List ByteArray} {S : Vol} (h : TS w wt wb b mb hb pb st root ka kc kp S) (a : Addr) (v : Value) (hn : w.heap.size ≤ a.block) : TS w (wt.setCell a v) wb b mb hb pb st root ka kc kp S := h.below (below_setCell (Below.refl _ _) a v hn)
theorem TS.grown {w wt w' : World} {wb b mb hb pb : Nat} {st root : Int} {ka : Option Addr} {kc : Nat} {kp : List ByteArray} {S S' : Vol} (h : TS w wt wb b mb hb pb st root ka kc kp S) (hg : wt.grownBy w' (some mb)) (hp : PM w' wb b mb hb pb st root ka kc kp S') : TS w w' wb b mb hb pb st root ka kc kp S' := ⟨grown_trans h.g hg, hp, h.p0⟩

/-! ## one cell more, as values -/
def sepOf (L : List NC) : ByteArray := ((L.drop 3).headD ⟨ByteArray.empty, 0, ByteArray.empty⟩).key
def lowOf (L : List NC) (c : NC) : List NC := if KLt c.key (sepOf L) then insC (L.take 3) c else L.take 3
def highOf (lv : Int) (L : List NC) (c : NC) : List NC := if KLt c.key (sepOf L) then splitHi lv L else insC (splitHi lv L) c
def tailV (nn : Nat) (st lv nx id : Int) (L : List NC) (c : NC) (S : Vol) (m : Pg) : Value × Vol × Pg :=
  if L.length < 6 then (.tuple #[.string ⟨#[]⟩, .int .i64 0, .int .i64 0], S.put id (ndPg lv st nx (insC L c)), m)
  else match takeV nn S m with
    | none => (.tuple #[.string ⟨#[]⟩, .int .i64 0, .int .i64 140], S, m)
    | some (r, S1, m1) => (.tuple #[.string (sepOf L), .int .i64 r, .int .i64 0], (S1.put id (ndPg lv st (if lv = 0 then (r : Int) else nx) (lowOf L c))).put r (ndPg lv st nx (highOf lv L c)), m1)
structure TailOk (nn : Nat) (st lv nx id : Int) (L : List NC) (c : NC) (S : Vol) (d m : Pg) : Prop where
  vol : VolOk S d m nn
  six : L.length ≤ 6
  cells : ∀ x ∈ L, x.ok
  cok : c.ok
  new : (findL c.key L 0).2 = false
  id0 : 0 ≤ id
  id1 : id < 1024
  okA : L.length < 6 → okPg (ndPg lv st nx (insC L c)) = true
  okB : L.length = 6 → ∀ r S1 m1, takeV nn S m = some (r, S1, m1) → okPg (ndPg lv st (if lv = 0 then (r : Int) else nx) (lowOf L c)) = true ∧ okPg (ndPg lv st nx (highOf lv L c)) = true
  newLo : (findL c.key (L.take 3) 0).2 = false
  newHi : (findL c.key (splitHi lv L) 0).2 = false
  hiOk : ∀ x ∈ splitHi lv L, x.ok
theorem TailOk.one {nn : Nat} {st lv nx id : Int} {L : List NC} {c : NC} {S : Vol} {d m : Pg} {V : Value} {S' : Vol} {m' : Pg} (h : TailOk nn st lv nx id L c S d m) (hV : tailV nn st lv nx id L c S m = (V, S', m')) (h6 : L.length < 6) :
    V = .tuple #[.string ⟨#[]⟩, .int .i64 0, .int .i64 0] ∧ S' = S.put id (ndPg lv st nx (insC L c)) := by
  unfold tailV at hV
  rw [if_pos h6] at hV
  simp only [Prod.mk.injEq] at hV
  exact ⟨hV.1.symm, hV.2.1.symm⟩
theorem TailOk.bad {nn : Nat} {st lv nx id : Int} {L : List NC} {c : NC} {S : Vol} {d m : Pg} {V : Value} {S' : Vol} {m' : Pg} (h : TailOk nn st lv nx id L c S d m) (hV : tailV nn st lv nx id L c S m = (V, S', m')) (h6 : ¬ L.length < 6) (ht : takeV nn S m = none) :
    V = .tuple #[.string ⟨#[]⟩, .int .i64 0, .int .i64 140] ∧ S' = S := by
  unfold tailV at hV
  rw [if_neg h6, ht] at hV
  simp only [Prod.mk.injEq] at hV
  exact ⟨hV.1.symm, hV.2.1.symm⟩
theorem TailOk.two {nn : Nat} {st lv nx id : Int} {L : List NC} {c : NC} {S : Vol} {d m : Pg} {V : Value} {S' : Vol} {m' : Pg} (h : TailOk nn st lv nx id L c S d m) (hV : tailV nn st lv nx id L c S m = (V, S', m')) (h6 : ¬ L.length < 6) {r : Nat} {S1 : Vol} {m1 : Pg} (ht : takeV nn S m = some (r, S1, m1)) :
    V = .tuple #[.string (sepOf L), .int .i64 r, .int .i64 0] ∧ S' = (S1.put id (ndPg lv st (if lv = 0 then (r : Int) else nx) (lowOf L c))).put r (ndPg lv st nx (highOf lv L c)) ∧ r < 1024 := by
  have hr := (takeV_some h.vol ht).2.2.2.1
  have := h.vol.map.hi
  unfold tailV at hV
  rw [if_neg h6, ht] at hV
  simp only [Prod.mk.injEq] at hV
  exact ⟨hV.1.symm, hV.2.1.symm, by omega⟩
theorem split_all (lv st nx : Int) (L : List NC) (h6 : L.length = 6) (hok : ∀ c ∈ L, c.ok) (w : World) :
    Calls Try.prog 110 #[(ndPg lv st nx L).v] w fun e w' => e = .returned (.tuple #[(ndPg lv st nx (L.take 3)).v, (ndPg lv st nx (splitHi lv L)).v, .string (sepOf L), .int .i64 0]) ∧ Below w.heap.size w w' := by
  rcases L with _ | ⟨c0, _ | ⟨c1, _ | ⟨c2, _ | ⟨c3, _ | ⟨c4, _ | ⟨c5, _ | ⟨c6, r⟩⟩⟩⟩⟩⟩⟩ <;> simp at h6
  exact nsplit_six lv st nx c0 c1 c2 c3 c4 c5 hok w
theorem splitHi_len (lv : Int) (L : List NC) (h : L.length = 6) : (splitHi lv L).length ≤ 5 := by
  rcases L with _ | ⟨c0, _ | ⟨c1, _ | ⟨c2, _ | ⟨c3, _ | ⟨c4, _ | ⟨c5, _ | ⟨c6, r⟩⟩⟩⟩⟩⟩⟩ <;> simp at h
  simp [splitHi]
/-- the low half's page, with the next leaf's number -/
theorem nd_next (lv st nx r : Int) (L : List NC) : { ndPg lv st nx L with n := r } = ndPg lv st r L := rfl
theorem cs_setN (p : Pg) (r : Int) : p.cs.setIfInBounds 3 (.int .i64 r) = { p with n := r }.cs := rfl
end

/-!
  Layer 16 (tree): put at a leaf.
-/
section
open Go.RowKit Go.Joins
set_option linter.unusedVariables false
set_option linter.unusedSimpArgs false

set_option maxHeartbeats 8000000 in
set_option maxRecDepth 100000 in
theorem wput_leaf {S : Vol} {d m : Pg} {nn : Nat} (st root id nx : Int) (L0 : List NC) (c : NC) (h6 : L0.length ≤ 6) (hlf : ∀ x ∈ L0, x.leaf) (ka : Option Addr) (kc : Nat) (kp : List ByteArray) (b mb hb pb wb : Nat) (w : World) (hs : PM w wb b mb hb pb st root ka kc kp S)
    (hg : ∀ w', StageAt w' b mb hb pb S → WalkAt w' wb b st root (.slice ka kp.length kc) → Calls Try.prog 83 #[.pointer (some ⟨wb, 0, none⟩), .int .i64 id] w' fun e w2 => e = .returned (.tuple #[(ndPg 0 st nx L0).v, .int .i64 0]) ∧ Below w'.heap.size w' w2)
    (ht : TailOk nn st 0 nx id (if L0.length = 6 then cleanL kp L0 else L0) c S d m) (V : Value) (S' : Vol) (m' : Pg) (hV : tailV nn st 0 nx id (if L0.length = 6 then cleanL kp L0 else L0) c S m = (V, S', m')) :
    Calls Try.prog 84 #[.pointer (some ⟨wb, 0, none⟩), .int .i64 id, .int .i64 0, .string c.key, .agg #[.int .i64 c.st, .string c.d]] w fun e w' => e = .returned V ∧ TS w w' wb b mb hb pb st root ka kc kp S' := by
  have HG := Lib.hid hg
  have HT := Lib.hid ht
  have HV0 := Lib.hid hV
  have HCn := Lib.hid (fun w' => ncount_nd 0 st nx L0 h6 (fun x hx => (hlf x hx).ok) w')
  have HCl := Lib.hid (fun w' hw' hk' => clean_any st nx L0 h6 hlf ka kc kp wb b root w' hw' hk')
  have T0 := Lib.hid (hs.ts.alloc (.cells #[.int .i64 c.st, .string c.d] 84))
  have hl0 := hs.lt
  clear hs hg ht hV hlf
  obtain ⟨p, hp⟩ : ∃ p, ndPg 0 st nx L0 = p := ⟨_, rfl⟩
  rw [hp] at HG HCn HCl
  have hpl : p.l = 0 := by rw [← hp]; rfl
  have HP := Lib.hid hp
  clear hp
  go_enter Try.func84, Try.ntmps84
  go_wp2_with fail
  refine (HG.out _ T0.out.p.stage T0.out.p.walk).mono ?_; rintro e w1 ⟨rfl, hb1⟩
  have hz1 := hb1.size
  simp only [World.size_alloc] at hz1
  have C1 := (rowAt_below hb1 (n := w.heap.size) (by go_size)).trans (rowAt_at w #[.int .i64 c.st, .string c.d] 84 _ rfl)
  have T1 := Lib.hid ((T0.out.after hb1).alloc (.cells p.cs 112))
  have C1' := Lib.hid ((rowAt_past w1 (.cells p.cs 112) w.heap.size (by omega)).trans C1)
  have P1 := rowAt_at w1 p.cs 112 _ rfl
  have cl := (cell_row P1 1).trans (show p.cs[1]? = some (.int .i64 0) by rw [← hpl]; rfl)
  have HP1 := Lib.hid P1
  have hPsz : w1.heap.size < (w1.alloc (.cells p.cs 112)).heap.size := by go_size
  have hCsz : w.heap.size < w1.heap.size := by omega
  clear hb1 C1
  go_wp2_with fail
  generalize hW1 : w1.alloc (.cells p.cs 112) = W1 at *
  generalize w1.heap.size = P at *
  clear hW1
  refine (HCn.out _).mono ?_; rintro e w2 ⟨rfl, hb2⟩
  have hz2 := hb2.size
  have T2 := Lib.hid (T1.out.after hb2)
  have P2 := (rowAt_below hb2 hPsz).trans HP1.out
  have C2 := Lib.hid ((rowAt_below hb2 (by omega)).trans C1'.out)
  clear hb2 P1
  have hPC : P ≠ w.heap.size := by omega
  by_cases e6 : L0.length = 6
  · have hn6 : ((L0.length : Int) == 6) = true := by simp [e6]
    rw [if_pos e6] at HT HV0
    go_wp2_with fail
    refine (HCl.out _ T2.out.p.walk T2.out.p.keep).mono ?_; rintro e w3 ⟨rfl, hb3⟩
    have hz3 := hb3.size
    generalize cleanL kp L0 = L at *
    have RPa := (rowAt_below hb3 (by omega)).trans P2
    have rP : row16 (rowAt w3 P) = true := by rw [RPa]; rfl
    have RPt := Lib.hid (rowAt_setRow w3 _ _ (ndPg 0 st nx L).cs RPa)
    have RCt := Lib.hid ((rowAt_setRow_far w3 P w.heap.size (ndPg 0 st nx L).cs (by omega)).trans ((rowAt_below hb3 (by omega)).trans C2.out))
    have TSt := Lib.hid ((T2.out.after hb3).row P (ndPg 0 st nx L).cs (by omega))
    have hsz : (w3.setRow P (ndPg 0 st nx L).cs).heap.size = w3.heap.size := by simp [World.setRow]
    have hPl : P < (w3.setRow P (ndPg 0 st nx L).cs).heap.size := by omega
    have hCl : w.heap.size < (w3.setRow P (ndPg 0 st nx L).cs).heap.size := by omega
    have T := HT
    have HV := HV0
    clear hb3 P2 RPa cl
    have RP := RPt.out
    have x0 := cell_row RCt.out 0
    have x1 := cell_row RCt.out 1
    simp only [List.getElem?_toArray, List.getElem?_cons_succ, List.getElem?_cons_zero] at x0 x1
    go_wp2_with fail
    clear RP x0 x1
    generalize w3.setRow P (ndPg 0 st nx L).cs = wt at *
    by_cases h6 : L.length < 6
    · obtain ⟨rfl, rfl⟩ := T.out.one HV.out h6
      have HPt := Lib.hid (fun w' => nput_ok 0 st nx L (by omega) T.out.cells c T.out.cok T.out.new w')
      have OKQ := Lib.hid (T.out.okA h6)
      have hI := T.out.id0
      have hJ := T.out.id1
      obtain ⟨q, hq⟩ : ∃ q, ndPg 0 st nx (insC L c) = q := ⟨_, rfl⟩
      have hq' : ndPg 0 st nx (insL L (findL c.key L 0).1 c) = q := hq
      rw [hq'] at HPt
      rw [hq] at OKQ
      have HQe := Lib.hid hq
      generalize ndPg 0 st nx L = p at *
      clear hq hq'
      refine (HPt.out _).mono ?_; rintro e w5 ⟨rfl, hb5⟩
      have T5 := Lib.hid (TSt.out.after hb5)
      have hz5 := hb5.size
      clear hb5
      have Q5 := rowAt_at w5 q.cs 112 _ rfl
      have T5a := Lib.hid (T5.out.alloc (.cells q.cs 112))
      have cW := T5a.out.p.walk.cells.1
      have cWd := T5a.out.drew.p.walk.cells.1
      have HST := Lib.hid (set_pm T5a.out.drew.p id q OKQ.out hI hJ)
      have hlt5 := T5a.out.lt
      have hQl : w5.heap.size < (w5.alloc (.cells q.cs 112)).drew.heap.size := by show _ < (w5.alloc (.cells q.cs 112)).heap.size; go_size
      have Q5d : rowAt (w5.alloc (.cells q.cs 112)).drew w5.heap.size = some q.cs := Q5
      go_wp2_with fail
      go_region_held3 (fun W => W.cell? ⟨wb, 0, none⟩ = some (.pointer (some ⟨b, 0, none⟩)) ∧ rowAt W w5.heap.size = some q.cs)
        (first
          | exact ⟨cWd, Q5d⟩
          | exact ⟨T6.out.p.walk.cells.1, Q6⟩)
        (first
          | (go_at_call 59; refine HST.out.mono ?_; rintro e w6 ⟨rfl, hg6, hp6⟩; have T6 := Lib.hid (T5a.out.drew.grown hg6 hp6); have Q6 := (rowAt_grown hg6 (n := w5.heap.size) hQl (by omega)).trans Q5d))
      all_goals
        clear hg6 hp6 cW cWd Q5 Q5d Q6
        go_wp2_with fail
        refine ret_tmp3 rfl rfl ?_
        exact ⟨rfl, by rw [HQe.out]; exact T6.out⟩
    · have h66 : L.length = 6 := by have := T.out.six; omega
      have HPt := Lib.hid (fun w' => nput_full 0 st nx L h66 T.out.cells c T.out.cok T.out.new w')
      have HSp := Lib.hid (fun w' => split_all 0 st nx L h66 T.out.cells w')
      have HLl := Lib.hid (fun nn w' => nput_ok 0 st nn (L.take 3) (by rw [List.length_take]; omega) (fun x hx => T.out.cells x (List.mem_of_mem_take hx)) c T.out.cok T.out.newLo w')
      have HHh := Lib.hid (fun w' => nput_ok 0 st nx (splitHi 0 L) (splitHi_len 0 L h66) T.out.hiOk c T.out.cok T.out.newHi w')
      have hI := T.out.id0
      have hJ := T.out.id1
      have HV1 := HV
      obtain ⟨p, hp⟩ : ∃ p, ndPg 0 st nx L = p := ⟨_, rfl⟩
      obtain ⟨ql, hql⟩ : ∃ ql, ndPg 0 st nx (L.take 3) = ql := ⟨_, rfl⟩
      obtain ⟨qh, hqh⟩ : ∃ qh, ndPg 0 st nx (splitHi 0 L) = qh := ⟨_, rfl⟩
      have hpl : p.l = 0 := by rw [← hp]; rfl
      have hqn : ql.n = nx := by rw [← hql]; rfl
      rw [hp] at HPt HSp ⊢
      have RPh := RPt.out
      rw [hp] at RPh
      have RPq := Lib.hid RPh
      rw [hql, hqh] at HSp
      have HQL := Lib.hid hql
      have HQH := Lib.hid hqh
      clear hp hql hqh RPh
      refine (HPt.out _).mono ?_; rintro e w5 ⟨rfl, hb5⟩
      have T5 := Lib.hid (TSt.out.after hb5)
      have hz5 := hb5.size
      have P5 := (rowAt_past w5 (.cells Pg.zero.cs 112) P (by omega)).trans ((rowAt_below hb5 hPl).trans RPq.out)
      have C5 := Lib.hid ((rowAt_past w5 (.cells Pg.zero.cs 112) w.heap.size (by omega)).trans ((rowAt_below hb5 hCl).trans RCt.out))
      have T5a := Lib.hid (T5.out.alloc (.cells Pg.zero.cs 112))
      have P5h := Lib.hid P5
      have hz5a : w5.heap.size < (w5.alloc (.cells Pg.zero.cs 112)).heap.size := by go_size
      clear hb5
      go_wp2_with fail
      refine (HSp.out _).mono ?_; rintro e w6 ⟨rfl, hb6⟩
      have hz6 := hb6.size
      have P6 := Lib.hid ((rowAt_past _ (.cells qh.cs 112) P (by go_size)).trans ((rowAt_past w6 (.cells ql.cs 112) P (by omega)).trans ((rowAt_below hb6 (by omega)).trans P5h.out)))
      have C6 := Lib.hid ((rowAt_past _ (.cells qh.cs 112) w.heap.size (by go_size)).trans ((rowAt_past w6 (.cells ql.cs 112) w.heap.size (by omega)).trans ((rowAt_below hb6 (by omega)).trans C5.out)))
      have T6 := Lib.hid (((T5a.out.after hb6).alloc (.cells ql.cs 112)).alloc (.cells qh.cs 112))
      have L6 := Lib.hid ((rowAt_past _ (.cells qh.cs 112) w6.heap.size (by go_size)).trans (rowAt_at w6 ql.cs 112 _ rfl))
      have H6 := Lib.hid (rowAt_at (w6.alloc (.cells ql.cs 112)) qh.cs 112 (w6.heap.size + 1) (by go_size))
      have hzW : ((w6.alloc (.cells ql.cs 112)).alloc (.cells qh.cs 112)).heap.size = w6.heap.size + 1 + 1 := by go_size
      have cW := T6.out.p.walk.cells.1
      have hmb := T6.out.lt
      clear hb6 P5
      obtain ⟨sep, hsep⟩ : ∃ sep, sepOf L = sep := ⟨_, rfl⟩
      rw [hsep]
      have HSEP := Lib.hid hsep
      clear hsep
      go_wp2_with fail
      generalize hW6 : (w6.alloc (.cells ql.cs 112)).alloc (.cells qh.cs 112) = W6 at *
      generalize w6.heap.size = B at *
      clear hW6
      cases htk : takeV nn S m with
      | none =>
        have HTk := Lib.hid (take_none S b mb hb pb m nn W6 T6.out.p.stage T.out.vol.map (takeV_none htk))
        obtain ⟨rfl, rfl⟩ := T.out.bad HV1.out h6 htk
        refine HTk.out.mono ?_; rintro e w7 ⟨rfl, hb7⟩
        have T7 := Lib.hid (T6.out.after hb7)
        clear hb7 cW
        go_wp2_with fail
        refine ret_tmp3 rfl rfl ?_
        exact ⟨rfl, T7.out⟩
      | some x =>
        obtain ⟨r, S1, m1⟩ := x
        have HTk := Lib.hid (take_pm T6.out.p T.out.vol htk)
        obtain ⟨hVe, hSe, hr⟩ := T.out.two HV1.out h6 htk
        have OKB := T.out.okB h66 r S1 m1 htk
        rw [HSEP.out] at hVe
        have HVe := Lib.hid hVe
        have HSe := Lib.hid hSe
        have HOk := Lib.hid OKB
        clear hVe hSe OKB htk
        have hr0 : (0 : Int) ≤ (r : Int) := Int.natCast_nonneg _
        have hr1 : (r : Int) < 1024 := by omega
        refine HTk.out.mono ?_; rintro e w7 ⟨rfl, hg7, hp7⟩
        have T7 := Lib.hid (T6.out.grown hg7 hp7)
        have hz7 := hg7.size
        have P7 := (rowAt_grown hg7 (n := P) (by omega) (by omega)).trans P6.out
        have C7 := (rowAt_grown hg7 (n := w.heap.size) (by omega) (by omega)).trans C6.out
        have L7 := (rowAt_grown hg7 (n := B) (by omega) (by omega)).trans L6.out
        have H7 := (rowAt_grown hg7 (n := B + 1) (by omega) (by omega)).trans H6.out
        have cl := (cell_row P7 1).trans (show p.cs[1]? = some (.int .i64 0) by rw [← hpl]; rfl)
        clear hg7 hp7 cW
        have f3 := frozen_row L7 3
        have c3 := (cell_row L7 3).trans (show ql.cs[3]? = some (.int .i64 nx) by rw [← hqn]; rfl)
        have L8a := rowAt_setCell_here _ _ 3 (.int .i64 (r : Int)) _ L7
        rw [cs_setN] at L8a
        have HQ8 : Hid (ndPg 0 st (r : Int) (L.take 3) = { ql with n := (r : Int) }) := Lib.hid (by rw [← HQL.out]; rfl)
        generalize ({ ql with n := (r : Int) } : Pg) = q8 at *
        have L8 := Lib.hid L8a
        have H8 := Lib.hid ((rowAt_setCell_far w7 ⟨B, 3, none⟩ (.int .i64 (r : Int)) (B + 1) (by simp)).trans H7)
        have C8 := Lib.hid ((rowAt_setCell_far w7 ⟨B, 3, none⟩ (.int .i64 (r : Int)) w.heap.size (by simp; omega)).trans C7)
        have T8 := Lib.hid (T7.out.cell ⟨B, 3, none⟩ (.int .i64 (r : Int)) (by show _ ≤ B; omega))
        have hzc : (w7.setCell ⟨B, 3, none⟩ (.int .i64 (r : Int))).heap.size = w7.heap.size := by simp
        clear L8a
        have hz8 : w7.heap.size ≤ (w7.setCell ⟨B, 3, none⟩ (.int .i64 (r : Int))).heap.size := by go_size
        have x0 := cell_row C8.out 0
        have x1 := cell_row C8.out 1
        simp only [List.getElem?_toArray, List.getElem?_cons_succ, List.getElem?_cons_zero] at x0 x1
        have HBo := blt_eq c.key sep
        by_cases hk : KLt c.key sep
        · have hg : Op.bytesLess c.key.toList sep.toList = true := by rw [HBo]; simp [hk]
          have e1 : lowOf L c = insL (L.take 3) (findL c.key (L.take 3) 0).1 c := by unfold lowOf; rw [HSEP.out, if_pos hk]; rfl
          have e2 : highOf 0 L c = splitHi 0 L := by unfold highOf; rw [HSEP.out, if_pos hk]
          have HPl := Lib.hid (fun w' => HLl.out (r : Int) w')
          have hse := HSe.out
          have hok := HOk.out
          rw [e1, e2, HQH.out] at hse hok
          rw [if_pos rfl] at hse hok
          rw [HQ8.out] at HPl
          obtain ⟨ql2, hql2⟩ : ∃ q, ndPg 0 st (r : Int) (insL (L.take 3) (findL c.key (L.take 3) 0).1 c) = q := ⟨_, rfl⟩
          rw [hql2] at HPl hse hok
          have HOk2 := Lib.hid hok
          have HSe2 := Lib.hid hse
          have L8' := L8.out
          clear hse hok e1 e2 hql2
          go_wp2_with fail
          refine (HPl.out _).mono ?_; rintro e w9 ⟨rfl, hb9⟩
          have hz9 := hb9.size
          have T9 := Lib.hid ((T8.out.after hb9).row B ql2.cs (by omega))
          have L9r := (rowAt_below hb9 (by omega)).trans L8.out
          have L9 := rowAt_setRow w9 _ _ ql2.cs L9r
          have H9 := Lib.hid ((rowAt_setRow_far w9 B (B + 1) ql2.cs (by omega)).trans ((rowAt_below hb9 (by omega)).trans H8.out))
          have r9 : row16 (rowAt w9 B) = true := by rw [L9r]; rfl
          have hs9 : (w9.setRow B ql2.cs).heap.size = w9.heap.size := by simp [World.setRow]
          have T9w := T9.out.p.walk.cells.1
          have T9d := T9.out.drew.p.walk.cells.1
          have HS9 := Lib.hid (set_pm T9.out.drew.p id ql2 HOk2.out.1 hI hJ)
          have L9d : rowAt (w9.setRow B ql2.cs).drew B = some ql2.cs := L9
          clear x0 x1
          go_wp2_with fail
          go_region_held3 (fun W => W.cell? ⟨wb, 0, none⟩ = some (.pointer (some ⟨b, 0, none⟩)) ∧ rowAt W B = some ql2.cs)
            (first
              | exact ⟨T9d, L9d⟩
              | exact ⟨Ta.out.p.walk.cells.1, La⟩)
            (first
              | (go_at_call 59; refine HS9.out.mono ?_; rintro e wa ⟨rfl, hga, hpa⟩; have Ta := Lib.hid (T9.out.drew.grown hga hpa); have Ha := Lib.hid ((rowAt_grown hga (n := B + 1) (by show _ < (w9.setRow B ql2.cs).heap.size; rw [hs9]; omega) (by omega)).trans H9.out); have La := (rowAt_grown hga (n := B) (by show _ < (w9.setRow B ql2.cs).heap.size; rw [hs9]; omega) (by omega)).trans L9d))
          all_goals
            have hza := hga.size
            have hzd : (w9.setRow B ql2.cs).drew.heap.size = w9.heap.size := hs9
            rw [hzd] at hza
            have Taw := Ta.out.p.walk.cells.1
            have Tad := Ta.out.drew.p.walk.cells.1
            have HSa := Lib.hid (set_pm Ta.out.drew.p (r : Int) qh HOk2.out.2 hr0 hr1)
            have Ha1 := Ha.out
            have Had : rowAt wa.drew (B + 1) = some qh.cs := Ha.out
            clear hga hpa T9w T9d L9 L9d La
            go_wp2_with fail
            go_region_held3 (fun W => W.cell? ⟨wb, 0, none⟩ = some (.pointer (some ⟨b, 0, none⟩)) ∧ rowAt W (B + 1) = some qh.cs)
              (first
                | exact ⟨Tad, Had⟩
                | exact ⟨Tb.out.p.walk.cells.1, Lb⟩)
              (first
                | (go_at_call 59; refine HSa.out.mono ?_; rintro e wb' ⟨rfl, hgb, hpb⟩; have Tb := Lib.hid (Ta.out.drew.grown hgb hpb); have Lb := (rowAt_grown hgb (n := B + 1) (by show _ < wa.heap.size; omega) (by omega)).trans Had))
            all_goals
              clear hgb hpb Taw Tad Ha1 Had Lb
              go_wp2_with fail
              refine ret_tmp3 rfl rfl ?_
              exact ⟨by rw [HVe.out]; rfl, by rw [HSe2.out]; exact Tb.out⟩
        · have hg : Op.bytesLess c.key.toList sep.toList = false := by rw [HBo]; simp [hk]
          have e1 : lowOf L c = L.take 3 := by unfold lowOf; rw [HSEP.out, if_neg hk]
          have e2 : highOf 0 L c = insL (splitHi 0 L) (findL c.key (splitHi 0 L) 0).1 c := by unfold highOf; rw [HSEP.out, if_neg hk]; rfl
          have HPl := Lib.hid (fun w' => HHh.out w')
          have hse := HSe.out
          have hok := HOk.out
          rw [e1, e2] at hse hok
          rw [if_pos rfl] at hse hok
          rw [HQ8.out] at hse hok
          rw [HQH.out] at HPl
          obtain ⟨qh2, hqh2⟩ : ∃ q, ndPg 0 st nx (insL (splitHi 0 L) (findL c.key (splitHi 0 L) 0).1 c) = q := ⟨_, rfl⟩
          rw [hqh2] at HPl hse hok
          have HOk2 := Lib.hid hok
          have HSe2 := Lib.hid hse
          have H8' := H8.out
          clear hse hok e1 e2 hqh2
          go_wp2_with fail
          refine (HPl.out _).mono ?_; rintro e w9 ⟨rfl, hb9⟩
          have hz9 := hb9.size
          have T9 := Lib.hid ((T8.out.after hb9).row (B + 1) qh2.cs (by omega))
          have H9r := (rowAt_below hb9 (by omega)).trans H8.out
          have H9 := Lib.hid (rowAt_setRow w9 _ _ qh2.cs H9r)
          have L9 := (rowAt_setRow_far w9 (B + 1) B qh2.cs (by omega)).trans ((rowAt_below hb9 (by omega)).trans L8.out)
          have r9 : row16 (rowAt w9 (B + 1)) = true := by rw [H9r]; rfl
          have hs9 : (w9.setRow (B + 1) qh2.cs).heap.size = w9.heap.size := by simp [World.setRow]
          have T9w := T9.out.p.walk.cells.1
          have T9d := T9.out.drew.p.walk.cells.1
          have HS9 := Lib.hid (set_pm T9.out.drew.p id q8 HOk2.out.1 hI hJ)
          have L9d : rowAt (w9.setRow (B + 1) qh2.cs).drew B = some q8.cs := L9
          clear x0 x1
          go_wp2_with fail
          go_region_held3 (fun W => W.cell? ⟨wb, 0, none⟩ = some (.pointer (some ⟨b, 0, none⟩)) ∧ rowAt W B = some q8.cs)
            (first
              | exact ⟨T9d, L9d⟩
              | exact ⟨Ta.out.p.walk.cells.1, La⟩)
            (first
              | (go_at_call 59; refine HS9.out.mono ?_; rintro e wa ⟨rfl, hga, hpa⟩; have Ta := Lib.hid (T9.out.drew.grown hga hpa); have Ha := Lib.hid ((rowAt_grown hga (n := B + 1) (by show _ < (w9.setRow (B + 1) qh2.cs).heap.size; rw [hs9]; omega) (by omega)).trans H9.out); have La := (rowAt_grown hga (n := B) (by show _ < (w9.setRow (B + 1) qh2.cs).heap.size; rw [hs9]; omega) (by omega)).trans L9d))
          all_goals
            have hza := hga.size
            have hzd : (w9.setRow (B + 1) qh2.cs).drew.heap.size = w9.heap.size := hs9
            rw [hzd] at hza
            have Taw := Ta.out.p.walk.cells.1
            have Tad := Ta.out.drew.p.walk.cells.1
            have HSa := Lib.hid (set_pm Ta.out.drew.p (r : Int) qh2 HOk2.out.2 hr0 hr1)
            have Ha1 := Ha.out
            have Had : rowAt wa.drew (B + 1) = some qh2.cs := Ha.out
            clear hga hpa T9w T9d L9 L9d La
            go_wp2_with fail
            go_region_held3 (fun W => W.cell? ⟨wb, 0, none⟩ = some (.pointer (some ⟨b, 0, none⟩)) ∧ rowAt W (B + 1) = some qh2.cs)
              (first
                | exact ⟨Tad, Had⟩
                | exact ⟨Tb.out.p.walk.cells.1, Lb⟩)
              (first
                | (go_at_call 59; refine HSa.out.mono ?_; rintro e wb' ⟨rfl, hgb, hpb⟩; have Tb := Lib.hid (Ta.out.drew.grown hgb hpb); have Lb := (rowAt_grown hgb (n := B + 1) (by show _ < wa.heap.size; omega) (by omega)).trans Had))
            all_goals
              clear hgb hpb Taw Tad Ha1 Had Lb
              go_wp2_with fail
              refine ret_tmp3 rfl rfl ?_
              exact ⟨by rw [HVe.out]; rfl, by rw [HSe2.out]; exact Tb.out⟩
  · have hn6 : ((L0.length : Int) == 6) = false := by simp; omega
    rw [if_neg e6] at HT HV0
    have RPt : Hid (rowAt w2 P = some (ndPg 0 st nx L0).cs) := Lib.hid (by rw [HP.out]; exact P2)
    have RCt := C2
    have TSt := T2
    have hPl : P < w2.heap.size := by omega
    have hCl : w.heap.size < w2.heap.size := by omega
    have T := HT
    have HV := HV0
    generalize L0 = L at *
    clear P2 cl
    have RP := RPt.out
    have x0 := cell_row RCt.out 0
    have x1 := cell_row RCt.out 1
    simp only [List.getElem?_toArray, List.getElem?_cons_succ, List.getElem?_cons_zero] at x0 x1
    go_wp2_with fail
    clear RP x0 x1
    by_cases h6 : L.length < 6
    · obtain ⟨rfl, rfl⟩ := T.out.one HV.out h6
      have HPt := Lib.hid (fun w' => nput_ok 0 st nx L (by omega) T.out.cells c T.out.cok T.out.new w')
      have OKQ := Lib.hid (T.out.okA h6)
      have hI := T.out.id0
      have hJ := T.out.id1
      obtain ⟨q, hq⟩ : ∃ q, ndPg 0 st nx (insC L c) = q := ⟨_, rfl⟩
      have hq' : ndPg 0 st nx (insL L (findL c.key L 0).1 c) = q := hq
      rw [hq'] at HPt
      rw [hq] at OKQ
      have HQe := Lib.hid hq
      generalize ndPg 0 st nx L = p at *
      clear hq hq'
      refine (HPt.out _).mono ?_; rintro e w5 ⟨rfl, hb5⟩
      have T5 := Lib.hid (TSt.out.after hb5)
      have hz5 := hb5.size
      clear hb5
      have Q5 := rowAt_at w5 q.cs 112 _ rfl
      have T5a := Lib.hid (T5.out.alloc (.cells q.cs 112))
      have cW := T5a.out.p.walk.cells.1
      have cWd := T5a.out.drew.p.walk.cells.1
      have HST := Lib.hid (set_pm T5a.out.drew.p id q OKQ.out hI hJ)
      have hlt5 := T5a.out.lt
      have hQl : w5.heap.size < (w5.alloc (.cells q.cs 112)).drew.heap.size := by show _ < (w5.alloc (.cells q.cs 112)).heap.size; go_size
      have Q5d : rowAt (w5.alloc (.cells q.cs 112)).drew w5.heap.size = some q.cs := Q5
      go_wp2_with fail
      go_region_held3 (fun W => W.cell? ⟨wb, 0, none⟩ = some (.pointer (some ⟨b, 0, none⟩)) ∧ rowAt W w5.heap.size = some q.cs)
        (first
          | exact ⟨cWd, Q5d⟩
          | exact ⟨T6.out.p.walk.cells.1, Q6⟩)
        (first
          | (go_at_call 59; refine HST.out.mono ?_; rintro e w6 ⟨rfl, hg6, hp6⟩; have T6 := Lib.hid (T5a.out.drew.grown hg6 hp6); have Q6 := (rowAt_grown hg6 (n := w5.heap.size) hQl (by omega)).trans Q5d))
      all_goals
        clear hg6 hp6 cW cWd Q5 Q5d Q6
        go_wp2_with fail
        refine ret_tmp3 rfl rfl ?_
        exact ⟨rfl, by rw [HQe.out]; exact T6.out⟩
    · have h66 : L.length = 6 := by have := T.out.six; omega
      exact absurd h66 e6
end

/-!
  Layer 16 (tree): put at an inner node.
-/
section
open Go.RowKit Go.Joins
set_option linter.unusedVariables false
set_option linter.unusedSimpArgs false
theorem TS.trans {w w1 w2 : World} {wb b mb hb pb : Nat} {st root : Int} {ka : Option Addr} {kc : Nat} {kp : List ByteArray} {S S' : Vol} (h : TS w w1 wb b mb hb pb st root ka kc kp S) (k : TS w1 w2 wb b mb hb pb st root ka kc kp S') : TS w w2 wb b mb hb pb st root ka kc kp S' := ⟨grown_trans h.g k.g, k.p, h.p0⟩

set_option maxHeartbeats 8000000 in
set_option maxRecDepth 100000 in
theorem wput_inner {S Sk : Vol} {d m : Pg} {nn : Nat} (lv lm : Int) (hgt : decide ((0 : Int) < lv) = true) (hlm : wrap64 (lv - 1) = lm) (st root id : Int) (L : List NC) (h6 : L.length ≤ 6) (hok : ∀ x ∈ L, x.ok) (j : Nat) (hj : j < L.length) (cid : Int) (c0 c : NC)
    (hdn : downL c0.key L = j) (xa : Int) (xd : ByteArray) (hxa : L[j].st = xa) (hxd : L[j].d = xd) (hch : ∀ w', Calls Try.prog 104 #[.agg #[.int .i64 xa, .string xd]] w' fun e w2 => e = .returned (.int .i64 cid) ∧ Below w'.heap.size w' w2)
    (ka : Option Addr) (kc : Nat) (kp : List ByteArray) (b mb hb pb wb : Nat) (w : World) (hs : PM w wb b mb hb pb st root ka kc kp S)
    (hg : ∀ w', StageAt w' b mb hb pb S → WalkAt w' wb b st root (.slice ka kp.length kc) → Calls Try.prog 83 #[.pointer (some ⟨wb, 0, none⟩), .int .i64 id] w' fun e w2 => e = .returned (.tuple #[(ndPg lv st 0 L).v, .int .i64 0]) ∧ Below w'.heap.size w' w2)
    (Vk V : Value) (S' : Vol) (m' : Pg)
    (hrec : ∀ w', PM w' wb b mb hb pb st root ka kc kp S → Calls Try.prog 84 #[.pointer (some ⟨wb, 0, none⟩), .int .i64 cid, .int .i64 lm, .string c0.key, .agg #[.int .i64 c0.st, .string c0.d]] w' fun e w2 => e = .returned Vk ∧ TS w' w2 wb b mb hb pb st root ka kc kp Sk)
    (hcase : (∃ er : Int, (er = 0 ∨ er = 140) ∧ Vk = .tuple #[.string ⟨#[]⟩, .int .i64 0, .int .i64 er] ∧ V = Vk ∧ S' = Sk) ∨
      (∃ rr : Int, Vk = .tuple #[.string c.key, .int .i64 rr, .int .i64 0] ∧ (rr == 0) = false ∧ (∀ w', Calls Try.prog 107 #[.string c.key, .int .i64 rr] w' fun e w2 => e = .returned (.tuple #[.agg #[.int .i64 c.st, .string c.d], .int .i64 0]) ∧ Below w'.heap.size w' w2) ∧
        TailOk nn st lv 0 id L c Sk d m ∧ tailV nn st lv 0 id L c Sk m = (V, S', m'))) :
    Calls Try.prog 84 #[.pointer (some ⟨wb, 0, none⟩), .int .i64 id, .int .i64 lv, .string c0.key, .agg #[.int .i64 c0.st, .string c0.d]] w fun e w' => e = .returned V ∧ TS w w' wb b mb hb pb st root ka kc kp S' := by
  have HG := Lib.hid hg
  have HR := Lib.hid hrec
  have HCa := Lib.hid hcase
  have HCh := Lib.hid hch
  have HDn := Lib.hid (fun w' => ndown_any lv st 0 L h6 hok c0.key w')
  rw [hdn] at HDn
  have T0 := Lib.hid (hs.ts.alloc (.cells #[.int .i64 c0.st, .string c0.d] 84))
  have hl0 := hs.lt
  have hlv0 : ¬ lv = 0 := by have := of_decide_eq_true hgt; omega
  have hlvb : (lv == 0) = false := by simp [hlv0]
  have hj6 : j < 6 := by omega
  have hj0 : (0 : Int) ≤ (j : Int) := Int.natCast_nonneg _
  have hji : (j : Int) < 6 := by omega
  have hA := ((nd_a lv st 0 L j hj6).trans (stL_get hj)).trans hxa
  have hD := ((nd_d lv st 0 L j hj6).trans (dL_get hj)).trans hxd
  clear hs hg hrec hcase hch hok hdn hxa hxd
  obtain ⟨p, hp⟩ : ∃ p, ndPg lv st 0 L = p := ⟨_, rfl⟩
  rw [hp] at HG HDn hA hD
  have hpl : p.l = lv := by rw [← hp]; rfl
  have HP := Lib.hid hp
  clear hp
  go_enter Try.func84, Try.ntmps84
  go_wp2_with fail
  refine (HG.out _ T0.out.p.stage T0.out.p.walk).mono ?_; rintro e w1 ⟨rfl, hb1⟩
  have hz1 := hb1.size
  simp only [World.size_alloc] at hz1
  have C1 := (rowAt_below hb1 (n := w.heap.size) (by go_size)).trans (rowAt_at w #[.int .i64 c0.st, .string c0.d] 84 _ rfl)
  have T1 := Lib.hid ((T0.out.after hb1).alloc (.cells p.cs 112))
  have C1' := Lib.hid ((rowAt_past w1 (.cells p.cs 112) w.heap.size (by omega)).trans C1)
  have P1 := rowAt_at w1 p.cs 112 _ rfl
  have cl := (cell_row P1 1).trans (show p.cs[1]? = some (.int .i64 lv) by rw [← hpl]; rfl)
  have HP1 := Lib.hid P1
  have hPsz : w1.heap.size < (w1.alloc (.cells p.cs 112)).heap.size := by go_size
  have hCsz : w.heap.size < w1.heap.size := by omega
  clear hb1 C1
  go_wp2_with fail
  generalize hW1 : w1.alloc (.cells p.cs 112) = W1 at *
  generalize w1.heap.size = P at *
  clear hW1
  refine (HDn.out _).mono ?_; rintro e w2 ⟨rfl, hb2⟩
  have hz2 := hb2.size
  have T2 := Lib.hid (T1.out.after hb2)
  have P2 := (rowAt_below hb2 hPsz).trans HP1.out
  have P2' := Lib.hid P2
  have C2 := Lib.hid ((rowAt_below hb2 (by omega)).trans C1'.out)
  have cA := (cell_row P2 (4 + j * 2)).trans (cs_a p j hj6)
  have cD := (cell_row P2 (4 + j * 2 + 1)).trans (cs_d p j hj6)
  rw [hA] at cA
  rw [hD] at cD
  clear hb2 P1 cl hA hD P2
  have hPC : P ≠ w.heap.size := by omega
  go_wp2_with fail
  refine (HCh.out _).mono ?_; rintro e w3 ⟨rfl, hb3⟩
  have hz3 := hb3.size
  have T3 := Lib.hid (T2.out.after hb3)
  have P3 := Lib.hid ((rowAt_below hb3 (by omega)).trans P2'.out)
  have C3 := (rowAt_below hb3 (n := w.heap.size) (by omega)).trans C2.out
  have C3' := Lib.hid C3
  have x0 := cell_row C3 0
  have x1 := cell_row C3 1
  simp only [List.getElem?_toArray, List.getElem?_cons_succ, List.getElem?_cons_zero] at x0 x1
  clear hb3 cA cD C3
  go_wp2_with fail
  refine (HR.out _ T3.out.p).mono ?_; rintro e w4 ⟨rfl, ht4⟩
  have hz4 := ht4.lt
  have hz3b := T3.out.lt
  have T4 := Lib.hid (T3.out.trans ht4)
  have P4 := Lib.hid ((rowAt_grown ht4.g (n := P) (by omega) (by omega)).trans P3.out)
  have C4 := Lib.hid ((rowAt_grown ht4.g (n := w.heap.size) (by omega) (by omega)).trans C3'.out)
  clear ht4 x0 x1
  rcases HCa.out with ⟨er, her, rfl, rfl, rfl⟩ | ⟨rr, rfl, hrr, hin, ht, hv⟩
  · rcases her with rfl | rfl
    all_goals
      go_wp2_with fail
      refine ret_tmp3 rfl rfl ?_
      exact ⟨rfl, T4.out⟩
  · have HIn := Lib.hid hin
    have T := Lib.hid ht
    have HV := Lib.hid hv
    clear hin ht hv
    go_wp2_with fail
    refine (HIn.out _).mono ?_; rintro e w5 ⟨rfl, hb5⟩
    have hz5 := hb5.size
    have T5 := Lib.hid (T4.out.after hb5)
    have P5 := (rowAt_below hb5 (n := P) (by omega)).trans P4.out
    have C5 := (rowAt_below hb5 (n := w.heap.size) (by omega)).trans C4.out
    have x0 := cell_row C5 0
    have x1 := cell_row C5 1
    simp only [List.getElem?_toArray, List.getElem?_cons_succ, List.getElem?_cons_zero] at x0 x1
    have f0 := frozen_row C5 0
    have f1 := frozen_row C5 1
    have Ra := rowAt_setCell_here _ _ 1 (.string c.d) _ (rowAt_setCell_here _ _ 0 (.int .i64 c.st) _ C5)
    have RCt : Hid (rowAt ((w5.setCell ⟨w.heap.size, 0, none⟩ (.int .i64 c.st)).setCell ⟨w.heap.size, 1, none⟩ (.string c.d)) w.heap.size = some #[.int .i64 c.st, .string c.d]) := Lib.hid Ra
    have TSt := Lib.hid ((T5.out.cell ⟨w.heap.size, 0, none⟩ (.int .i64 c.st) (Nat.le_refl _)).cell ⟨w.heap.size, 1, none⟩ (.string c.d) (Nat.le_refl _))
    have RPt : Hid (rowAt ((w5.setCell ⟨w.heap.size, 0, none⟩ (.int .i64 c.st)).setCell ⟨w.heap.size, 1, none⟩ (.string c.d)) P = some (ndPg lv st 0 L).cs) := Lib.hid (by
      rw [HP.out, rowAt_setCell_far _ _ _ _ (by simpa using Ne.symm hPC), rowAt_setCell_far _ _ _ _ (by simpa using Ne.symm hPC)]
      exact P5)
    have hPl : P < ((w5.setCell ⟨w.heap.size, 0, none⟩ (.int .i64 c.st)).setCell ⟨w.heap.size, 1, none⟩ (.string c.d)).heap.size := by simp only [World.size_setCell]; omega
    have hCl : w.heap.size < ((w5.setCell ⟨w.heap.size, 0, none⟩ (.int .i64 c.st)).setCell ⟨w.heap.size, 1, none⟩ (.string c.d)).heap.size := by simp only [World.size_setCell]; omega
    have cl := (cell_row RPt.out 1).trans (show (ndPg lv st 0 L).cs[1]? = some (.int .i64 lv) from rfl)
    clear hb5 C5 P5 Ra
    have RP := RPt.out
    have x0 := cell_row RCt.out 0
    have x1 := cell_row RCt.out 1
    simp only [List.getElem?_toArray, List.getElem?_cons_succ, List.getElem?_cons_zero] at x0 x1
    go_wp2_with fail
    clear RP x0 x1
    generalize (w5.setCell ⟨w.heap.size, 0, none⟩ (.int .i64 c.st)).setCell ⟨w.heap.size, 1, none⟩ (.string c.d) = wt at *
    by_cases h6 : L.length < 6
    · obtain ⟨rfl, rfl⟩ := T.out.one HV.out h6
      have HPt := Lib.hid (fun w' => nput_ok lv st 0 L (by omega) T.out.cells c T.out.cok T.out.new w')
      have OKQ := Lib.hid (T.out.okA h6)
      have hI := T.out.id0
      have hJ := T.out.id1
      obtain ⟨q, hq⟩ : ∃ q, ndPg lv st 0 (insC L c) = q := ⟨_, rfl⟩
      have hq' : ndPg lv st 0 (insL L (findL c.key L 0).1 c) = q := hq
      rw [hq'] at HPt
      rw [hq] at OKQ
      have HQe := Lib.hid hq
      generalize ndPg lv st 0 L = p at *
      clear hq hq'
      refine (HPt.out _).mono ?_; rintro e w5 ⟨rfl, hb5⟩
      have T5 := Lib.hid (TSt.out.after hb5)
      have hz5 := hb5.size
      clear hb5
      have Q5 := rowAt_at w5 q.cs 112 _ rfl
      have T5a := Lib.hid (T5.out.alloc (.cells q.cs 112))
      have cW := T5a.out.p.walk.cells.1
      have cWd := T5a.out.drew.p.walk.cells.1
      have HST := Lib.hid (set_pm T5a.out.drew.p id q OKQ.out hI hJ)
      have hlt5 := T5a.out.lt
      have hQl : w5.heap.size < (w5.alloc (.cells q.cs 112)).drew.heap.size := by show _ < (w5.alloc (.cells q.cs 112)).heap.size; go_size
      have Q5d : rowAt (w5.alloc (.cells q.cs 112)).drew w5.heap.size = some q.cs := Q5
      go_wp2_with fail
      go_region_held3 (fun W => W.cell? ⟨wb, 0, none⟩ = some (.pointer (some ⟨b, 0, none⟩)) ∧ rowAt W w5.heap.size = some q.cs)
        (first
          | exact ⟨cWd, Q5d⟩
          | exact ⟨T6.out.p.walk.cells.1, Q6⟩)
        (first
          | (go_at_call 59; refine HST.out.mono ?_; rintro e w6 ⟨rfl, hg6, hp6⟩; have T6 := Lib.hid (T5a.out.drew.grown hg6 hp6); have Q6 := (rowAt_grown hg6 (n := w5.heap.size) hQl (by omega)).trans Q5d))
      all_goals
        clear hg6 hp6 cW cWd Q5 Q5d Q6
        go_wp2_with fail
        refine ret_tmp3 rfl rfl ?_
        exact ⟨rfl, by rw [HQe.out]; exact T6.out⟩
    · have h66 : L.length = 6 := by have := T.out.six; omega
      have HPt := Lib.hid (fun w' => nput_full lv st 0 L h66 T.out.cells c T.out.cok T.out.new w')
      have HSp := Lib.hid (fun w' => split_all lv st 0 L h66 T.out.cells w')
      have HLl := Lib.hid (fun nn w' => nput_ok lv st nn (L.take 3) (by rw [List.length_take]; omega) (fun x hx => T.out.cells x (List.mem_of_mem_take hx)) c T.out.cok T.out.newLo w')
      have HHh := Lib.hid (fun w' => nput_ok lv st 0 (splitHi lv L) (splitHi_len lv L h66) T.out.hiOk c T.out.cok T.out.newHi w')
      have hI := T.out.id0
      have hJ := T.out.id1
      have HV1 := HV
      obtain ⟨p, hp⟩ : ∃ p, ndPg lv st 0 L = p := ⟨_, rfl⟩
      obtain ⟨ql, hql⟩ : ∃ ql, ndPg lv st 0 (L.take 3) = ql := ⟨_, rfl⟩
      obtain ⟨qh, hqh⟩ : ∃ qh, ndPg lv st 0 (splitHi lv L) = qh := ⟨_, rfl⟩
      have hpl : p.l = lv := by rw [← hp]; rfl
      have hqn : ql.n = 0 := by rw [← hql]; rfl
      rw [hp] at HPt HSp ⊢
      have RPh := RPt.out
      rw [hp] at RPh
      have RPq := Lib.hid RPh
      rw [hql, hqh] at HSp
      have HQL := Lib.hid hql
      have HQH := Lib.hid hqh
      clear hp hql hqh RPh
      refine (HPt.out _).mono ?_; rintro e w5 ⟨rfl, hb5⟩
      have T5 := Lib.hid (TSt.out.after hb5)
      have hz5 := hb5.size
      have P5 := (rowAt_past w5 (.cells Pg.zero.cs 112) P (by omega)).trans ((rowAt_below hb5 hPl).trans RPq.out)
      have C5 := Lib.hid ((rowAt_past w5 (.cells Pg.zero.cs 112) w.heap.size (by omega)).trans ((rowAt_below hb5 hCl).trans RCt.out))
      have T5a := Lib.hid (T5.out.alloc (.cells Pg.zero.cs 112))
      have P5h := Lib.hid P5
      have hz5a : w5.heap.size < (w5.alloc (.cells Pg.zero.cs 112)).heap.size := by go_size
      clear hb5
      go_wp2_with fail
      refine (HSp.out _).mono ?_; rintro e w6 ⟨rfl, hb6⟩
      have hz6 := hb6.size
      have P6 := Lib.hid ((rowAt_past _ (.cells qh.cs 112) P (by go_size)).trans ((rowAt_past w6 (.cells ql.cs 112) P (by omega)).trans ((rowAt_below hb6 (by omega)).trans P5h.out)))
      have C6 := Lib.hid ((rowAt_past _ (.cells qh.cs 112) w.heap.size (by go_size)).trans ((rowAt_past w6 (.cells ql.cs 112) w.heap.size (by omega)).trans ((rowAt_below hb6 (by omega)).trans C5.out)))
      have T6 := Lib.hid (((T5a.out.after hb6).alloc (.cells ql.cs 112)).alloc (.cells qh.cs 112))
      have L6 := Lib.hid ((rowAt_past _ (.cells qh.cs 112) w6.heap.size (by go_size)).trans (rowAt_at w6 ql.cs 112 _ rfl))
      have H6 := Lib.hid (rowAt_at (w6.alloc (.cells ql.cs 112)) qh.cs 112 (w6.heap.size + 1) (by go_size))
      have hzW : ((w6.alloc (.cells ql.cs 112)).alloc (.cells qh.cs 112)).heap.size = w6.heap.size + 1 + 1 := by go_size
      have cW := T6.out.p.walk.cells.1
      have hmb := T6.out.lt
      clear hb6 P5
      obtain ⟨sep, hsep⟩ : ∃ sep, sepOf L = sep := ⟨_, rfl⟩
      rw [hsep]
      have HSEP := Lib.hid hsep
      clear hsep
      go_wp2_with fail
      generalize hW6 : (w6.alloc (.cells ql.cs 112)).alloc (.cells qh.cs 112) = W6 at *
      generalize w6.heap.size = B at *
      clear hW6
      cases htk : takeV nn Sk m with
      | none =>
        have HTk := Lib.hid (take_none Sk b mb hb pb m nn W6 T6.out.p.stage T.out.vol.map (takeV_none htk))
        obtain ⟨rfl, rfl⟩ := T.out.bad HV1.out h6 htk
        refine HTk.out.mono ?_; rintro e w7 ⟨rfl, hb7⟩
        have T7 := Lib.hid (T6.out.after hb7)
        clear hb7 cW
        go_wp2_with fail
        refine ret_tmp3 rfl rfl ?_
        exact ⟨rfl, T7.out⟩
      | some x =>
        obtain ⟨r, S1, m1⟩ := x
        have HTk := Lib.hid (take_pm T6.out.p T.out.vol htk)
        obtain ⟨hVe, hSe, hr⟩ := T.out.two HV1.out h6 htk
        have OKB := T.out.okB h66 r S1 m1 htk
        rw [HSEP.out] at hVe
        have HVe := Lib.hid hVe
        have HSe := Lib.hid hSe
        have HOk := Lib.hid OKB
        clear hVe hSe OKB htk
        have hr0 : (0 : Int) ≤ (r : Int) := Int.natCast_nonneg _
        have hr1 : (r : Int) < 1024 := by omega
        refine HTk.out.mono ?_; rintro e w7 ⟨rfl, hg7, hp7⟩
        have T7 := Lib.hid (T6.out.grown hg7 hp7)
        have hz7 := hg7.size
        have P7 := (rowAt_grown hg7 (n := P) (by omega) (by omega)).trans P6.out
        have C7 := (rowAt_grown hg7 (n := w.heap.size) (by omega) (by omega)).trans C6.out
        have L7 := (rowAt_grown hg7 (n := B) (by omega) (by omega)).trans L6.out
        have H7 := (rowAt_grown hg7 (n := B + 1) (by omega) (by omega)).trans H6.out
        have cl := (cell_row P7 1).trans (show p.cs[1]? = some (.int .i64 lv) by rw [← hpl]; rfl)
        clear hg7 hp7 cW
        have HQ8 := HQL
        have L8 := Lib.hid L7
        have H8 := Lib.hid H7
        have C8 := Lib.hid C7
        have T8 := T7
        have hzc : w7.heap.size = w7.heap.size := rfl
        have hz8 : w7.heap.size ≤ w7.heap.size := by go_size
        have x0 := cell_row C8.out 0
        have x1 := cell_row C8.out 1
        simp only [List.getElem?_toArray, List.getElem?_cons_succ, List.getElem?_cons_zero] at x0 x1
        have HBo := blt_eq c.key sep
        by_cases hk : KLt c.key sep
        · have hg : Op.bytesLess c.key.toList sep.toList = true := by rw [HBo]; simp [hk]
          have e1 : lowOf L c = insL (L.take 3) (findL c.key (L.take 3) 0).1 c := by unfold lowOf; rw [HSEP.out, if_pos hk]; rfl
          have e2 : highOf lv L c = splitHi lv L := by unfold highOf; rw [HSEP.out, if_pos hk]
          have HPl := Lib.hid (fun w' => HLl.out 0 w')
          have hse := HSe.out
          have hok := HOk.out
          rw [e1, e2, HQH.out] at hse hok
          rw [if_neg hlv0] at hse hok
          rw [HQ8.out] at HPl
          obtain ⟨ql2, hql2⟩ : ∃ q, ndPg lv st 0 (insL (L.take 3) (findL c.key (L.take 3) 0).1 c) = q := ⟨_, rfl⟩
          rw [hql2] at HPl hse hok
          have HOk2 := Lib.hid hok
          have HSe2 := Lib.hid hse
          have L8' := L8.out
          clear hse hok e1 e2 hql2
          go_wp2_with fail
          refine (HPl.out _).mono ?_; rintro e w9 ⟨rfl, hb9⟩
          have hz9 := hb9.size
          have T9 := Lib.hid ((T8.out.after hb9).row B ql2.cs (by omega))
          have L9r := (rowAt_below hb9 (by omega)).trans L8.out
          have L9 := rowAt_setRow w9 _ _ ql2.cs L9r
          have H9 := Lib.hid ((rowAt_setRow_far w9 B (B + 1) ql2.cs (by omega)).trans ((rowAt_below hb9 (by omega)).trans H8.out))
          have r9 : row16 (rowAt w9 B) = true := by rw [L9r]; rfl
          have hs9 : (w9.setRow B ql2.cs).heap.size = w9.heap.size := by simp [World.setRow]
          have T9w := T9.out.p.walk.cells.1
          have T9d := T9.out.drew.p.walk.cells.1
          have HS9 := Lib.hid (set_pm T9.out.drew.p id ql2 HOk2.out.1 hI hJ)
          have L9d : rowAt (w9.setRow B ql2.cs).drew B = some ql2.cs := L9
          clear x0 x1
          go_wp2_with fail
          go_region_held3 (fun W => W.cell? ⟨wb, 0, none⟩ = some (.pointer (some ⟨b, 0, none⟩)) ∧ rowAt W B = some ql2.cs)
            (first
              | exact ⟨T9d, L9d⟩
              | exact ⟨Ta.out.p.walk.cells.1, La⟩)
            (first
              | (go_at_call 59; refine HS9.out.mono ?_; rintro e wa ⟨rfl, hga, hpa⟩; have Ta := Lib.hid (T9.out.drew.grown hga hpa); have Ha := Lib.hid ((rowAt_grown hga (n := B + 1) (by show _ < (w9.setRow B ql2.cs).heap.size; rw [hs9]; omega) (by omega)).trans H9.out); have La := (rowAt_grown hga (n := B) (by show _ < (w9.setRow B ql2.cs).heap.size; rw [hs9]; omega) (by omega)).trans L9d))
          all_goals
            have hza := hga.size
            have hzd : (w9.setRow B ql2.cs).drew.heap.size = w9.heap.size := hs9
            rw [hzd] at hza
            have Taw := Ta.out.p.walk.cells.1
            have Tad := Ta.out.drew.p.walk.cells.1
            have HSa := Lib.hid (set_pm Ta.out.drew.p (r : Int) qh HOk2.out.2 hr0 hr1)
            have Ha1 := Ha.out
            have Had : rowAt wa.drew (B + 1) = some qh.cs := Ha.out
            clear hga hpa T9w T9d L9 L9d La
            go_wp2_with fail
            go_region_held3 (fun W => W.cell? ⟨wb, 0, none⟩ = some (.pointer (some ⟨b, 0, none⟩)) ∧ rowAt W (B + 1) = some qh.cs)
              (first
                | exact ⟨Tad, Had⟩
                | exact ⟨Tb.out.p.walk.cells.1, Lb⟩)
              (first
                | (go_at_call 59; refine HSa.out.mono ?_; rintro e wb' ⟨rfl, hgb, hpb⟩; have Tb := Lib.hid (Ta.out.drew.grown hgb hpb); have Lb := (rowAt_grown hgb (n := B + 1) (by show _ < wa.heap.size; omega) (by omega)).trans Had))
            all_goals
              clear hgb hpb Taw Tad Ha1 Had Lb
              go_wp2_with fail
              refine ret_tmp3 rfl rfl ?_
              exact ⟨by rw [HVe.out]; rfl, by rw [HSe2.out]; exact Tb.out⟩
        · have hg : Op.bytesLess c.key.toList sep.toList = false := by rw [HBo]; simp [hk]
          have e1 : lowOf L c = L.take 3 := by unfold lowOf; rw [HSEP.out, if_neg hk]
          have e2 : highOf lv L c = insL (splitHi lv L) (findL c.key (splitHi lv L) 0).1 c := by unfold highOf; rw [HSEP.out, if_neg hk]; rfl
          have HPl := Lib.hid (fun w' => HHh.out w')
          have hse := HSe.out
          have hok := HOk.out
          rw [e1, e2] at hse hok
          rw [if_neg hlv0] at hse hok
          rw [HQ8.out] at hse hok
          rw [HQH.out] at HPl
          obtain ⟨qh2, hqh2⟩ : ∃ q, ndPg lv st 0 (insL (splitHi lv L) (findL c.key (splitHi lv L) 0).1 c) = q := ⟨_, rfl⟩
          rw [hqh2] at HPl hse hok
          have HOk2 := Lib.hid hok
          have HSe2 := Lib.hid hse
          have H8' := H8.out
          clear hse hok e1 e2 hqh2
          go_wp2_with fail
          refine (HPl.out _).mono ?_; rintro e w9 ⟨rfl, hb9⟩
          have hz9 := hb9.size
          have T9 := Lib.hid ((T8.out.after hb9).row (B + 1) qh2.cs (by omega))
          have H9r := (rowAt_below hb9 (by omega)).trans H8.out
          have H9 := Lib.hid (rowAt_setRow w9 _ _ qh2.cs H9r)
          have L9 := (rowAt_setRow_far w9 (B + 1) B qh2.cs (by omega)).trans ((rowAt_below hb9 (by omega)).trans L8.out)
          have r9 : row16 (rowAt w9 (B + 1)) = true := by rw [H9r]; rfl
          have hs9 : (w9.setRow (B + 1) qh2.cs).heap.size = w9.heap.size := by simp [World.setRow]
          have T9w := T9.out.p.walk.cells.1
          have T9d := T9.out.drew.p.walk.cells.1
          have HS9 := Lib.hid (set_pm T9.out.drew.p id ql HOk2.out.1 hI hJ)
          have L9d : rowAt (w9.setRow (B + 1) qh2.cs).drew B = some ql.cs := L9
          clear x0 x1
          go_wp2_with fail
          go_region_held3 (fun W => W.cell? ⟨wb, 0, none⟩ = some (.pointer (some ⟨b, 0, none⟩)) ∧ rowAt W B = some ql.cs)
            (first
              | exact ⟨T9d, L9d⟩
              | exact ⟨Ta.out.p.walk.cells.1, La⟩)
            (first
              | (go_at_call 59; refine HS9.out.mono ?_; rintro e wa ⟨rfl, hga, hpa⟩; have Ta := Lib.hid (T9.out.drew.grown hga hpa); have Ha := Lib.hid ((rowAt_grown hga (n := B + 1) (by show _ < (w9.setRow (B + 1) qh2.cs).heap.size; rw [hs9]; omega) (by omega)).trans H9.out); have La := (rowAt_grown hga (n := B) (by show _ < (w9.setRow (B + 1) qh2.cs).heap.size; rw [hs9]; omega) (by omega)).trans L9d))
          all_goals
            have hza := hga.size
            have hzd : (w9.setRow (B + 1) qh2.cs).drew.heap.size = w9.heap.size := hs9
            rw [hzd] at hza
            have Taw := Ta.out.p.walk.cells.1
            have Tad := Ta.out.drew.p.walk.cells.1
            have HSa := Lib.hid (set_pm Ta.out.drew.p (r : Int) qh2 HOk2.out.2 hr0 hr1)
            have Ha1 := Ha.out
            have Had : rowAt wa.drew (B + 1) = some qh2.cs := Ha.out
            clear hga hpa T9w T9d L9 L9d La
            go_wp2_with fail
            go_region_held3 (fun W => W.cell? ⟨wb, 0, none⟩ = some (.pointer (some ⟨b, 0, none⟩)) ∧ rowAt W (B + 1) = some qh2.cs)
              (first
                | exact ⟨Tad, Had⟩
                | exact ⟨Tb.out.p.walk.cells.1, Lb⟩)
              (first
                | (go_at_call 59; refine HSa.out.mono ?_; rintro e wb' ⟨rfl, hgb, hpb⟩; have Tb := Lib.hid (Ta.out.drew.grown hgb hpb); have Lb := (rowAt_grown hgb (n := B + 1) (by show _ < wa.heap.size; omega) (by omega)).trans Had))
            all_goals
              clear hgb hpb Taw Tad Ha1 Had Lb
              go_wp2_with fail
              refine ret_tmp3 rfl rfl ?_
              exact ⟨by rw [HVe.out]; rfl, by rw [HSe2.out]; exact Tb.out⟩
end
end Go.Proofs.Ytljommhbhpappaa
