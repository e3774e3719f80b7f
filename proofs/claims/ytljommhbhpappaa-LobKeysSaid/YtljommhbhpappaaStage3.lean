/-
  Layer 13 (stage): the contracts of Stage.Set, Memory and New.
-/
import Derived.Test.YtljommhbhpappaaStage2
namespace Go.Proofs.Ytljommhbhpappaa
open Go.RowKit Go.Joins
set_option linter.unusedVariables false
set_option linter.unusedSimpArgs false

theorem grown_setBlock {w w1 : World} {mb : Nat} (h : w.grownBy w1 (some mb)) (o : Obj) : w.grownBy (ChangeMaps.setBlock w1 mb o) (some mb) :=
  ⟨h.os, h.tape, h.output, by simpa [ChangeMaps.setBlock] using h.size, fun i hi hne => by
    rw [← h.block i hi hne]
    have hn : ¬ mb = i := fun e => hne (by rw [e])
    simp [ChangeMaps.setBlock, Array.getElem?_modify, hn]⟩

/-- a page may be set at a number -/
def okSet (id : Int) (p : Pg) : Bool := decide (0 ≤ id) && decide (id < 1024) && okPg p

set_option maxHeartbeats 2000000 in
set_option maxRecDepth 100000 in
theorem set_bad (b : Nat) (id : Int) (p : Pg) (w : World) (h : okSet id p = false) :
    Calls Try.prog 59 #[.pointer (some ⟨b, 0, none⟩), .int .i64 id, p.v] w fun e w' => e = .returned (.int .i64 1) ∧ Below w.heap.size w w' := by
  have hc := check_any p
  by_cases h1 : id < 0
  · clear hc h
    go_enter Try.func59, Try.ntmps59
    go_wp2_with fail
    go_ret
    exact ⟨rfl, (Below.refl _ _).alloc (Nat.le_refl _) _⟩
  by_cases h2 : 1024 ≤ id
  · clear hc h
    go_enter Try.func59, Try.ntmps59
    go_wp2_with fail
    go_ret
    exact ⟨rfl, (Below.refl _ _).alloc (Nat.le_refl _) _⟩
  · have h3 : okPg p = false := by
      have p1 : decide (0 ≤ id) = true := by simp; omega
      have p2 : decide (id < 1024) = true := by simp; omega
      simpa only [okSet, p1, p2, Bool.true_and] using h
    rw [h3] at hc
    have e1 : chkE false = 1 := rfl
    rw [e1] at hc
    have HC := Lib.hid hc
    clear hc h h3
    go_enter Try.func59, Try.ntmps59
    go_wp2_with fail
    refine (HC.out _).mono ?_; rintro e w1 ⟨rfl, hb1⟩
    go_wp2_with fail
    go_ret
    exact ⟨rfl, ((Below.refl _ _).alloc (Nat.le_refl _) _).trans (hb1.mono (by go_size))⟩

set_option maxHeartbeats 2000000 in
set_option maxRecDepth 100000 in
theorem set_ok (S : Vol) (b mb hb pb : Nat) (id : Int) (p : Pg) (w : World) (hs : StageAt w b mb hb pb S) (h : okSet id p = true) :
    Calls Try.prog 59 #[.pointer (some ⟨b, 0, none⟩), .int .i64 id, p.v] w fun e w' => e = .returned (.int .i64 0) ∧ w.grownBy w' (some mb) ∧ IntMap w' mb (updI id p.v (S.M.map fun x => (x.1, x.2.v))) := by
  have hc := check_any p
  simp only [okSet, Bool.and_eq_true, decide_eq_true_eq] at h
  obtain ⟨⟨h1, h2⟩, h3⟩ := h
  rw [h3] at hc
  have e1 : chkE true = 0 := rfl
  rw [e1] at hc
  have HC := Lib.hid hc
  have HS := Lib.hid hs
  obtain ⟨l1, l2, l3, l4⟩ := hs.lt
  have c1 := cell_of_block hs.1 1
  simp only [List.getElem?_toArray, List.getElem?_cons_succ, List.getElem?_cons_zero] at c1
  obtain ⟨es, clock, hm, hM, hSt⟩ := hs.2.1
  obtain ⟨o, ho⟩ := run_mapUpdate_int (P := Try.prog) Try.underlying137 Try.underlying3 p.v mb _ id es clock hM hSt
  have HO := Lib.hid ho
  have HM := Lib.hid hm
  clear hc h3 hs ho hm hM hSt
  go_enter Try.func59, Try.ntmps59
  go_wp2_with fail
  refine (HC.out _).mono ?_; rintro e w1 ⟨rfl, hb1⟩
  have hr1 : rowAt w1 w.heap.size = some p.cs := (rowAt_below hb1 (by go_size)).trans (by simp [go_sem])
  have hb2 := ((Below.refl w.heap.size w).alloc (Nat.le_refl _) (.cells p.cs 112)).trans (hb1.mono (by go_size))
  have c2 : w1.cell? ⟨b, 1, none⟩ = some (.map (some mb)) := (hb2.cell (p := ⟨b, 1, none⟩) l1).trans c1
  have m2 : w1.heap[mb]? = some (.map es clock) := (hb2.block mb l2).trans HM.out
  have u1 := (HO.out w1.drew m2).1
  have HB := Lib.hid hb2
  have HM2 := Lib.hid m2
  clear hb1 hb2 m2
  go_wp2_with fail
  go_region
  go_wp2_with fail
  go_ret
  have hk : w.grownBy w1.drew (some mb) := ⟨HB.out.os, HB.out.tape, HB.out.output, HB.out.size, fun i hi _ => HB.out.block i hi⟩
  exact ⟨rfl, grown_setBlock hk o, (HO.out w1.drew HM2.out).2⟩

/-- a page set, on the list -/
def updM (k : Int) (v : Pg) : List (Int × Pg) → List (Int × Pg)
  | [] => [(k, v)]
  | x :: r => if k = x.1 then (k, v) :: r else x :: updM k v r
theorem updM_map (k : Int) (p : Pg) (M : List (Int × Pg)) : (updM k p M).map (fun x => (x.1, x.2.v)) = updI k p.v (M.map fun x => (x.1, x.2.v)) := by
  induction M with
  | nil => rfl
  | cons x r ih =>
    simp only [updM, List.map_cons, updI]
    by_cases h : k = x.1
    · simp [h]
    · simp [h, ih]
def Vol.put (S : Vol) (id : Int) (p : Pg) : Vol := ⟨S.base, updM id p S.M⟩
theorem find_updM (k id : Int) (p : Pg) (M : List (Int × Pg)) : ((updM k p M).find? fun x => x.1 == id).map (·.2) = if id = k then some p else (M.find? fun x => x.1 == id).map (·.2) := by
  induction M with
  | nil =>
    by_cases h : id = k
    · subst h; simp [updM]
    · have h2 : (k == id) = false := by simp; exact fun e => h e.symm
      simp [updM, h, h2]
  | cons x r ih =>
    unfold updM
    by_cases hx : k = x.1
    · rw [if_pos hx]
      by_cases h : id = k
      · subst h; simp
      · have h2 : (k == id) = false := by simp; exact fun e => h e.symm
        have h3 : (x.1 == id) = false := by rw [← hx]; exact h2
        simp [h, h2, h3]
    · rw [if_neg hx]
      simp only [List.find?_cons]
      by_cases h : (x.1 == id) = true
      · have h2 : ¬ id = k := by
          intro e; subst e
          exact hx (eq_of_beq h).symm
        simp [h, h2]
      · simp only [Bool.not_eq_true] at h
        rw [h]
        exact ih
theorem getM_put (S : Vol) (k id : Int) (p : Pg) : getM (S.put k p) id = if id = k then some p else getM S id := find_updM k id p S.M
theorem stPg_put (S : Vol) (k id : Int) (p : Pg) : stPg (S.put k p) id = if id = k then p else stPg S id := by
  unfold stPg
  rw [getM_put]
  by_cases h : id = k <;> simp [h, Vol.put]
theorem stE_put (S : Vol) (k id : Int) (p : Pg) : stE (S.put k p) id = if id = k then 0 else stE S id := by
  unfold stE
  rw [getM_put]
  by_cases h : id = k <;> simp [h, Vol.put]

theorem StageAt.grown {w w' : World} {b mb hb pb : Nat} {S : Vol} (h : StageAt w b mb hb pb S) {M : List (Int × Pg)} (hg : w.grownBy w' (some mb)) (hm : IntMap w' mb (M.map fun x => (x.1, x.2.v))) : StageAt w' b mb hb pb ⟨S.base, M⟩ := by
  obtain ⟨l1, l2, l3, l4⟩ := h.lt
  obtain ⟨h1, -, ⟨h4, h5, h6⟩, h7, h8, h9, h10⟩ := h
  exact ⟨(hg.block b l1 (by simpa using h7)).trans h1, hm, ⟨(hg.block hb l3 (by simpa using Ne.symm h8)).trans h4, (hg.block pb l4 (by simpa using Ne.symm h9)).trans h5, h6⟩, h7, h8, h9, h10⟩
theorem grown_of_below {w w' : World} (h : Below w.heap.size w w') (r : Option Nat) : w.grownBy w' r := ⟨h.os, h.tape, h.output, h.size, fun i hi _ => h.block i hi⟩

/-- a page is set, or the call is refused -/
theorem set_any (S : Vol) (b mb hb pb : Nat) (id : Int) (p : Pg) (w : World) (hs : StageAt w b mb hb pb S) :
    Calls Try.prog 59 #[.pointer (some ⟨b, 0, none⟩), .int .i64 id, p.v] w fun e w' => e = .returned (.int .i64 (chkE (okSet id p))) ∧ w.grownBy w' (some mb) ∧ StageAt w' b mb hb pb (if okSet id p then S.put id p else S) := by
  cases h : okSet id p with
  | true =>
    refine (set_ok S b mb hb pb id p w hs h).mono ?_
    rintro e w' ⟨h1, h2, h3⟩
    rw [← updM_map] at h3
    exact ⟨h1, h2, hs.grown h2 h3⟩
  | false =>
    refine (set_bad b id p w h).mono ?_
    rintro e w' ⟨h1, h2⟩
    have hl := hs.lt
    exact ⟨h1, grown_of_below h2 _, hs.below h2 hl⟩

theorem infoPageAll : (Try.prog.info? 112).map (fun i => (i.zero, i.size, i.bytes)) = some (some Pg.zero.v, 16, 176) := by kernel_rfl
theorem rowsC_size (l : List Pg) : (rowsC l).length = l.length * 16 := by
  induction l with
  | nil => rfl
  | cons p r ih =>
    have e : rowsC (p :: r) = p.cs.toList ++ rowsC r := rfl
    have e16 : p.cs.toList.length = 16 := rfl
    rw [e, List.length_append, ih, e16, List.length_cons]; omega
theorem made_pages (n : Nat) : madeCells Pg.zero.cs (n * 16) = (rowsC (List.replicate n Pg.zero)).toArray := by
  apply Array.ext_getElem?
  intro i
  by_cases hi : i < n * 16
  · have h16 : Pg.zero.cs.size = 16 := rfl
    have e := rowsC_get (List.replicate n Pg.zero) (i / 16) (i % 16) (by simp; omega) (Nat.mod_lt _ (by omega))
    rw [show i / 16 * 16 + i % 16 = i from by omega] at e
    have hm : i % 16 < Pg.zero.cs.size := by rw [h16]; exact Nat.mod_lt _ (by omega)
    simp only [Array.getElem?_toList, List.getElem?_toArray, e]
    simp only [madeCells, h16, Array.getElem?_map, List.getElem_replicate]
    simp [hi, hm]
  · simp only [Array.getElem?_toList, List.getElem?_toArray]
    rw [Array.getElem?_eq_none (by rw [size_madeCells]; omega), List.getElem?_eq_none (by rw [rowsC_size]; simp; omega)]
theorem run_makePages (n : Nat) (hn : n ≤ 1024) (w : World) : (Instr.makeSlice 124 (.int .i64 n) (.int .i64 n)).run Try.prog w = .ok (.slice (some ⟨w.heap.size, 0, none⟩) n n) (w.alloc (.cells (rowsC (List.replicate n Pg.zero)).toArray 112)) := by
  cases hq : Try.prog.info? 112 with
  | none => have := infoPageAll; simp [hq] at this
  | some i =>
    have := infoPageAll
    simp only [hq, Option.map_some, Option.some.injEq, Prod.mk.injEq] at this
    obtain ⟨hz, hs, hb⟩ := this
    rw [Go.run_makeSlice (P := Try.prog) w 124 112 i Pg.zero.v Try.underlying124 hq hz .i64 .i64 n n (by omega) (by omega) (by rw [hs]; omega) (by rw [hb]; omega) (by omega)]
    simp only [hs, Int.toNat_natCast, Pg.cells_v, made_pages]

set_option maxHeartbeats 2000000 in
set_option maxRecDepth 100000 in
theorem memory_ok (n : Nat) (h1 : 1 ≤ n) (h2 : n ≤ 1024) (w : World) :
    Calls Try.prog 35 #[.int .i64 n] w fun e w' => ∃ hb pb, e = .returned (.tuple #[.pointer (some ⟨hb, 0, none⟩), .int .i64 0]) ∧ Below w.heap.size w w' ∧ w.heap.size ≤ hb ∧ w.heap.size ≤ pb ∧ ShelfAt w' hb pb (List.replicate n Pg.zero) := by
  have k1 : (1 : Int) ≤ (n : Int) := by omega
  have k2 : (n : Int) ≤ 1024 := by omega
  have hm := run_makePages n h2 w
  go_enter Try.func35, Try.ntmps35
  go_wp2_with fail
  go_ret2
  refine ⟨w.heap.size + 1, w.heap.size, rfl, ((Below.refl _ _).alloc (Nat.le_refl _) _).alloc (by go_size) _, by omega, by omega, ?_, ?_, by omega, by simp; omega, by simp; omega⟩
  · have e := heap_alloc_new (w.alloc (.cells (rowsC (List.replicate n Pg.zero)).toArray 112)) (.cells #[.slice (some ⟨w.heap.size, 0, none⟩) n n] 126)
    rw [World.size_alloc] at e
    rw [e, List.length_replicate]
  · rw [Below.heap_alloc _ _ _ (by go_size), heap_alloc_new]

theorem run_newMap (w : World) : (Instr.makeMap 137 none).run Try.prog w = .ok (.map (some w.heap.size)) (w.alloc (.map #[] 0)) := by kernel_rfl

set_option maxHeartbeats 2000000 in
set_option maxRecDepth 100000 in
theorem new_any (hb pb : Nat) (l : List Pg) (w : World) (h : ShelfAt w hb pb l) :
    Calls Try.prog 37 #[.iface 69 (.pointer (some ⟨hb, 0, none⟩))] w fun e w' => ∃ b mb, e = .returned (.pointer (some ⟨b, 0, none⟩)) ∧ Below w.heap.size w w' ∧ w.heap.size ≤ b ∧ w.heap.size ≤ mb ∧ StageAt w' b mb hb pb ⟨l, []⟩ := by
  have l1 := (Array.getElem?_eq_some_iff.1 h.1).1
  have l2 := (Array.getElem?_eq_some_iff.1 h.2.1).1
  have H := Lib.hid h
  have hmk := run_newMap w
  clear h
  go_enter Try.func37, Try.ntmps37
  go_wp2_with fail
  go_ret
  have e := heap_alloc_new (w.alloc (.map #[] 0)) (.cells #[.iface 69 (.pointer (some ⟨hb, 0, none⟩)), .map (some w.heap.size)] 139)
  rw [World.size_alloc] at e
  have hb2 := ((Below.refl w.heap.size w).alloc (Nat.le_refl _) (.map #[] 0)).alloc (by go_size) (.cells #[.iface 69 (.pointer (some ⟨hb, 0, none⟩)), .map (some w.heap.size)] 139)
  exact ⟨w.heap.size + 1, w.heap.size, rfl, hb2, by omega, by omega, e, ⟨#[], 0, by rw [Below.heap_alloc _ _ _ (by go_size), heap_alloc_new], rfl, MapKept.stamped_empty 0⟩, H.out.below hb2 l1 l2, by omega, by omega, by omega, by omega, by omega⟩
end Go.Proofs.Ytljommhbhpappaa
