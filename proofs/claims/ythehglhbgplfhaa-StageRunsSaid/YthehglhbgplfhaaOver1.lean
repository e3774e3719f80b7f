/-
  Layer 13 (stage): a stage over a stage; a local array of pages.
-/
import Derived.Test.YthehglhbgplfhaaLands
namespace Go.Proofs.Ythehglhbgplfhaa
open Go.RowKit Go.Joins
set_option linter.unusedVariables false
set_option linter.unusedSimpArgs false

theorem meth_stage (u : Value) (w : World) : (method 235 28 u "Get").run Try.prog w = .ok (18, u) w := by kernel_rfl

theorem lookup_someI {M : List (Int × Pg)} {mb : Nat} {w : World} (h : IntMap w mb (M.map fun x => (x.1, x.2.v))) {id : Int} {p : Pg} (hp : getM ⟨[], M⟩ id = some p) :
    (Instr.lookup 103 (.map (some mb)) (.int .i64 id) true).run Try.prog w = .ok (.tuple #[p.v, .bool true]) w := by
  rw [run_lookup_int Try.underlying103 Try.underlying3 _ mb _ id _ (zeroPage _) h]
  have e := findI_M M id 0
  have e2 : (M.find? fun x => x.1 == id).map (·.2) = some p := hp
  rw [e2] at e
  cases hf : findI id (M.map fun x => (x.1, x.2.v)) 0 with
  | none => rw [hf] at e; cases e
  | some x => rw [hf] at e; simp at e; simp [e]
theorem lookup_noneI {M : List (Int × Pg)} {mb : Nat} {w : World} (h : IntMap w mb (M.map fun x => (x.1, x.2.v))) {id : Int} (hp : getM ⟨[], M⟩ id = none) :
    (Instr.lookup 103 (.map (some mb)) (.int .i64 id) true).run Try.prog w = .ok (.tuple #[Pg.zero.v, .bool false]) w := by
  rw [run_lookup_int Try.underlying103 Try.underlying3 _ mb _ id _ (zeroPage _) h]
  have e := findI_M M id 0
  have e2 : (M.find? fun x => x.1 == id).map (·.2) = none := hp
  rw [e2] at e
  cases hf : findI id (M.map fun x => (x.1, x.2.v)) 0 with
  | none => rfl
  | some x => rw [hf] at e; cases e

/-- a stage at b2 over the stage at b; its own pages are M -/
structure Over (w : World) (b mb hb pb : Nat) (S : Vol) (b2 mb2 : Nat) (M : List (Int × Pg)) : Prop where
  low : StageAt w b mb hb pb S
  high : w.heap[b2]? = some (.cells #[.iface 28 (.pointer (some ⟨b, 0, none⟩)), .map (some mb2)] 105)
  map : IntMap w mb2 (M.map fun x => (x.1, x.2.v))
  ne : mb2 ≠ b ∧ mb2 ≠ mb ∧ mb2 ≠ hb ∧ mb2 ≠ pb ∧ mb2 ≠ b2
section
variable {w w' : World} {b mb hb pb b2 mb2 : Nat} {S : Vol} {M : List (Int × Pg)}
theorem Over.lt (h : Over w b mb hb pb S b2 mb2 M) : b2 < w.heap.size ∧ mb2 < w.heap.size := by
  obtain ⟨h1, h2, ⟨es, c, h3, h4⟩, h5⟩ := h
  exact ⟨(Array.getElem?_eq_some_iff.1 h2).1, (Array.getElem?_eq_some_iff.1 h3).1⟩
theorem Over.below (h : Over w b mb hb pb S b2 mb2 M) (hbl : Below w.heap.size w w') : Over w' b mb hb pb S b2 mb2 M := by
  have hl := h.lt
  obtain ⟨h1, h2, ⟨es, c, h3, h4⟩, h5⟩ := h
  exact ⟨h1.below hbl h1.lt, (hbl.block b2 hl.1).trans h2, ⟨es, c, (hbl.block mb2 hl.2).trans h3, h4⟩, h5⟩
theorem Over.alloc (h : Over w b mb hb pb S b2 mb2 M) (o : Obj) : Over (w.alloc o) b mb hb pb S b2 mb2 M := h.below ((Below.refl _ _).alloc (Nat.le_refl _) o)
theorem Over.drew (h : Over w b mb hb pb S b2 mb2 M) : Over w.drew b mb hb pb S b2 mb2 M := h.below (Below.refl _ _).drew
theorem Over.grown (h : Over w b mb hb pb S b2 mb2 M) {M' : List (Int × Pg)} (hg : w.grownBy w' (some mb2)) (hm : IntMap w' mb2 (M'.map fun x => (x.1, x.2.v))) : Over w' b mb hb pb S b2 mb2 M' := by
  have hl := h.lt
  obtain ⟨h1, h2, -, h5⟩ := h
  obtain ⟨q1, q2, q3, q4⟩ := h1.lt
  obtain ⟨n1, n2, n3, n4, n5⟩ := h5
  obtain ⟨t1, ⟨es, c, t2, t3⟩, ⟨t4, t5, t6⟩, t7⟩ := h1
  refine ⟨⟨?_, ⟨es, c, ?_, t3⟩, ⟨?_, ?_, t6⟩, t7⟩, ?_, hm, n1, n2, n3, n4, n5⟩
  · exact (hg.block b q1 (by simpa using Ne.symm n1)).trans t1
  · exact (hg.block mb q2 (by simpa using Ne.symm n2)).trans t2
  · exact (hg.block hb q3 (by simpa using Ne.symm n3)).trans t4
  · exact (hg.block pb q4 (by simpa using Ne.symm n4)).trans t5
  · exact (hg.block b2 hl.1 (by simpa using Ne.symm n5)).trans h2

/-- what the upper stage answers -/
def upPg (S : Vol) (M : List (Int × Pg)) (id : Int) : Pg := match getM ⟨[], M⟩ id with | some p => p | none => stPg S id
def upE (S : Vol) (M : List (Int × Pg)) (id : Int) : Int := match getM ⟨[], M⟩ id with | some _ => 0 | none => stE S id

set_option maxHeartbeats 2000000 in
set_option maxRecDepth 100000 in
theorem over_get (id : Int) (h : Over w b mb hb pb S b2 mb2 M) :
    Calls Try.prog 18 #[.pointer (some ⟨b2, 0, none⟩), .int .i64 id] w fun e w' => e = .returned (.tuple #[(upPg S M id).v, .int .i64 (upE S M id)]) ∧ Below w.heap.size w w' := by
  have hlt := h.lt
  have c0 := cell_of_block h.high 0
  have c1 := cell_of_block h.high 1
  simp only [List.getElem?_toArray, List.getElem?_cons_succ, List.getElem?_cons_zero] at c0 c1
  obtain ⟨l1, l2⟩ := hlt
  cases hp : getM ⟨[], M⟩ id with
  | some p =>
    have e1 : upPg S M id = p := by unfold upPg; rw [hp]
    have e2 : upE S M id = 0 := by unfold upE; rw [hp]
    rw [e1, e2]
    have hl := fun o => lookup_someI (h.alloc o).map hp
    clear h hp e1 e2
    go_enter Try.func18, Try.ntmps18
    go_wp2_with fail
    exact ret_page rfl rfl w.heap.size p rfl (by simp [go_sem]) ⟨rfl, ((Below.refl _ _).alloc (Nat.le_refl _) _).alloc (by simp) _⟩
  | none =>
    have e1 : upPg S M id = stPg S id := by unfold upPg; rw [hp]
    have e2 : upE S M id = stE S id := by unfold upE; rw [hp]
    rw [e1, e2]
    have hl := fun o => lookup_noneI (h.alloc o).map hp
    have hc := fun o o' => get_any S b mb hb pb id _ ((h.alloc o).alloc o').low
    generalize stPg S id = p at *
    generalize stE S id = q at *
    have HC := Lib.hid hc
    have m1 := meth_stage
    clear hc h hp e1 e2
    go_enter Try.func18, Try.ntmps18
    go_wp2_with fail
    refine (HC.out _ _).mono ?_; rintro e w1 ⟨rfl, hb1⟩
    have hr1 : rowAt w1 w.heap.size = some Pg.zero.cs := (rowAt_below hb1 (by go_size)).trans (by simp [go_sem])
    have hsz := hb1.size
    have HB := Lib.hid hb1
    simp only [World.size_alloc] at hsz
    clear hb1
    go_wp2
    exact ret_page rfl rfl w.heap.size p rfl (by simp [go_sem, hr1]) ⟨rfl, below_setRow ((((Below.refl _ _).alloc (Nat.le_refl _) _).alloc (by simp) _).trans (HB.out.mono (by go_size))) _ (by simp)⟩

set_option maxHeartbeats 2000000 in
set_option maxRecDepth 100000 in
theorem over_set_ok (id : Int) (p : Pg) (ho : Over w b mb hb pb S b2 mb2 M) (h : okSet id p = true) :
    Calls Try.prog 21 #[.pointer (some ⟨b2, 0, none⟩), .int .i64 id, p.v] w fun e w' => e = .returned (.int .i64 0) ∧ w.grownBy w' (some mb2) ∧ Over w' b mb hb pb S b2 mb2 (updM id p M) := by
  have hc := check_any p
  simp only [okSet, Bool.and_eq_true, decide_eq_true_eq] at h
  obtain ⟨⟨h1, h2⟩, h3⟩ := h
  rw [h3] at hc
  have e1 : chkE true = 0 := rfl
  rw [e1] at hc
  have HC := Lib.hid hc
  have HS := Lib.hid ho
  obtain ⟨l1, l2⟩ := ho.lt
  have c1 := cell_of_block ho.high 1
  simp only [List.getElem?_toArray, List.getElem?_cons_succ, List.getElem?_cons_zero] at c1
  obtain ⟨es, clock, hm, hM, hSt⟩ := ho.map
  obtain ⟨o, ho'⟩ := run_mapUpdate_int (P := Try.prog) Try.underlying103 Try.underlying3 p.v mb2 _ id es clock hM hSt
  have HO := Lib.hid ho'
  have HM := Lib.hid hm
  clear hc h3 ho ho' hm hM hSt
  go_enter Try.func21, Try.ntmps21
  go_wp2_with fail
  refine (HC.out _).mono ?_; rintro e w1 ⟨rfl, hb1⟩
  have hr1 : rowAt w1 w.heap.size = some p.cs := (rowAt_below hb1 (by go_size)).trans (by simp [go_sem])
  have hb2 := ((Below.refl w.heap.size w).alloc (Nat.le_refl _) (.cells p.cs 41)).trans (hb1.mono (by go_size))
  have c2 : w1.cell? ⟨b2, 1, none⟩ = some (.map (some mb2)) := (hb2.cell (p := ⟨b2, 1, none⟩) l1).trans c1
  have m2 : w1.heap[mb2]? = some (.map es clock) := (hb2.block mb2 l2).trans HM.out
  have u1 := (HO.out w1.drew m2).1
  have HB := Lib.hid hb2
  have HM2 := Lib.hid m2
  clear hb1 hb2 m2
  go_wp2_with fail
  go_region
  go_wp2_with fail
  go_ret
  have hk : w.grownBy w1.drew (some mb2) := ⟨HB.out.os, HB.out.tape, HB.out.output, HB.out.size, fun i hi _ => HB.out.block i hi⟩
  have hg := grown_setBlock hk o
  refine ⟨rfl, hg, HS.out.grown hg ?_⟩
  rw [updM_map]
  exact (HO.out w1.drew HM2.out).2
theorem over_set_bad (id : Int) (p : Pg) (ho : Over w b mb hb pb S b2 mb2 M) (h : okSet id p = false) :
    Calls Try.prog 21 #[.pointer (some ⟨b2, 0, none⟩), .int .i64 id, p.v] w fun e w' => e = .returned (.int .i64 1) ∧ w.grownBy w' (some mb2) ∧ Over w' b mb hb pb S b2 mb2 M :=
  (set_bad b2 id p w h).mono fun e w' ⟨h1, h2⟩ => ⟨h1, grown_of_below h2 _, ho.below h2⟩
set_option maxHeartbeats 1000000 in
set_option maxRecDepth 100000 in
theorem over_drop (ho : Over w b mb hb pb S b2 mb2 M) :
    Calls Try.prog 22 #[.pointer (some ⟨b2, 0, none⟩)] w fun e w' => e = .returned (.tuple #[]) ∧ w.grownBy w' (some mb2) ∧ Over w' b mb hb pb S b2 mb2 [] := by
  have c1 := cell_of_block ho.high 1
  simp only [List.getElem?_toArray, List.getElem?_cons_succ, List.getElem?_cons_zero] at c1
  obtain ⟨es, clock, hm, hM, hSt⟩ := ho.map
  have hc := fun ty => run_clearMap ty mb2 es clock w hm
  have HS := Lib.hid ho
  have HM := Lib.hid hm
  clear ho hm hM hSt
  go_enter Try.func22, Try.ntmps22
  go_wp2_with fail
  go_end0
  have hg := grown_setBlock (grown_of_below (Below.refl _ w) (some mb2)) (.map #[] clock)
  exact ⟨rfl, hg, HS.out.grown (M' := []) hg ⟨#[], clock, ChangeMaps.heap_setBlock_same HM.out _, rfl, MapKept.stamped_empty clock⟩⟩
set_option maxHeartbeats 2000000 in
set_option maxRecDepth 100000 in
theorem over_images (ho : Over w b mb hb pb S b2 mb2 []) :
    Calls Try.prog 23 #[.pointer (some ⟨b2, 0, none⟩)] w fun e w' => e = .returned (.tuple #[.slice none 0 0, .int .i64 0]) ∧ Below w.heap.size w w' := by
  obtain ⟨l1, l2⟩ := ho.lt
  have HK := Lib.hid (fun W => keys_plain (some mb2) W)
  have HSo := Lib.hid (fun W Bm (h : Over W b mb hb pb S b2 mb2 []) hB hm => sorted_plain mb2 Bm _ W h.map (by simp) (by simp) hB hm)
  have HS := Lib.hid ho
  have c1 := cell_of_block ho.high 1
  simp only [List.getElem?_toArray, List.getElem?_cons_succ, List.getElem?_cons_zero] at c1
  clear ho
  go_enter Try.func23, Try.ntmps23
  go_wp2_with fail
  refine (HK.out _).mono ?_; rintro e w1 ⟨rfl, rfl⟩
  go_wp2_with fail
  refine (HSo.out _ _ (HS.out.alloc _) (by go_size) (by simp [go_sem])).mono ?_; rintro e w2 ⟨kv, rfl, hkv, hb2⟩
  have hBW : Below w.heap.size w w2 := ((Below.refl w.heap.size w).alloc (Nat.le_refl _) (.cells #[.map (some mb2)] 103)).trans (hb2.mono (by go_size))
  obtain ⟨vp, vc, hv⟩ : ∃ vp vc, kv = .slice vp 0 vc := by
    rcases ownsRow_forms hkv with ⟨h1, h2⟩ | ⟨g, c, h1⟩
    · exact ⟨_, _, h1⟩
    · exact ⟨_, _, h1⟩
  subst hv
  have HB := Lib.hid hBW
  clear hkv hb2 hBW
  go_wp2_with fail
  go_loopw [4, 18] (fun l i wr => l = .slice none 0 0 ∧ i = .int .i64 (0 : Nat) ∧ wr = w2) (fun _ i _ => 0)
  case atStart => exact ⟨rfl, rfl, rfl⟩
  case round =>
    obtain ⟨rfl, rfl, rfl⟩ := hrel
    go_wp2_with fail
    go_ret2
    exact ⟨rfl, HB.out⟩

set_option maxHeartbeats 2000000 in
set_option maxRecDepth 100000 in
theorem over_new (h : StageAt w b mb hb pb S) :
    Calls Try.prog 14 #[.iface 28 (.pointer (some ⟨b, 0, none⟩))] w fun e w' => ∃ b2 mb2, e = .returned (.pointer (some ⟨b2, 0, none⟩)) ∧ Below w.heap.size w w' ∧ w.heap.size ≤ b2 ∧ w.heap.size ≤ mb2 ∧ Over w' b mb hb pb S b2 mb2 [] := by
  obtain ⟨l1, l2, l3, l4⟩ := h.lt
  have H := Lib.hid h
  have hmk := run_newMap w
  clear h
  go_enter Try.func14, Try.ntmps14
  go_wp2_with fail
  go_ret
  have e := heap_alloc_new (w.alloc (.map #[] 0)) (.cells #[.iface 28 (.pointer (some ⟨b, 0, none⟩)), .map (some w.heap.size)] 105)
  rw [World.size_alloc] at e
  have hb2 := ((Below.refl w.heap.size w).alloc (Nat.le_refl _) (.map #[] 0)).alloc (by go_size) (.cells #[.iface 28 (.pointer (some ⟨b, 0, none⟩)), .map (some w.heap.size)] 105)
  exact ⟨w.heap.size + 1, w.heap.size, rfl, hb2, by omega, by omega, H.out.below hb2 ⟨l1, l2, l3, l4⟩, e, ⟨#[], 0, by rw [Below.heap_alloc _ _ _ (by go_size), heap_alloc_new], rfl, MapKept.stamped_empty 0⟩, by omega, by omega, by omega, by omega, by omega⟩
end

/-- a local array of six pages -/
def allocSix : Sem Value := Instr.alloc 50 true (.tuple #[])
@[go_sem ↓] theorem allocSix_eq : Instr.alloc 50 true (.tuple #[]) = allocSix := rfl
def sixCs (l : List Pg) : Array Value := (rowsC l).toArray
@[go_sem] theorem run_allocSix (w : World) : allocSix.run Try.prog w = .ok (.pointer (some ⟨w.heap.size, 0, none⟩)) (w.alloc (.cells (sixCs (List.replicate 6 Pg.zero)) 50)) := by kernel_rfl
def SixAt (w : World) (nb : Nat) (l : List Pg) : Prop := w.heap[nb]? = some (.cells (sixCs l) 50)
theorem load_six {w : World} {nb : Nat} {l : List Pg} (h : SixAt w nb l) (i : Nat) (hi : i < l.length) :
    (loadPg (.pointer (some ⟨nb, i * 16, none⟩))).run Try.prog w = .ok l[i].v w :=
  run_loadAt_mid w nb (i * 16) 41 l[i].cs.toList _ (fun k v hv => by
    have hk : k < 16 := (List.getElem?_eq_some_iff.1 hv).1
    rw [cell_of_block h (i * 16 + k), ← hv, ← rowsC_get l i k hi hk]
    simp [sixCs]) Try.underlying41 rfl infoPage
theorem store_six {w : World} {nb : Nat} {l : List Pg} (h : SixAt w nb l) (i : Nat) (hi : i < l.length) (p : Pg) :
    (storePg (.pointer (some ⟨nb, i * 16, none⟩)) p.v).run Try.prog w = .ok () (w.setRow nb (sixCs (l.set i p))) := by
  have hv : (storeVar 41 ⟨nb, i * 16, none⟩ p.v).run Try.prog w = .ok () (w.setRow nb (sixCs (l.set i p))) := by
    have hst := run_storeCells_at Try.prog nb (i * 16) 50 p.cs.toList 0 (rowsC l).toArray w h (by simp [rowsC_size, Pg.size_cs]; omega) (by intro u hu; simp [Pg.cs] at hu; rcases hu with rfl | rfl | rfl | rfl | rfl | rfl | rfl | rfl | rfl | rfl | rfl | rfl | rfl | rfl | rfl | rfl <;> rfl)
    have e16 : p.cs.toList.length = 16 := rfl
    rw [e16] at hst
    simp only [Nat.add_zero] at hst
    unfold sixCs
    rw [rowsC_set l i hi p]
    cases hq : Try.prog.info? 41 with
    | none => have := infoPage; simp [hq] at this
    | some f =>
      have hf : f.size = 16 := by have := infoPage; simpa [hq] using this
      simp [storeVar, Sem.run_bind, sizeOf, typeInfo, hq, hf, Pg.cells_v, Pg.size_cs, hst]
  simp only [storePg, Instr.storeAt, Instr.sureAddr, Sem.run_bind, Sem.run_pure, Result.andThen_ok, hv]
theorem SixAt.set {w : World} {nb : Nat} {l : List Pg} (h : SixAt w nb l) (i : Nat) (p : Pg) : SixAt (w.setRow nb (sixCs (l.set i p))) nb (l.set i p) :=
  setRow_heap w nb _ _ _ (0, 0) h
theorem SixAt.below {w w' : World} {nb : Nat} {l : List Pg} (h : SixAt w nb l) (hbl : Below w.heap.size w w') : SixAt w' nb l := (hbl.block nb (Array.getElem?_eq_some_iff.1 h).1).trans h
theorem SixAt.grown {w w' : World} {nb mb : Nat} {l : List Pg} (h : SixAt w nb l) (hg : w.grownBy w' (some mb)) (hne : nb ≠ mb) : SixAt w' nb l := (hg.block nb (Array.getElem?_eq_some_iff.1 h).1 (by simpa using hne)).trans h
end Go.Proofs.Ythehglhbgplfhaa
