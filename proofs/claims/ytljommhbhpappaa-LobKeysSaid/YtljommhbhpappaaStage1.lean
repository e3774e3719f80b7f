/-
  Layer 13 (stage): a stage over a shelf as the call's memory holds it; the contracts of Stage.Get, Set, Memory and New. Pages are not taken apart.
-/
import Derived.Test.YtljommhbhpappaaPage0
namespace Go.Proofs.Ytljommhbhpappaa
open Go.RowKit Go.Joins
set_option linter.unusedVariables false
set_option linter.unusedSimpArgs false

/-- what a stage holds: the shelf's pages, and those that are set -/
structure Vol where
  base : List Pg
  M : List (Int × Pg)

def rowsC (l : List Pg) : List Value := l.flatMap fun p => p.cs.toList
/-- a shelf: a struct of one slice, at block hb; its pages at block pb -/
def ShelfAt (w : World) (hb pb : Nat) (l : List Pg) : Prop :=
  w.heap[hb]? = some (.cells #[.slice (some ⟨pb, 0, none⟩) l.length l.length] 126) ∧ w.heap[pb]? = some (.cells (rowsC l).toArray 112) ∧ hb ≠ pb ∧ 1 ≤ l.length ∧ l.length ≤ 1024
def StageAt (w : World) (b mb hb pb : Nat) (S : Vol) : Prop :=
  w.heap[b]? = some (.cells #[.iface 69 (.pointer (some ⟨hb, 0, none⟩)), .map (some mb)] 139) ∧ IntMap w mb (S.M.map fun x => (x.1, x.2.v)) ∧ ShelfAt w hb pb S.base ∧ b ≠ mb ∧ mb ≠ hb ∧ mb ≠ pb ∧ b ≠ hb ∧ b ≠ pb

theorem StageAt.below {w w' : World} {b mb hb pb B : Nat} {S : Vol} (h : StageAt w b mb hb pb S) (hbel : Below B w w') (hB : b < B ∧ mb < B ∧ hb < B ∧ pb < B) : StageAt w' b mb hb pb S := by
  obtain ⟨h1, ⟨es, c, h2, h3⟩, ⟨h4, h5, h6⟩, h7⟩ := h
  exact ⟨(hbel.block b hB.1).trans h1, ⟨es, c, (hbel.block mb hB.2.1).trans h2, h3⟩, ⟨(hbel.block hb hB.2.2.1).trans h4, (hbel.block pb hB.2.2.2).trans h5, h6⟩, h7⟩
theorem StageAt.lt {w : World} {b mb hb pb : Nat} {S : Vol} (h : StageAt w b mb hb pb S) : b < w.heap.size ∧ mb < w.heap.size ∧ hb < w.heap.size ∧ pb < w.heap.size := by
  obtain ⟨h1, ⟨es, c, h2, h3⟩, ⟨h4, h5, h6⟩, h7⟩ := h
  exact ⟨(Array.getElem?_eq_some_iff.1 h1).1, (Array.getElem?_eq_some_iff.1 h2).1, (Array.getElem?_eq_some_iff.1 h4).1, (Array.getElem?_eq_some_iff.1 h5).1⟩
theorem IntMap.alloc {w : World} {b : Nat} {M : List (Int × Value)} (h : IntMap w b M) (o : Obj) : IntMap (w.alloc o) b M := by
  obtain ⟨es, c, h1, h2⟩ := h
  exact ⟨es, c, (Below.heap_alloc w o b (Array.getElem?_eq_some_iff.1 h1).1).trans h1, h2⟩

/-- the page that is set at a number -/
def getM (S : Vol) (id : Int) : Option Pg := (S.M.find? fun x => x.1 == id).map (·.2)
theorem findI_M (M : List (Int × Pg)) (id : Int) (i : Nat) : (findI id (M.map fun x => (x.1, x.2.v)) i).map (·.2) = ((M.find? fun x => x.1 == id).map (·.2)).map Pg.v := by
  induction M generalizing i with
  | nil => rfl
  | cons x r ih =>
    simp only [List.map_cons, findI, List.find?_cons]
    by_cases h : id = x.1
    · rw [if_pos h]; simp [h]
    · have h2 : (x.1 == id) = false := by simp; exact fun e => h e.symm
      rw [if_neg h, h2]
      exact ih (i + 1)
theorem zeroPage (w : World) : (zeroValue 112).run Try.prog w = .ok Pg.zero.v w := by kernel_rfl

theorem lookup_some {S : Vol} {b mb hb pb : Nat} {w : World} (h : StageAt w b mb hb pb S) {id : Int} {p : Pg} (hp : getM S id = some p) (o : Obj) :
    (Instr.lookup 137 (.map (some mb)) (.int .i64 id) true).run Try.prog (w.alloc o) = .ok (.tuple #[p.v, .bool true]) (w.alloc o) := by
  rw [run_lookup_int Try.underlying137 Try.underlying3 _ mb _ id _ (zeroPage _) (h.2.1.alloc o)]
  have e := findI_M S.M id 0
  have e2 : (S.M.find? fun x => x.1 == id).map (·.2) = some p := hp
  rw [e2] at e
  cases hf : findI id (S.M.map fun x => (x.1, x.2.v)) 0 with
  | none => rw [hf] at e; cases e
  | some x => rw [hf] at e; simp at e; simp [e]
theorem lookup_none {S : Vol} {b mb hb pb : Nat} {w : World} (h : StageAt w b mb hb pb S) {id : Int} (hp : getM S id = none) (o : Obj) :
    (Instr.lookup 137 (.map (some mb)) (.int .i64 id) true).run Try.prog (w.alloc o) = .ok (.tuple #[Pg.zero.v, .bool false]) (w.alloc o) := by
  rw [run_lookup_int Try.underlying137 Try.underlying3 _ mb _ id _ (zeroPage _) (h.2.1.alloc o)]
  have e := findI_M S.M id 0
  have e2 : (S.M.find? fun x => x.1 == id).map (·.2) = none := hp
  rw [e2] at e
  cases hf : findI id (S.M.map fun x => (x.1, x.2.v)) 0 with
  | none => rfl
  | some x => rw [hf] at e; cases e

set_option maxHeartbeats 2000000 in
set_option maxRecDepth 100000 in
theorem get_set (S : Vol) (b mb hb pb : Nat) (id : Int) (p : Pg) (w : World) (h : StageAt w b mb hb pb S) (hp : getM S id = some p) :
    Calls Try.prog 58 #[.pointer (some ⟨b, 0, none⟩), .int .i64 id] w fun e w' => e = .returned (.tuple #[p.v, .int .i64 0]) ∧ Below w.heap.size w w' := by
  have hl := fun o => lookup_some h hp o
  have hlt := h.lt.1
  obtain ⟨h1, -⟩ := h
  have c1 := cell_of_block h1 1
  simp only [List.getElem?_toArray, List.getElem?_cons_succ, List.getElem?_cons_zero] at c1
  clear h1 hp
  go_enter Try.func58, Try.ntmps58
  go_wp2_with fail
  exact ret_page rfl rfl w.heap.size p rfl (by simp [go_sem]) ⟨rfl, ((Below.refl _ _).alloc (Nat.le_refl _) _).alloc (by simp) _⟩

theorem rowsC_get (l : List Pg) (i j : Nat) (hi : i < l.length) (hj : j < 16) : (rowsC l)[i * 16 + j]? = l[i].cs.toList[j]? := by
  induction l generalizing i with
  | nil => simp at hi
  | cons p r ih =>
    have e : rowsC (p :: r) = p.cs.toList ++ rowsC r := rfl
    have e16 : p.cs.toList.length = 16 := rfl
    cases i with
    | zero =>
      rw [e, List.getElem?_append_left (by rw [e16]; omega)]
      simp
    | succ i =>
      rw [e, List.getElem?_append_right (by rw [e16]; omega), e16, show (i + 1) * 16 + j - 16 = i * 16 + j from by omega]
      exact ih i (by simpa using hi)

theorem load_shelf {w : World} {pb : Nat} {l : List Pg} (h : w.heap[pb]? = some (.cells (rowsC l).toArray 112)) (i : Nat) (hi : i < l.length) (o : Obj) :
    (loadPg (.pointer (some ⟨pb, i * 16, none⟩))).run Try.prog (w.alloc o) = .ok l[i].v (w.alloc o) := by
  have hlt := (Array.getElem?_eq_some_iff.1 h).1
  have hl : (loadCells ⟨pb, i * 16, none⟩ l[i].cs.toList.length).run Try.prog (w.alloc o) = .ok l[i].cs.toList.toArray (w.alloc o) :=
    run_loadCells_list (P := Try.prog) (w.alloc o) ⟨pb, i * 16, none⟩ l[i].cs.toList (fun j v hv => by
      have hj : j < 16 := (List.getElem?_eq_some_iff.1 hv).1
      rw [Addr.add_lit, World.cell?_alloc_past _ _ _ hlt, cell_of_block h (i * 16 + j)]
      rw [← hv, ← rowsC_get l i j hi hj]
      simp)
  have e16 : l[i].cs.toList.length = 16 := rfl
  rw [e16] at hl
  cases hq : Try.prog.info? 112 with
  | none => have := infoPage; simp [hq] at this
  | some f =>
    have hf : f.size = 16 := by have := infoPage; simpa [hq] using this
    have hagg : (isAgg 112).run Try.prog (w.alloc o) = .ok true (w.alloc o) := by
      unfold isAgg
      rw [Sem.run_bind, run_underlying Try.underlying112 (w.alloc o)]
      rfl
    simp only [Array.toArray_toList] at hl
    simp [loadPg, Instr.loadAt, Instr.sureAddr, loadVar, Sem.run_bind, hagg, sizeOf, typeInfo, hq, hf, hl, Pg.v]

set_option maxHeartbeats 2000000 in
theorem shelfGet_in (hb pb : Nat) (l : List Pg) (i : Nat) (w : World) (hs : ShelfAt w hb pb l) (hi : i < l.length) :
    Calls Try.prog 161 #[.pointer (some ⟨hb, 0, none⟩), .int .i64 i] w fun e w' => e = .returned (.tuple #[l[i].v, .int .i64 0]) ∧ Below w.heap.size w w' := by
  obtain ⟨h1, h2, hne, hl1, hl2⟩ := hs
  have hld := fun o => load_shelf h2 i hi o
  have c0 := cell_of_block h1 0
  simp only [List.getElem?_toArray, List.getElem?_cons_zero] at c0
  have lh := (Array.getElem?_eq_some_iff.1 h1).1
  have hk0 : (0 : Int) ≤ (i : Int) := Int.natCast_nonneg _
  have hk1 : (i : Int) < (l.length : Int) := by omega
  generalize l[i] = p at *
  clear h1 h2
  go_enter Try.func161, Try.ntmps161
  go_wp2
  exact ret_page rfl rfl w.heap.size p rfl (by simp [go_sem]) ⟨rfl, (Below.refl _ _).alloc (Nat.le_refl _) _⟩
set_option maxHeartbeats 2000000 in
theorem shelfGet_out (hb pb : Nat) (l : List Pg) (i : Int) (w : World) (hs : ShelfAt w hb pb l) (hi : i < 0 ∨ (l.length : Int) ≤ i) :
    Calls Try.prog 161 #[.pointer (some ⟨hb, 0, none⟩), .int .i64 i] w fun e w' => e = .returned (.tuple #[Pg.zero.v, .int .i64 1]) ∧ Below w.heap.size w w' := by
  obtain ⟨h1, h2, hne, hl1, hl2⟩ := hs
  have c0 := cell_of_block h1 0
  simp only [List.getElem?_toArray, List.getElem?_cons_zero] at c0
  have lh := (Array.getElem?_eq_some_iff.1 h1).1
  clear h1 h2
  by_cases hn : i < 0
  · go_enter Try.func161, Try.ntmps161
    go_wp2
    exact ret_page rfl rfl w.heap.size Pg.zero rfl (by simp [go_sem]) ⟨rfl, (Below.refl _ _).alloc (Nat.le_refl _) _⟩
  · have hi2 : (l.length : Int) ≤ i := by omega
    have hb0 : decide (i < 0) = false := by simp; omega
    have hb1 : decide ((l.length : Int) ≤ i) = true := by simpa using hi2
    clear hi
    go_enter Try.func161, Try.ntmps161
    go_wp2
    exact ret_page rfl rfl w.heap.size Pg.zero rfl (by simp [go_sem]) ⟨rfl, (Below.refl _ _).alloc (Nat.le_refl _) _⟩
end Go.Proofs.Ytljommhbhpappaa
