/-
  Several texts in one: Stage0, Page0, Stage1, Check, Stage2, Stage3.
-/
import Derived.Test.YtljommhbhpappaaChecked
import Derived.WalkKit
import Derived.WalkSpells
import Derived.WalkSmall
import Derived.WalkLawsBesides
import Derived.BigQuiet
import Derived.Deep.QuietTactic
import Derived.Deep.RegionHeld3
import Derived.Lib.Hide
import Derived.Lib.SmallJoins
import Derived.Handy
namespace Go.Proofs.Ytljommhbhpappaa
/-!
  Layer 13 (stage), the ground: a map with integer keys as the call's memory holds it; blocks of sixteen cells (pages). Plain laws on the model's words, over any program.
-/
section
open Go.RowKit Go.Joins
set_option linter.unusedVariables false
set_option linter.unusedSimpArgs false

/-- a map's entries read as this list of integer keys and values -/
def IntMap (w : World) (b : Nat) (M : List (Int × Value)) : Prop :=
  ∃ es clock, w.heap[b]? = some (.map es clock) ∧ es.toList.map (fun e => (e.key, e.val)) = (M.map fun x => (.int .i64 x.1, x.2)) ∧ MapKept.Stamped es clock

def findI (k : Int) : List (Int × Value) → Nat → Option (Nat × Value)
  | [], _ => none
  | x :: r, i => if k = x.1 then some (i, x.2) else findI k r (i + 1)

theorem findNow_int (k : Int) : ∀ (es : List MapEntry) (M : List (Int × Value)) (i : Nat), es.map (fun e => (e.key, e.val)) = M.map (fun x => (Value.int .i64 x.1, x.2)) →
    Instr.findNow (.int .i64) (.int .i64 k) es i = some (findI k M i)
  | [], [], i, _ => rfl
  | e :: es, x :: M, i, h => by
    simp only [List.map_cons, List.cons.injEq, Prod.mk.injEq] at h
    obtain ⟨⟨h1, h2⟩, h3⟩ := h
    simp only [Instr.findNow, h1, Instr.sameNow, findI, if_true]
    by_cases hk : k = x.1
    · simp [hk, h2]
    · have : (k == x.1) = false := by simp [hk]
      simp only [this, hk, if_false]
      exact findNow_int k es M (i + 1) h3
  | [], _ :: _, _, h => by simp at h
  | _ :: _, [], _, h => by simp at h

section
variable {P : Program}
theorem run_findKey_int {kt : TypeId} (hk : P.underlying kt = some (.int .i64)) (k : Int) (es : List MapEntry) (M : List (Int × Value)) (w : World) (h : es.map (fun e => (e.key, e.val)) = M.map (fun x => (Value.int .i64 x.1, x.2))) :
    (Instr.findKey kt (.int .i64 k) es).run P w = .ok (findI k M 0) w := by
  unfold Instr.findKey
  simp [run_underlying hk, findNow_int k es M 0 h]

theorem run_checkKey_int {kt : TypeId} (hk : P.underlying kt = some (.int .i64)) (b : Bool) (k : Int) (w : World) : (Instr.checkKey b 10000 kt (.int .i64 k)).run P w = .ok () w := by
  unfold Instr.checkKey
  simp [run_underlying hk]

/-- v, ok := m[k] -/
theorem run_lookup_int {t kt et : TypeId} (ht : P.underlying t = some (.map kt et)) (hk : P.underlying kt = some (.int .i64)) (z : Value) (b : Nat) (M : List (Int × Value)) (k : Int) (w : World) (hz : (zeroValue et).run P w = .ok z w) (h : IntMap w b M) :
    (Instr.lookup t (.map (some b)) (.int .i64 k) true).run P w = .ok (match findI k M 0 with | some x => .tuple #[x.2, .bool true] | none => .tuple #[z, .bool false]) w := by
  obtain ⟨es, clock, hb, hM, -⟩ := h
  unfold Instr.lookup
  have hg : (getObj b).run P w = .ok (.map es clock) w := MapKept.run_getObj_map hb
  simp [run_underlying ht, hg, run_checkKey_int hk, run_findKey_int hk k es.toList M w hM]
  cases findI k M 0 with
  | none => simp [hz]
  | some x => simp

/-- m[k] -/
theorem run_lookup1_int {t kt et : TypeId} (ht : P.underlying t = some (.map kt et)) (hk : P.underlying kt = some (.int .i64)) (z : Value) (b : Nat) (M : List (Int × Value)) (k : Int) (w : World) (hz : (zeroValue et).run P w = .ok z w) (h : IntMap w b M) :
    (Instr.lookup t (.map (some b)) (.int .i64 k) false).run P w = .ok (match findI k M 0 with | some x => x.2 | none => z) w := by
  obtain ⟨es, clock, hb, hM, -⟩ := h
  unfold Instr.lookup
  have hg : (getObj b).run P w = .ok (.map es clock) w := MapKept.run_getObj_map hb
  simp [run_underlying ht, hg, run_checkKey_int hk, run_findKey_int hk k es.toList M w hM]
  cases findI k M 0 with
  | none => simp [hz]
  | some x => simp

/-- m[k] = v, on the list -/
def updI (k : Int) (v : Value) : List (Int × Value) → List (Int × Value)
  | [] => [(k, v)]
  | x :: r => if k = x.1 then (k, v) :: r else x :: updI k v r

theorem findI_lt {k : Int} {M : List (Int × Value)} {i : Nat} {x : Nat × Value} (h : findI k M i = some x) : i ≤ x.1 ∧ x.1 < i + M.length ∧ M[x.1 - i]? = some (k, x.2) ∧ (∀ j, i ≤ j → j < x.1 → ∀ y, M[j - i]? = some y → ¬ k = y.1) := by
  induction M generalizing i with
  | nil => cases h
  | cons y r ih =>
    unfold findI at h
    by_cases hk : k = y.1
    · rw [if_pos hk] at h
      cases h
      refine ⟨Nat.le_refl _, by simp, by simp [hk], fun j h1 h2 => by omega⟩
    · rw [if_neg hk] at h
      obtain ⟨h1, h2, h3, h4⟩ := ih h
      refine ⟨by omega, by simp; omega, ?_, fun j hj1 hj2 z hz => ?_⟩
      · rw [show x.1 - i = (x.1 - (i + 1)) + 1 from by omega, List.getElem?_cons_succ]; exact h3
      · by_cases hj : j = i
        · subst hj; simp at hz; rw [← hz]; exact hk
        · rw [show j - i = (j - (i + 1)) + 1 from by omega, List.getElem?_cons_succ] at hz
          exact h4 j (by omega) hj2 z hz

theorem findI_none {k : Int} {M : List (Int × Value)} {i : Nat} (h : findI k M i = none) : ∀ x ∈ M, ¬ k = x.1 := by
  induction M generalizing i with
  | nil => intro x hx; cases hx
  | cons y r ih =>
    unfold findI at h
    by_cases hk : k = y.1
    · rw [if_pos hk] at h; cases h
    · rw [if_neg hk] at h
      intro x hx
      cases List.mem_cons.1 hx with
      | inl e => subst e; exact hk
      | inr e => exact ih h x e
theorem updI_none {k : Int} {v : Value} {M : List (Int × Value)} {i : Nat} (h : findI k M i = none) : updI k v M = M ++ [(k, v)] := by
  induction M generalizing i with
  | nil => rfl
  | cons y r ih =>
    unfold findI at h
    by_cases hk : k = y.1
    · rw [if_pos hk] at h; cases h
    · rw [if_neg hk] at h
      simp [updI, hk, ih h]
theorem updI_some {k : Int} {v : Value} {M : List (Int × Value)} {i : Nat} {x : Nat × Value} (h : findI k M i = some x) : updI k v M = M.set (x.1 - i) (k, v) := by
  induction M generalizing i with
  | nil => cases h
  | cons y r ih =>
    have hl := (findI_lt h).1
    unfold findI at h
    by_cases hk : k = y.1
    · rw [if_pos hk] at h
      cases h
      simp [updI, hk]
    · rw [if_neg hk] at h
      have hl2 := (findI_lt h).1
      rw [show x.1 - i = (x.1 - (i + 1)) + 1 from by omega]
      simp [updI, hk, ih h]

/-- a map block is written; what is written hangs on the block alone -/
theorem run_mapUpdate_int {t kt et : TypeId} (ht : P.underlying t = some (.map kt et)) (hk : P.underlying kt = some (.int .i64)) (v : Value) (b : Nat) (M : List (Int × Value)) (k : Int) (es : Array MapEntry) (clock : Nat) (hM : es.toList.map (fun e => (e.key, e.val)) = M.map fun x => (.int .i64 x.1, x.2)) (hst : MapKept.Stamped es clock) :
    ∃ o, ∀ w : World, w.heap[b]? = some (.map es clock) → (Instr.mapUpdate t (.map (some b)) (.int .i64 k) v).run P w = .ok () (ChangeMaps.setBlock w b o) ∧ IntMap (ChangeMaps.setBlock w b o) b (updI k v M) := by
  have hf := fun w => run_findKey_int (P := P) hk k es.toList M w hM
  have hset : ∀ (w : World) (o : Obj), w.heap[b]? = some (.map es clock) → (setObj b o).run P w = .ok () (ChangeMaps.setBlock w b o) := fun w o hb => by
    simp only [setObj, Sem.run, hb]; rfl
  cases hfi : findI k M 0 with
  | none =>
    rw [hfi] at hf
    refine ⟨.map (es.push { key := .int .i64 k, val := v, born := clock }) (clock + 1), fun w hb => ⟨?_, _, _, ChangeMaps.heap_setBlock_same hb _, ?_, ?_⟩⟩
    · have hg : (getObj b).run P w = .ok (.map es clock) w := MapKept.run_getObj_map hb
      unfold Instr.mapUpdate
      simp [run_underlying ht, hg, run_checkKey_int hk, hf, hset w _ hb]
    · rw [updI_none hfi]
      simp [hM]
    · refine MapKept.stamped_push hst fun x hx e => ?_
      have hmem : (x.key, x.val) ∈ es.toList.map (fun e => (e.key, e.val)) := List.mem_map.2 ⟨x, hx, rfl⟩
      rw [hM] at hmem
      obtain ⟨y, hy, he⟩ := List.mem_map.1 hmem
      have h1 := findI_none hfi y hy
      have h2 := congrArg (·.1) he
      simp only [e, Value.int.injEq, true_and] at h2
      exact h1 h2.symm
  | some x =>
    rw [hfi] at hf
    obtain ⟨h1, h2, h3, h4⟩ := findI_lt hfi
    have hes : x.1 < es.size := by
      have := congrArg List.length hM
      simp at this; omega
    have hkey : es[x.1].key = .int .i64 k := by
      have h5 := congrArg (fun l => l[x.1]?) hM
      simp only [List.getElem?_map] at h5
      rw [show x.1 - 0 = x.1 from by omega] at h3
      rw [h3] at h5
      simp [hes] at h5
      exact h5.1
    refine ⟨.map (es.modify x.1 fun e => { e with key := .int .i64 k, val := v }) clock, fun w hb => ⟨?_, _, _, ChangeMaps.heap_setBlock_same hb _, ?_, ?_⟩⟩
    · have hg : (getObj b).run P w = .ok (.map es clock) w := MapKept.run_getObj_map hb
      unfold Instr.mapUpdate
      simp [run_underlying ht, hg, run_checkKey_int hk, hf, hset w _ hb, hes, hkey, Instr.keyThatStays, Instr.sameBits]
    · rw [updI_some hfi]
      apply List.ext_getElem?
      intro j
      have h5 := congrArg (fun l => l[j]?) hM
      simp only [List.getElem?_map] at h5
      simp only [List.getElem?_map, Array.getElem?_toList, Array.getElem?_modify, Nat.sub_zero, List.getElem?_set] at h5 ⊢
      by_cases hj : x.1 = j
      · subst hj
        simp [hes]
        have : x.1 < M.length := by omega
        simp [this]
      · simp [hj, h5]
    · refine MapKept.stamped_modify hst _ _ (fun e he => rfl) fun e he hi => ?_
      have h6 : es[x.1]? = some es[x.1] := Array.getElem?_eq_getElem hes
      rw [h6] at hi
      cases hi
      exact hkey.symm
end
end

/-!
  Pages as values that the walk does not take apart: loads, stores and boxes of sixteen cells in one step.
-/
section
open Go.RowKit Go.Joins
set_option linter.unusedVariables false
set_option linter.unusedSimpArgs false

/-- a page: kind, level, store, next, six cells -/
structure Pg where
  k : Int := 0
  l : Int := 0
  s : Int := 0
  n : Int := 0
  a0 : Int := 0
  d0 : ByteArray := ByteArray.empty
  a1 : Int := 0
  d1 : ByteArray := ByteArray.empty
  a2 : Int := 0
  d2 : ByteArray := ByteArray.empty
  a3 : Int := 0
  d3 : ByteArray := ByteArray.empty
  a4 : Int := 0
  d4 : ByteArray := ByteArray.empty
  a5 : Int := 0
  d5 : ByteArray := ByteArray.empty

/-- its cells in memory -/
def Pg.cs (p : Pg) : Array Value := #[.int .i64 p.k, .int .i64 p.l, .int .i64 p.s, .int .i64 p.n, .int .i64 p.a0, .string p.d0, .int .i64 p.a1, .string p.d1, .int .i64 p.a2, .string p.d2, .int .i64 p.a3, .string p.d3, .int .i64 p.a4, .string p.d4, .int .i64 p.a5, .string p.d5]
def Pg.v (p : Pg) : Value := .agg p.cs
@[go_sem] theorem Pg.size_cs (p : Pg) : p.cs.size = 16 := rfl
@[go_sem] theorem Pg.cells_v (p : Pg) : p.v.cells = p.cs := rfl
@[go_sem] theorem Pg.fold_v (p : Pg) : Value.agg p.cs = p.v := rfl
@[go_sem] theorem Pg.cs_0 (p : Pg) : p.cs[0]? = some (.int .i64 p.k) := rfl
@[go_sem] theorem Pg.cs_1 (p : Pg) : p.cs[1]? = some (.int .i64 p.l) := rfl
@[go_sem] theorem Pg.cs_2 (p : Pg) : p.cs[2]? = some (.int .i64 p.s) := rfl
@[go_sem] theorem Pg.cs_3 (p : Pg) : p.cs[3]? = some (.int .i64 p.n) := rfl
@[go_sem] theorem Pg.cs_4 (p : Pg) : p.cs[4]? = some (.int .i64 p.a0) := rfl
@[go_sem] theorem Pg.cs_5 (p : Pg) : p.cs[5]? = some (.string p.d0) := rfl
@[go_sem] theorem Pg.cs_6 (p : Pg) : p.cs[6]? = some (.int .i64 p.a1) := rfl
@[go_sem] theorem Pg.cs_7 (p : Pg) : p.cs[7]? = some (.string p.d1) := rfl
@[go_sem] theorem Pg.cs_8 (p : Pg) : p.cs[8]? = some (.int .i64 p.a2) := rfl
@[go_sem] theorem Pg.cs_9 (p : Pg) : p.cs[9]? = some (.string p.d2) := rfl
@[go_sem] theorem Pg.cs_10 (p : Pg) : p.cs[10]? = some (.int .i64 p.a3) := rfl
@[go_sem] theorem Pg.cs_11 (p : Pg) : p.cs[11]? = some (.string p.d3) := rfl
@[go_sem] theorem Pg.cs_12 (p : Pg) : p.cs[12]? = some (.int .i64 p.a4) := rfl
@[go_sem] theorem Pg.cs_13 (p : Pg) : p.cs[13]? = some (.string p.d4) := rfl
@[go_sem] theorem Pg.cs_14 (p : Pg) : p.cs[14]? = some (.int .i64 p.a5) := rfl
@[go_sem] theorem Pg.cs_15 (p : Pg) : p.cs[15]? = some (.string p.d5) := rfl

/-- the state and the bytes of a cell -/
def Pg.a (p : Pg) : Nat → Int
  | 0 => p.a0
  | 1 => p.a1
  | 2 => p.a2
  | 3 => p.a3
  | 4 => p.a4
  | _ => p.a5
def Pg.d (p : Pg) : Nat → ByteArray
  | 0 => p.d0
  | 1 => p.d1
  | 2 => p.d2
  | 3 => p.d3
  | 4 => p.d4
  | _ => p.d5

/-- the row of a block, if it is a row that is not frozen -/
def rowAt (w : World) (n : Nat) : Option (Array Value) :=
  match w.heap[n]? with
  | some (.cells c _ (0, 0)) => some c
  | _ => none
@[go_sem] theorem rowAt_at (w : World) (c : Array Value) (t : TypeId) (n : Nat) (hn : n = w.heap.size) : rowAt (w.alloc (.cells c t)) n = some c := by
  subst hn; unfold rowAt; rw [heap_alloc_new]; rfl
@[go_sem] theorem rowAt_past (w : World) (o : Obj) (n : Nat) (hn : n < w.heap.size) : rowAt (w.alloc o) n = rowAt w n := by
  unfold rowAt; rw [Below.heap_alloc w o n hn]
@[go_sem] theorem rowAt_drew (w : World) (n : Nat) : rowAt w.drew n = rowAt w n := rfl
theorem rowAt_heap {w : World} {n : Nat} {c : Array Value} (h : rowAt w n = some c) : ∃ t, w.heap[n]? = some (.cells c t (0, 0)) := by
  unfold rowAt at h
  split at h
  · rename_i c' t' h'; cases h; exact ⟨_, h'⟩
  · cases h
theorem rowAt_of {w : World} {n : Nat} {c : Array Value} {t : TypeId} (h : w.heap[n]? = some (.cells c t (0, 0))) : rowAt w n = some c := by
  unfold rowAt; rw [h]; rfl

/-- is it a row of sixteen? -/
def row16 (o : Option (Array Value)) : Bool := match o with | some c => c.size == 16 | none => false
@[go_sem] theorem row16_pg (p : Pg) : row16 (some p.cs) = true := rfl
@[go_sem] theorem row16_lit (c0 c1 c2 c3 c4 c5 c6 c7 c8 c9 c10 c11 c12 c13 c14 c15 : Value) : row16 (some #[c0, c1, c2, c3, c4, c5, c6, c7, c8, c9, c10, c11, c12, c13, c14, c15]) = true := rfl
@[go_sem] theorem getD_some_row (c : Array Value) : (some c).getD #[] = c := rfl

theorem infoPage : (Try.prog.info? 112).map (·.size) = some 16 := by kernel_rfl

theorem run_loadPage (w : World) (n : Nat) (h : row16 (rowAt w n) = true) : (loadVar 112 ⟨n, 0, none⟩).run Try.prog w = .ok (.agg ((rowAt w n).getD #[])) w := by
  cases hr : rowAt w n with
  | none => rw [hr] at h; cases h
  | some c =>
    rw [hr] at h
    obtain ⟨t, ht⟩ := rowAt_heap hr
    have hs : c.size = 16 := by simpa [row16] using h
    exact run_loadVar_row w n t 112 c (0, 0) _ ht Try.underlying112 rfl (by rw [infoPage, hs])

theorem run_storePage (w : World) (n : Nat) (p : Pg) (h : row16 (rowAt w n) = true) : (storeVar 112 ⟨n, 0, none⟩ p.v).run Try.prog w = .ok () (w.setRow n p.cs) := by
  cases hr : rowAt w n with
  | none => rw [hr] at h; cases h
  | some c =>
    rw [hr] at h
    obtain ⟨t, ht⟩ := rowAt_heap hr
    have hs : c.size = 16 := by simpa [row16] using h
    have hst := run_storeCells_at Try.prog n 0 t p.cs.toList 0 c w ht (by simp [hs, Pg.size_cs]) (by intro u hu; simp [Pg.cs] at hu; rcases hu with rfl | rfl | rfl | rfl | rfl | rfl | rfl | rfl | rfl | rfl | rfl | rfl | rfl | rfl | rfl | rfl <;> rfl)
    have e : c.toList.drop (0 + 0 + p.cs.toList.length) = [] := by simp [hs, Pg.size_cs]
    rw [e] at hst
    cases hq : Try.prog.info? 112 with
    | none => have := infoPage; simp [hq] at this
    | some i =>
      have hi : i.size = 16 := by have := infoPage; simpa [hq] using this
      simp only [List.take_zero, List.nil_append, List.append_nil, Nat.add_zero, Array.toArray_toList] at hst
      simp [storeVar, Sem.run_bind, sizeOf, typeInfo, hq, hi, Pg.cells_v, Pg.size_cs, hst]

theorem modify_push_last {α : Type} (a : Array α) (x : α) (f : α → α) : (a.push x).modify a.size f = a.push (f x) := by
  apply Array.ext_getElem?
  intro i
  rw [Array.getElem?_modify, Array.getElem?_push, Array.getElem?_push]
  by_cases h : a.size = i
  · subst h; simp
  · have h2 : ¬ i = a.size := fun e => h e.symm
    simp [h, h2]
theorem modify_push_old {α : Type} (a : Array α) (x : α) (f : α → α) (n : Nat) (hn : n < a.size) : (a.push x).modify n f = (a.modify n f).push x := by
  apply Array.ext_getElem?
  intro i
  rw [Array.getElem?_modify, Array.getElem?_push, Array.getElem?_push, Array.getElem?_modify, Array.size_modify]
  by_cases h : i = a.size
  · subst h
    have h2 : ¬ n = a.size := by omega
    simp [h2]
  · simp [h]
@[go_sem] theorem setRow_at (w : World) (c d : Array Value) (t : TypeId) (n : Nat) (hn : n = w.heap.size) : (w.alloc (.cells c t)).setRow n d = w.alloc (.cells d t) := by
  subst hn
  unfold World.setRow
  exact congrArg (fun h => ({ w with heap := h } : World)) (modify_push_last w.heap _ _)
@[go_sem] theorem setRow_past (w : World) (o : Obj) (d : Array Value) (n : Nat) (hn : n < w.heap.size) : (w.alloc o).setRow n d = (w.setRow n d).alloc o := by
  unfold World.setRow
  exact congrArg (fun h => ({ w with heap := h } : World)) (modify_push_old w.heap o _ n hn)
@[go_sem] theorem rowAt_setRow (w : World) (n : Nat) (c d : Array Value) (h : rowAt w n = some c) : rowAt (w.setRow n d) n = some d := by
  obtain ⟨t, ht⟩ := rowAt_heap h
  exact rowAt_of (setRow_heap w n c d t (0, 0) ht)

/-- the blank page -/
def Pg.zero : Pg := {}

/-- the loads, stores and new variables of a page's type, under names that the walk does not open -/
def loadPg (a : Value) : Sem Value := Instr.loadAt 112 a
def storePg (a v : Value) : Sem Unit := Instr.storeAt 112 a v
def allocPg : Sem Value := Instr.alloc 112 true (.tuple #[])
def boxPg (v : Value) : Sem Value := Instr.box 112 v
@[go_sem ↓] theorem loadPg_eq (a : Value) : Instr.loadAt 112 a = loadPg a := rfl
@[go_sem ↓] theorem storePg_eq (a v : Value) : Instr.storeAt 112 a v = storePg a v := rfl
@[go_sem ↓] theorem allocPg_eq : Instr.alloc 112 true (.tuple #[]) = allocPg := rfl
@[go_sem ↓] theorem boxPg_eq (v : Value) : Instr.box 112 v = boxPg v := rfl

@[go_sem] theorem run_loadPg (w : World) (n : Nat) (h : row16 (rowAt w n) = true) : (loadPg (.pointer (some ⟨n, 0, none⟩))).run Try.prog w = .ok (.agg ((rowAt w n).getD #[])) w := by
  simp only [loadPg, Instr.loadAt, Instr.sureAddr, Sem.run_bind, Sem.run_pure, Result.andThen_ok, run_loadPage w n h]
@[go_sem] theorem run_storePg (w : World) (n : Nat) (p : Pg) (h : row16 (rowAt w n) = true) : (storePg (.pointer (some ⟨n, 0, none⟩)) p.v).run Try.prog w = .ok () (w.setRow n p.cs) := by
  simp only [storePg, Instr.storeAt, Instr.sureAddr, Sem.run_bind, Sem.run_pure, Result.andThen_ok, run_storePage w n p h]
@[go_sem] theorem run_allocPg (w : World) : allocPg.run Try.prog w = .ok (.pointer (some ⟨w.heap.size, 0, none⟩)) (w.alloc (.cells Pg.zero.cs 112)) := by kernel_rfl
@[go_sem] theorem run_boxPg (w : World) (p : Pg) : (boxPg p.v).run Try.prog w = .ok (.pointer (some ⟨w.heap.size, 0, none⟩)) (w.alloc (.cells p.cs 112)) := by kernel_rfl

def buildPg (parts : Array (Nat × Value)) : Sem Value := Instr.build 112 parts
@[go_sem ↓] theorem buildPg_eq (parts : Array (Nat × Value)) : Instr.build 112 parts = buildPg parts := rfl
@[go_sem] theorem run_build0 (w : World) : (buildPg #[]).run Try.prog w = .ok Pg.zero.v w := by kernel_rfl
@[go_sem] theorem run_build_k (w : World) (k : Int) : (buildPg #[(0, .int .i64 k)]).run Try.prog w = .ok (Pg.v { k := k }) w := by kernel_rfl
@[go_sem] theorem run_build_kn (w : World) (k n : Int) : (buildPg #[(0, .int .i64 k), (3, .int .i64 n)]).run Try.prog w = .ok (Pg.v { k := k, n := n }) w := by kernel_rfl
@[go_sem] theorem run_build_ks (w : World) (k s : Int) : (buildPg #[(0, .int .i64 k), (2, .int .i64 s)]).run Try.prog w = .ok (Pg.v { k := k, s := s }) w := by kernel_rfl

/-- the end of a function that hands back a page and a number -/
theorem ret_page {fn : Func} {R : Ending → World → Prop} {a : Act} {w : World} {pt u : Tmp} (h : fn.results = #[.cell pt 112, .tmp u]) (hd : a.defers = []) (n : Nat) (p : Pg) (hp : a.tmps.getD pt undef = .pointer (some ⟨n, 0, none⟩)) (hr : rowAt w n = some p.cs)
    (hR : R (.returned (.tuple #[p.v, a.tmps.getD u undef])) w) : bodyPost Try.prog fn R .ret a w := by
  refine bodyPost_ret ?_ hd hR
  rw [results_cell_tmp h, hp]
  have hl := run_loadPage w n (by rw [hr]; rfl)
  rw [hr] at hl
  simp only [asAddr, Sem.run_pure, Result.andThen_ok, hl]
  rfl
theorem ret_page1 {fn : Func} {R : Ending → World → Prop} {a : Act} {w : World} {pt : Tmp} (h : fn.results = #[.cell pt 112]) (hd : a.defers = []) (n : Nat) (p : Pg) (hp : a.tmps.getD pt undef = .pointer (some ⟨n, 0, none⟩)) (hr : rowAt w n = some p.cs)
    (hR : R (.returned p.v) w) : bodyPost Try.prog fn R .ret a w := by
  obtain ⟨t, ht⟩ := rowAt_heap hr
  exact bodyPost_ret (results_cell_row h a.tmps w n t p.cs (0, 0) _ hp ht Try.underlying112 rfl infoPage) hd hR
end

/-!
  Layer 13 (stage): a stage over a shelf as the call's memory holds it; the contracts of Stage.Get, Set, Memory and New. Pages are not taken apart.
-/
section
open Go.RowKit Go.Joins
set_option linter.unusedVariables false
set_option linter.unusedSimpArgs false

/-- what a stage holds: the shelf's pages, and those that are set -/
structure Vol where
  base : List Pg
  M : List (Int × Pg)

def rowsC (l : List Pg) : List Value := l.flatMap fun p => p.cs.toList
/-- a shelf: a struct of one slice, at block hb; its pages at block pb -/
def ShelfAt (w : World) (hb pb : Nat) (l : List Pg) : Prop :=
  w.heap[hb]? = some (.cells #[.slice (some ⟨pb, 0, none⟩) l.length l.length] 126) ∧ w.heap[pb]? = some (.cells (rowsC l).toArray 112) ∧ hb ≠ pb ∧ 1 ≤ l.length ∧ l.length ≤ 1024
def StageAt (w : World) (b mb hb pb : Nat) (S : Vol) : Prop :=
  w.heap[b]? = some (.cells #[.iface 69 (.pointer (some ⟨hb, 0, none⟩)), .map (some mb)] 139) ∧ IntMap w mb (S.M.map fun x => (x.1, x.2.v)) ∧ ShelfAt w hb pb S.base ∧ b ≠ mb ∧ mb ≠ hb ∧ mb ≠ pb ∧ b ≠ hb ∧ b ≠ pb

theorem StageAt.below {w w' : World} {b mb hb pb B : Nat} {S : Vol} (h : StageAt w b mb hb pb S) (hbel : Below B w w') (hB : b < B ∧ mb < B ∧ hb < B ∧ pb < B) : StageAt w' b mb hb pb S := by
  obtain ⟨h1, ⟨es, c, h2, h3⟩, ⟨h4, h5, h6⟩, h7⟩ := h
  exact ⟨(hbel.block b hB.1).trans h1, ⟨es, c, (hbel.block mb hB.2.1).trans h2, h3⟩, ⟨(hbel.block hb hB.2.2.1).trans h4, (hbel.block pb hB.2.2.2).trans h5, h6⟩, h7⟩
theorem StageAt.lt {w : World} {b mb hb pb : Nat} {S : Vol} (h : StageAt w b mb hb pb S) : b < w.heap.size ∧ mb < w.heap.size ∧ hb < w.heap.size ∧ pb < w.heap.size := by
  obtain ⟨h1, ⟨es, c, h2, h3⟩, ⟨h4, h5, h6⟩, h7⟩ := h
  exact ⟨(Array.getElem?_eq_some_iff.1 h1).1, (Array.getElem?_eq_some_iff.1 h2).1, (Array.getElem?_eq_some_iff.1 h4).1, (Array.getElem?_eq_some_iff.1 h5).1⟩
theorem IntMap.alloc {w : World} {b : Nat} {M : List (Int × Value)} (h : IntMap w b M) (o : Obj) : IntMap (w.alloc o) b M := by
  obtain ⟨es, c, h1, h2⟩ := h
  exact ⟨es, c, (Below.heap_alloc w o b (Array.getElem?_eq_some_iff.1 h1).1).trans h1, h2⟩

/-- the page that is set at a number -/
def getM (S : Vol) (id : Int) : Option Pg := (S.M.find? fun x => x.1 == id).map (·.2)
theorem findI_M (M : List (Int × Pg)) (id : Int) (i : Nat) : (findI id (M.map fun x => (x.1, x.2.v)) i).map (·.2) = ((M.find? fun x => x.1 == id).map (·.2)).map Pg.v := by
  induction M generalizing i with
  | nil => rfl
  | cons x r ih =>
    simp only [List.map_cons, findI, List.find?_cons]
    by_cases h : id = x.1
    · rw [if_pos h]; simp [h]
    · have h2 : (x.1 == id) = false := by simp; exact fun e => h e.symm
      rw [if_neg h, h2]
      exact ih (i + 1)
theorem zeroPage (w : World) : (zeroValue 112).run Try.prog w = .ok Pg.zero.v w := by kernel_rfl

theorem lookup_some {S : Vol} {b mb hb pb : Nat} {w : World} (h : StageAt w b mb hb pb S) {id : Int} {p : Pg} (hp : getM S id = some p) (o : Obj) :
    (Instr.lookup 137 (.map (some mb)) (.int .i64 id) true).run Try.prog (w.alloc o) = .ok (.tuple #[p.v, .bool true]) (w.alloc o) := by
  rw [run_lookup_int Try.underlying137 Try.underlying3 _ mb _ id _ (zeroPage _) (h.2.1.alloc o)]
  have e := findI_M S.M id 0
  have e2 : (S.M.find? fun x => x.1 == id).map (·.2) = some p := hp
  rw [e2] at e
  cases hf : findI id (S.M.map fun x => (x.1, x.2.v)) 0 with
  | none => rw [hf] at e; cases e
  | some x => rw [hf] at e; simp at e; simp [e]
theorem lookup_none {S : Vol} {b mb hb pb : Nat} {w : World} (h : StageAt w b mb hb pb S) {id : Int} (hp : getM S id = none) (o : Obj) :
    (Instr.lookup 137 (.map (some mb)) (.int .i64 id) true).run Try.prog (w.alloc o) = .ok (.tuple #[Pg.zero.v, .bool false]) (w.alloc o) := by
  rw [run_lookup_int Try.underlying137 Try.underlying3 _ mb _ id _ (zeroPage _) (h.2.1.alloc o)]
  have e := findI_M S.M id 0
  have e2 : (S.M.find? fun x => x.1 == id).map (·.2) = none := hp
  rw [e2] at e
  cases hf : findI id (S.M.map fun x => (x.1, x.2.v)) 0 with
  | none => rfl
  | some x => rw [hf] at e; cases e

set_option maxHeartbeats 2000000 in
set_option maxRecDepth 100000 in
theorem get_set (S : Vol) (b mb hb pb : Nat) (id : Int) (p : Pg) (w : World) (h : StageAt w b mb hb pb S) (hp : getM S id = some p) :
    Calls Try.prog 58 #[.pointer (some ⟨b, 0, none⟩), .int .i64 id] w fun e w' => e = .returned (.tuple #[p.v, .int .i64 0]) ∧ Below w.heap.size w w' := by
  have hl := fun o => lookup_some h hp o
  have hlt := h.lt.1
  obtain ⟨h1, -⟩ := h
  have c1 := cell_of_block h1 1
  simp only [List.getElem?_toArray, List.getElem?_cons_succ, List.getElem?_cons_zero] at c1
  clear h1 hp
  go_enter Try.func58, Try.ntmps58
  go_wp2_with fail
  exact ret_page rfl rfl w.heap.size p rfl (by simp [go_sem]) ⟨rfl, ((Below.refl _ _).alloc (Nat.le_refl _) _).alloc (by simp) _⟩

theorem rowsC_get (l : List Pg) (i j : Nat) (hi : i < l.length) (hj : j < 16) : (rowsC l)[i * 16 + j]? = l[i].cs.toList[j]? := by
  induction l generalizing i with
  | nil => simp at hi
  | cons p r ih =>
    have e : rowsC (p :: r) = p.cs.toList ++ rowsC r := rfl
    have e16 : p.cs.toList.length = 16 := rfl
    cases i with
    | zero =>
      rw [e, List.getElem?_append_left (by rw [e16]; omega)]
      simp
    | succ i =>
      rw [e, List.getElem?_append_right (by rw [e16]; omega), e16, show (i + 1) * 16 + j - 16 = i * 16 + j from by omega]
      exact ih i (by simpa using hi)

theorem load_shelf {w : World} {pb : Nat} {l : List Pg} (h : w.heap[pb]? = some (.cells (rowsC l).toArray 112)) (i : Nat) (hi : i < l.length) (o : Obj) :
    (loadPg (.pointer (some ⟨pb, i * 16, none⟩))).run Try.prog (w.alloc o) = .ok l[i].v (w.alloc o) := by
  have hlt := (Array.getElem?_eq_some_iff.1 h).1
  have hl : (loadCells ⟨pb, i * 16, none⟩ l[i].cs.toList.length).run Try.prog (w.alloc o) = .ok l[i].cs.toList.toArray (w.alloc o) :=
    run_loadCells_list (P := Try.prog) (w.alloc o) ⟨pb, i * 16, none⟩ l[i].cs.toList (fun j v hv => by
      have hj : j < 16 := (List.getElem?_eq_some_iff.1 hv).1
      rw [Addr.add_lit, World.cell?_alloc_past _ _ _ hlt, cell_of_block h (i * 16 + j)]
      rw [← hv, ← rowsC_get l i j hi hj]
      simp)
  have e16 : l[i].cs.toList.length = 16 := rfl
  rw [e16] at hl
  cases hq : Try.prog.info? 112 with
  | none => have := infoPage; simp [hq] at this
  | some f =>
    have hf : f.size = 16 := by have := infoPage; simpa [hq] using this
    have hagg : (isAgg 112).run Try.prog (w.alloc o) = .ok true (w.alloc o) := by
      unfold isAgg
      rw [Sem.run_bind, run_underlying Try.underlying112 (w.alloc o)]
      rfl
    simp only [Array.toArray_toList] at hl
    simp [loadPg, Instr.loadAt, Instr.sureAddr, loadVar, Sem.run_bind, hagg, sizeOf, typeInfo, hq, hf, hl, Pg.v]

set_option maxHeartbeats 2000000 in
theorem shelfGet_in (hb pb : Nat) (l : List Pg) (i : Nat) (w : World) (hs : ShelfAt w hb pb l) (hi : i < l.length) :
    Calls Try.prog 161 #[.pointer (some ⟨hb, 0, none⟩), .int .i64 i] w fun e w' => e = .returned (.tuple #[l[i].v, .int .i64 0]) ∧ Below w.heap.size w w' := by
  obtain ⟨h1, h2, hne, hl1, hl2⟩ := hs
  have hld := fun o => load_shelf h2 i hi o
  have c0 := cell_of_block h1 0
  simp only [List.getElem?_toArray, List.getElem?_cons_zero] at c0
  have lh := (Array.getElem?_eq_some_iff.1 h1).1
  have hk0 : (0 : Int) ≤ (i : Int) := Int.natCast_nonneg _
  have hk1 : (i : Int) < (l.length : Int) := by omega
  generalize l[i] = p at *
  clear h1 h2
  go_enter Try.func161, Try.ntmps161
  go_wp2
  exact ret_page rfl rfl w.heap.size p rfl (by simp [go_sem]) ⟨rfl, (Below.refl _ _).alloc (Nat.le_refl _) _⟩
set_option maxHeartbeats 2000000 in
theorem shelfGet_out (hb pb : Nat) (l : List Pg) (i : Int) (w : World) (hs : ShelfAt w hb pb l) (hi : i < 0 ∨ (l.length : Int) ≤ i) :
    Calls Try.prog 161 #[.pointer (some ⟨hb, 0, none⟩), .int .i64 i] w fun e w' => e = .returned (.tuple #[Pg.zero.v, .int .i64 1]) ∧ Below w.heap.size w w' := by
  obtain ⟨h1, h2, hne, hl1, hl2⟩ := hs
  have c0 := cell_of_block h1 0
  simp only [List.getElem?_toArray, List.getElem?_cons_zero] at c0
  have lh := (Array.getElem?_eq_some_iff.1 h1).1
  clear h1 h2
  by_cases hn : i < 0
  · go_enter Try.func161, Try.ntmps161
    go_wp2
    exact ret_page rfl rfl w.heap.size Pg.zero rfl (by simp [go_sem]) ⟨rfl, (Below.refl _ _).alloc (Nat.le_refl _) _⟩
  · have hi2 : (l.length : Int) ≤ i := by omega
    have hb0 : decide (i < 0) = false := by simp; omega
    have hb1 : decide ((l.length : Int) ≤ i) = true := by simpa using hi2
    clear hi
    go_enter Try.func161, Try.ntmps161
    go_wp2
    exact ret_page rfl rfl w.heap.size Pg.zero rfl (by simp [go_sem]) ⟨rfl, (Below.refl _ _).alloc (Nat.le_refl _) _⟩
end

/-!
  Layer 4 (page): the contract of page.Check.
-/
section
open Go.RowKit Go.Joins
set_option linter.unusedVariables false
set_option linter.unusedSimpArgs false

theorem sem_f {s : ByteArray} (h : s ≠ ByteArray.empty) : s.toList.isEmpty = false := by
  cases hs : s.toList with
  | nil => exact absurd (Go.WideShapes.bytes_inj (by rw [← ByteArray.toList_eq, hs]; rfl)) h
  | cons _ _ => rfl

/-- a cell that may be written -/
def okC (a : Int) (d : ByteArray) : Bool := decide (0 ≤ a) && decide (a ≤ 2) && decide (d.size ≤ 34) && (!(a == 0) || d.toList.isEmpty)
/-- the head of a page that may be written -/
def okH (p : Pg) : Bool := decide (0 ≤ p.k) && decide (p.k ≤ 4) && decide (0 ≤ p.l) && decide (p.l ≤ 255) && decide (0 ≤ p.s) && decide (p.s ≤ 65535) && decide (0 ≤ p.n) && decide (p.n < 1024)
/-- the cells from k on may be written -/
def okCs (p : Pg) (k : Nat) : Bool := (List.range' k (6 - k)).all fun i => okC (p.a i) (p.d i)
/-- a page that may be written -/
def okPg (p : Pg) : Bool := okH p && okCs p 0

theorem okCs_step (p : Pg) (k : Nat) (h : k < 6) : okCs p k = (okC (p.a k) (p.d k) && okCs p (k + 1)) := by
  unfold okCs
  rw [show 6 - k = (6 - (k + 1)) + 1 from by omega, List.range'_succ]
  rfl
theorem okCs_six (p : Pg) : okCs p 6 = true := rfl

theorem index6_0 (p : Pg) (w : World) : (Instr.index 110 (.agg #[.int .i64 p.a0, .string p.d0, .int .i64 p.a1, .string p.d1, .int .i64 p.a2, .string p.d2, .int .i64 p.a3, .string p.d3, .int .i64 p.a4, .string p.d4, .int .i64 p.a5, .string p.d5]) (.int .i64 0)).run Try.prog w =
    .ok (.agg #[.int .i64 p.a0, .string p.d0]) w := by kernel_rfl
theorem index6_1 (p : Pg) (w : World) : (Instr.index 110 (.agg #[.int .i64 p.a0, .string p.d0, .int .i64 p.a1, .string p.d1, .int .i64 p.a2, .string p.d2, .int .i64 p.a3, .string p.d3, .int .i64 p.a4, .string p.d4, .int .i64 p.a5, .string p.d5]) (.int .i64 1)).run Try.prog w =
    .ok (.agg #[.int .i64 p.a1, .string p.d1]) w := by kernel_rfl
theorem index6_2 (p : Pg) (w : World) : (Instr.index 110 (.agg #[.int .i64 p.a0, .string p.d0, .int .i64 p.a1, .string p.d1, .int .i64 p.a2, .string p.d2, .int .i64 p.a3, .string p.d3, .int .i64 p.a4, .string p.d4, .int .i64 p.a5, .string p.d5]) (.int .i64 2)).run Try.prog w =
    .ok (.agg #[.int .i64 p.a2, .string p.d2]) w := by kernel_rfl
theorem index6_3 (p : Pg) (w : World) : (Instr.index 110 (.agg #[.int .i64 p.a0, .string p.d0, .int .i64 p.a1, .string p.d1, .int .i64 p.a2, .string p.d2, .int .i64 p.a3, .string p.d3, .int .i64 p.a4, .string p.d4, .int .i64 p.a5, .string p.d5]) (.int .i64 3)).run Try.prog w =
    .ok (.agg #[.int .i64 p.a3, .string p.d3]) w := by kernel_rfl
theorem index6_4 (p : Pg) (w : World) : (Instr.index 110 (.agg #[.int .i64 p.a0, .string p.d0, .int .i64 p.a1, .string p.d1, .int .i64 p.a2, .string p.d2, .int .i64 p.a3, .string p.d3, .int .i64 p.a4, .string p.d4, .int .i64 p.a5, .string p.d5]) (.int .i64 4)).run Try.prog w =
    .ok (.agg #[.int .i64 p.a4, .string p.d4]) w := by kernel_rfl
theorem index6_5 (p : Pg) (w : World) : (Instr.index 110 (.agg #[.int .i64 p.a0, .string p.d0, .int .i64 p.a1, .string p.d1, .int .i64 p.a2, .string p.d2, .int .i64 p.a3, .string p.d3, .int .i64 p.a4, .string p.d4, .int .i64 p.a5, .string p.d5]) (.int .i64 5)).run Try.prog w =
    .ok (.agg #[.int .i64 p.a5, .string p.d5]) w := by kernel_rfl
theorem index6 (p : Pg) (k : Nat) (h : k < 6) (w : World) : (Instr.index 110 (.agg #[.int .i64 p.a0, .string p.d0, .int .i64 p.a1, .string p.d1, .int .i64 p.a2, .string p.d2, .int .i64 p.a3, .string p.d3, .int .i64 p.a4, .string p.d4, .int .i64 p.a5, .string p.d5]) (.int .i64 k)).run Try.prog w =
    .ok (.agg #[.int .i64 (p.a k), .string (p.d k)]) w := by
  have h6 : k = 0 ∨ k = 1 ∨ k = 2 ∨ k = 3 ∨ k = 4 ∨ k = 5 := by omega
  rcases h6 with rfl | rfl | rfl | rfl | rfl | rfl
  · exact index6_0 p w
  · exact index6_1 p w
  · exact index6_2 p w
  · exact index6_3 p w
  · exact index6_4 p w
  · exact index6_5 p w

def chkE (b : Bool) : Int := if b then 0 else 1

set_option maxHeartbeats 4000000 in
set_option maxRecDepth 100000 in
theorem check_any (p : Pg) (w : World) :
    Calls Try.prog 91 #[p.v] w fun e w' => e = .returned (.int .i64 (chkE (okPg p))) ∧ Below w.heap.size w w' := by
  by_cases hH : okH p = true
  · have e0 : okPg p = okCs p 0 := by simp [okPg, hH]
    rw [e0]
    clear e0
    simp only [okH, Bool.and_eq_true, decide_eq_true_eq] at hH
    obtain ⟨⟨⟨⟨⟨⟨⟨k1, k2⟩, l1⟩, l2⟩, s1⟩, s2⟩, n1⟩, n2⟩ := hH
    go_enter Try.func91, Try.ntmps91
    go_wp2_with fail
    clear k1 k2 l1 l2 s1 s2 n1 n2
    go_loopw [45] (fun i wr => ∃ k : Nat, k ≤ 6 ∧ i = .int .i64 k ∧ okCs p 0 = okCs p k ∧ Below w.heap.size w wr) (fun i _ => 6 - (intOf i).toNat)
    case atStart => exact ⟨0, by omega, rfl, rfl, (Below.refl _ _).alloc (Nat.le_refl _) _⟩
    case round =>
      obtain ⟨k, hk, rfl, hok, hb⟩ := hrel
      have HO := Lib.hid hok
      have hsz := hb.size
      clear hok
      by_cases hlt : k < 6
      · have hidx := index6 p k hlt
        have hst := okCs_step p k hlt
        have HS := Lib.hid hst
        clear hst
        generalize p.a k = a at *
        generalize p.d k = d at *
        cases hC : okC a d
        · have hC0 := hC
          have HC := Lib.hid hC0
          clear hC0
          have bad : a < 0 ∨ (0 ≤ a ∧ 2 < a) ∨ (0 ≤ a ∧ a ≤ 2 ∧ 34 < d.size) ∨ (a = 0 ∧ d.size ≤ 34 ∧ d.toList.isEmpty = false) := by
            by_cases q1 : a < 0
            · exact .inl q1
            by_cases q2 : 2 < a
            · exact .inr (.inl ⟨by omega, q2⟩)
            by_cases q3 : 34 < d.size
            · exact .inr (.inr (.inl ⟨by omega, by omega, q3⟩))
            have p1 : decide (0 ≤ a) = true := by simp; omega
            have p2 : decide (a ≤ 2) = true := by simp; omega
            have p3 : decide (d.size ≤ 34) = true := by simp; omega
            simp only [okC, p1, p2, p3, Bool.true_and, Bool.or_eq_false_iff, Bool.not_eq_false', beq_iff_eq] at hC
            exact .inr (.inr (.inr ⟨hC.1, by omega, hC.2⟩))
          clear hC
          rcases bad with q | ⟨q, q2⟩ | ⟨q, q2, q3⟩ | ⟨q, q2, q3⟩
          · go_wp2
            go_ret
            exact ⟨by rw [HO.out, HS.out, HC.out]; rfl, hb.alloc hsz _⟩
          · go_wp2
            go_ret
            exact ⟨by rw [HO.out, HS.out, HC.out]; rfl, hb.alloc hsz _⟩
          · go_wp2
            all_goals go_ret
            all_goals exact ⟨by rw [HO.out, HS.out, HC.out]; rfl, hb.alloc hsz _⟩
          · subst q
            go_wp2
            go_ret
            exact ⟨by rw [HO.out, HS.out, HC.out]; rfl, hb.alloc hsz _⟩
        · have HC := Lib.hid hC
          simp only [okC, Bool.and_eq_true, decide_eq_true_eq, Bool.or_eq_true, Bool.not_eq_true'] at hC
          obtain ⟨⟨⟨a1, a2⟩, d1⟩, hz⟩ := hC
          by_cases hz0 : a = 0
          · subst hz0
            have hz2 : d.toList.isEmpty = true := by simpa using hz
            clear hz
            go_wp2
            go_roundw
            case rel => exact ⟨k + 1, by omega, by go_num, by rw [HO.out, HS.out, HC.out]; rfl, hb.alloc hsz _⟩
            case measure => simp [intOf]; omega
          · have hz1 : (a == 0) = false := by simp [hz0]
            clear hz hz0
            go_wp2
            go_roundw
            case rel => exact ⟨k + 1, by omega, by go_num, by rw [HO.out, HS.out, HC.out]; rfl, hb.alloc hsz _⟩
            case measure => simp [intOf]; omega
      · have hk6 : k = 6 := by omega
        subst hk6
        go_wp2
        go_ret
        exact ⟨by rw [HO.out]; rfl, hb⟩
  · have e0 : okPg p = false := by simp [okPg, hH]
    rw [e0]
    clear e0
    have bad : p.k < 0 ∨ (0 ≤ p.k ∧ 4 < p.k) ∨ (0 ≤ p.k ∧ p.k ≤ 4 ∧ p.l < 0) ∨ (0 ≤ p.k ∧ p.k ≤ 4 ∧ 0 ≤ p.l ∧ 255 < p.l) ∨ (0 ≤ p.k ∧ p.k ≤ 4 ∧ 0 ≤ p.l ∧ p.l ≤ 255 ∧ p.s < 0) ∨ (0 ≤ p.k ∧ p.k ≤ 4 ∧ 0 ≤ p.l ∧ p.l ≤ 255 ∧ 0 ≤ p.s ∧ 65535 < p.s) ∨
        (0 ≤ p.k ∧ p.k ≤ 4 ∧ 0 ≤ p.l ∧ p.l ≤ 255 ∧ 0 ≤ p.s ∧ p.s ≤ 65535 ∧ p.n < 0) ∨ (0 ≤ p.k ∧ p.k ≤ 4 ∧ 0 ≤ p.l ∧ p.l ≤ 255 ∧ 0 ≤ p.s ∧ p.s ≤ 65535 ∧ 0 ≤ p.n ∧ 1024 ≤ p.n) := by
      simp only [okH, Bool.and_eq_true, decide_eq_true_eq] at hH
      omega
    clear hH
    rcases bad with q | ⟨q, q1⟩ | ⟨q, q1, q2⟩ | ⟨q, q1, q2, q3⟩ | ⟨q, q1, q2, q3, q4⟩ | ⟨q, q1, q2, q3, q4, q5⟩ | ⟨q, q1, q2, q3, q4, q5, q6⟩ | ⟨q, q1, q2, q3, q4, q5, q6, q7⟩
    all_goals
      go_enter Try.func91, Try.ntmps91
      go_wp2
      go_ret
      exact ⟨rfl, (Below.refl _ _).alloc (Nat.le_refl _) _⟩
end

/-!
  Layer 13 (stage): the contracts of Stage.Get below, Stage.Set, Memory and New.
-/
section
open Go.RowKit Go.Joins
set_option linter.unusedVariables false
set_option linter.unusedSimpArgs false

theorem meth_shelf (u : Value) (w : World) : (method 235 69 u "Get").run Try.prog w = .ok (161, u) w := by kernel_rfl

theorem rowAt_below {B n : Nat} {w w' : World} (h : Below B w w') (hn : n < B) : rowAt w' n = rowAt w n := by unfold rowAt; rw [h.block n hn]
theorem below_setRow {B n : Nat} {w w' : World} (h : Below B w w') (c : Array Value) (hn : B ≤ n) : Below B w (w'.setRow n c) :=
  ⟨h.os, h.tape, h.output, by simpa [World.setRow] using h.size, fun i hi => by
    rw [← h.block i hi]
    have hne : ¬ n = i := by omega
    simp only [World.setRow, Array.getElem?_modify, hne, if_false]⟩

theorem ShelfAt.below {w w' : World} {hb pb B : Nat} {l : List Pg} (h : ShelfAt w hb pb l) (hbel : Below B w w') (h1 : hb < B) (h2 : pb < B) : ShelfAt w' hb pb l :=
  ⟨(hbel.block hb h1).trans h.1, (hbel.block pb h2).trans h.2.1, h.2.2⟩

/-- what a shelf answers -/
def shelfPg (l : List Pg) (id : Int) : Pg := if 0 ≤ id then l.getD id.toNat Pg.zero else Pg.zero
def shelfE (l : List Pg) (id : Int) : Int := if 0 ≤ id ∧ id < l.length then 0 else 1

theorem shelfGet_any (hb pb : Nat) (l : List Pg) (id : Int) (w : World) (hs : ShelfAt w hb pb l) :
    Calls Try.prog 161 #[.pointer (some ⟨hb, 0, none⟩), .int .i64 id] w fun e w' => e = .returned (.tuple #[(shelfPg l id).v, .int .i64 (shelfE l id)]) ∧ Below w.heap.size w w' := by
  by_cases h : 0 ≤ id ∧ id < l.length
  · have e1 : shelfE l id = 0 := if_pos h
    have hi : id.toNat < l.length := by omega
    have e2 : shelfPg l id = l[id.toNat] := by simp [shelfPg, h.1, List.getD, hi]
    have := shelfGet_in hb pb l id.toNat w hs hi
    rw [Int.toNat_of_nonneg h.1] at this
    rw [e1, e2]
    exact this
  · have e1 : shelfE l id = 1 := if_neg h
    have h2 : id < 0 ∨ (l.length : Int) ≤ id := by omega
    have e2 : shelfPg l id = Pg.zero := by
      unfold shelfPg
      split
      · have : l.length ≤ id.toNat := by omega
        simp [List.getD, this]
      · rfl
    rw [e1, e2]
    exact shelfGet_out hb pb l id w hs h2

/-- what a stage answers -/
def stPg (S : Vol) (id : Int) : Pg := match getM S id with | some p => p | none => shelfPg S.base id
def stE (S : Vol) (id : Int) : Int := match getM S id with | some _ => 0 | none => shelfE S.base id

set_option maxHeartbeats 2000000 in
set_option maxRecDepth 100000 in
theorem get_any (S : Vol) (b mb hb pb : Nat) (id : Int) (w : World) (h : StageAt w b mb hb pb S) :
    Calls Try.prog 58 #[.pointer (some ⟨b, 0, none⟩), .int .i64 id] w fun e w' => e = .returned (.tuple #[(stPg S id).v, .int .i64 (stE S id)]) ∧ Below w.heap.size w w' := by
  cases hp : getM S id with
  | some p =>
    have e1 : stPg S id = p := by unfold stPg; rw [hp]
    have e2 : stE S id = 0 := by unfold stE; rw [hp]
    rw [e1, e2]
    exact get_set S b mb hb pb id p w h hp
  | none =>
    have e1 : stPg S id = shelfPg S.base id := by unfold stPg; rw [hp]
    have e2 : stE S id = shelfE S.base id := by unfold stE; rw [hp]
    rw [e1, e2]
    clear e1 e2
    have hl := fun o => lookup_none h hp o
    have hlt := h.lt
    have hc := fun o o' => shelfGet_any hb pb S.base id _ (h.2.2.1.below (((Below.refl w.heap.size w).alloc (Nat.le_refl _) o).alloc (by simp) o') hlt.2.2.1 hlt.2.2.2)
    generalize shelfPg S.base id = p at *
    generalize shelfE S.base id = q at *
    have HC := Lib.hid hc
    clear hc
    obtain ⟨h1, -, -⟩ := h
    have c0 := cell_of_block h1 0
    have c1 := cell_of_block h1 1
    simp only [List.getElem?_toArray, List.getElem?_cons_succ, List.getElem?_cons_zero] at c0 c1
    obtain ⟨l1, l2, l3, l4⟩ := hlt
    have m1 := meth_shelf
    clear h1 hp
    go_enter Try.func58, Try.ntmps58
    go_wp2_with fail
    refine (HC.out _ _).mono ?_; rintro e w1 ⟨rfl, hb1⟩
    have hr1 : rowAt w1 w.heap.size = some Pg.zero.cs := (rowAt_below hb1 (by go_size)).trans (by simp [go_sem])
    have hsz := hb1.size
    have HB := Lib.hid hb1
    simp only [World.size_alloc] at hsz
    clear hb1
    go_wp2
    exact ret_page rfl rfl w.heap.size p rfl (by simp [go_sem, hr1]) ⟨rfl, below_setRow ((((Below.refl _ _).alloc (Nat.le_refl _) _).alloc (by simp) _).trans (HB.out.mono (by go_size))) _ (by simp)⟩
end

/-!
  Layer 13 (stage): the contracts of Stage.Set, Memory and New.
-/
section
open Go.RowKit Go.Joins
set_option linter.unusedVariables false
set_option linter.unusedSimpArgs false

theorem grown_setBlock {w w1 : World} {mb : Nat} (h : w.grownBy w1 (some mb)) (o : Obj) : w.grownBy (ChangeMaps.setBlock w1 mb o) (some mb) :=
  ⟨h.os, h.tape, h.output, by simpa [ChangeMaps.setBlock] using h.size, fun i hi hne => by
    rw [← h.block i hi hne]
    have hn : ¬ mb = i := fun e => hne (by rw [e])
    simp [ChangeMaps.setBlock, Array.getElem?_modify, hn]⟩

/-- a page may be set at a number -/
def okSet (id : Int) (p : Pg) : Bool := decide (0 ≤ id) && decide (id < 1024) && okPg p

set_option maxHeartbeats 2000000 in
set_option maxRecDepth 100000 in
theorem set_bad (b : Nat) (id : Int) (p : Pg) (w : World) (h : okSet id p = false) :
    Calls Try.prog 59 #[.pointer (some ⟨b, 0, none⟩), .int .i64 id, p.v] w fun e w' => e = .returned (.int .i64 1) ∧ Below w.heap.size w w' := by
  have hc := check_any p
  by_cases h1 : id < 0
  · clear hc h
    go_enter Try.func59, Try.ntmps59
    go_wp2_with fail
    go_ret
    exact ⟨rfl, (Below.refl _ _).alloc (Nat.le_refl _) _⟩
  by_cases h2 : 1024 ≤ id
  · clear hc h
    go_enter Try.func59, Try.ntmps59
    go_wp2_with fail
    go_ret
    exact ⟨rfl, (Below.refl _ _).alloc (Nat.le_refl _) _⟩
  · have h3 : okPg p = false := by
      have p1 : decide (0 ≤ id) = true := by simp; omega
      have p2 : decide (id < 1024) = true := by simp; omega
      simpa only [okSet, p1, p2, Bool.true_and] using h
    rw [h3] at hc
    have e1 : chkE false = 1 := rfl
    rw [e1] at hc
    have HC := Lib.hid hc
    clear hc h h3
    go_enter Try.func59, Try.ntmps59
    go_wp2_with fail
    refine (HC.out _).mono ?_; rintro e w1 ⟨rfl, hb1⟩
    go_wp2_with fail
    go_ret
    exact ⟨rfl, ((Below.refl _ _).alloc (Nat.le_refl _) _).trans (hb1.mono (by go_size))⟩

set_option maxHeartbeats 2000000 in
set_option maxRecDepth 100000 in
theorem set_ok (S : Vol) (b mb hb pb : Nat) (id : Int) (p : Pg) (w : World) (hs : StageAt w b mb hb pb S) (h : okSet id p = true) :
    Calls Try.prog 59 #[.pointer (some ⟨b, 0, none⟩), .int .i64 id, p.v] w fun e w' => e = .returned (.int .i64 0) ∧ w.grownBy w' (some mb) ∧ IntMap w' mb (updI id p.v (S.M.map fun x => (x.1, x.2.v))) := by
  have hc := check_any p
  simp only [okSet, Bool.and_eq_true, decide_eq_true_eq] at h
  obtain ⟨⟨h1, h2⟩, h3⟩ := h
  rw [h3] at hc
  have e1 : chkE true = 0 := rfl
  rw [e1] at hc
  have HC := Lib.hid hc
  have HS := Lib.hid hs
  obtain ⟨l1, l2, l3, l4⟩ := hs.lt
  have c1 := cell_of_block hs.1 1
  simp only [List.getElem?_toArray, List.getElem?_cons_succ, List.getElem?_cons_zero] at c1
  obtain ⟨es, clock, hm, hM, hSt⟩ := hs.2.1
  obtain ⟨o, ho⟩ := run_mapUpdate_int (P := Try.prog) Try.underlying137 Try.underlying3 p.v mb _ id es clock hM hSt
  have HO := Lib.hid ho
  have HM := Lib.hid hm
  clear hc h3 hs ho hm hM hSt
  go_enter Try.func59, Try.ntmps59
  go_wp2_with fail
  refine (HC.out _).mono ?_; rintro e w1 ⟨rfl, hb1⟩
  have hr1 : rowAt w1 w.heap.size = some p.cs := (rowAt_below hb1 (by go_size)).trans (by simp [go_sem])
  have hb2 := ((Below.refl w.heap.size w).alloc (Nat.le_refl _) (.cells p.cs 112)).trans (hb1.mono (by go_size))
  have c2 : w1.cell? ⟨b, 1, none⟩ = some (.map (some mb)) := (hb2.cell (p := ⟨b, 1, none⟩) l1).trans c1
  have m2 : w1.heap[mb]? = some (.map es clock) := (hb2.block mb l2).trans HM.out
  have u1 := (HO.out w1.drew m2).1
  have HB := Lib.hid hb2
  have HM2 := Lib.hid m2
  clear hb1 hb2 m2
  go_wp2_with fail
  go_region
  go_wp2_with fail
  go_ret
  have hk : w.grownBy w1.drew (some mb) := ⟨HB.out.os, HB.out.tape, HB.out.output, HB.out.size, fun i hi _ => HB.out.block i hi⟩
  exact ⟨rfl, grown_setBlock hk o, (HO.out w1.drew HM2.out).2⟩

/-- a page set, on the list -/
def updM (k : Int) (v : Pg) : List (Int × Pg) → List (Int × Pg)
  | [] => [(k, v)]
  | x :: r => if k = x.1 then (k, v) :: r else x :: updM k v r
theorem updM_map (k : Int) (p : Pg) (M : List (Int × Pg)) : (updM k p M).map (fun x => (x.1, x.2.v)) = updI k p.v (M.map fun x => (x.1, x.2.v)) := by
  induction M with
  | nil => rfl
  | cons x r ih =>
    simp only [updM, List.map_cons, updI]
    by_cases h : k = x.1
    · simp [h]
    · simp [h, ih]
def Vol.put (S : Vol) (id : Int) (p : Pg) : Vol := ⟨S.base, updM id p S.M⟩
theorem find_updM (k id : Int) (p : Pg) (M : List (Int × Pg)) : ((updM k p M).find? fun x => x.1 == id).map (·.2) = if id = k then some p else (M.find? fun x => x.1 == id).map (·.2) := by
  induction M with
  | nil =>
    by_cases h : id = k
    · subst h; simp [updM]
    · have h2 : (k == id) = false := by simp; exact fun e => h e.symm
      simp [updM, h, h2]
  | cons x r ih =>
    unfold updM
    by_cases hx : k = x.1
    · rw [if_pos hx]
      by_cases h : id = k
      · subst h; simp
      · have h2 : (k == id) = false := by simp; exact fun e => h e.symm
        have h3 : (x.1 == id) = false := by rw [← hx]; exact h2
        simp [h, h2, h3]
    · rw [if_neg hx]
      simp only [List.find?_cons]
      by_cases h : (x.1 == id) = true
      · have h2 : ¬ id = k := by
          intro e; subst e
          exact hx (eq_of_beq h).symm
        simp [h, h2]
      · simp only [Bool.not_eq_true] at h
        rw [h]
        exact ih
theorem getM_put (S : Vol) (k id : Int) (p : Pg) : getM (S.put k p) id = if id = k then some p else getM S id := find_updM k id p S.M
theorem stPg_put (S : Vol) (k id : Int) (p : Pg) : stPg (S.put k p) id = if id = k then p else stPg S id := by
  unfold stPg
  rw [getM_put]
  by_cases h : id = k <;> simp [h, Vol.put]
theorem stE_put (S : Vol) (k id : Int) (p : Pg) : stE (S.put k p) id = if id = k then 0 else stE S id := by
  unfold stE
  rw [getM_put]
  by_cases h : id = k <;> simp [h, Vol.put]

theorem StageAt.grown {w w' : World} {b mb hb pb : Nat} {S : Vol} (h : StageAt w b mb hb pb S) {M : List (Int × Pg)} (hg : w.grownBy w' (some mb)) (hm : IntMap w' mb (M.map fun x => (x.1, x.2.v))) : StageAt w' b mb hb pb ⟨S.base, M⟩ := by
  obtain ⟨l1, l2, l3, l4⟩ := h.lt
  obtain ⟨h1, -, ⟨h4, h5, h6⟩, h7, h8, h9, h10⟩ := h
  exact ⟨(hg.block b l1 (by simpa using h7)).trans h1, hm, ⟨(hg.block hb l3 (by simpa using Ne.symm h8)).trans h4, (hg.block pb l4 (by simpa using Ne.symm h9)).trans h5, h6⟩, h7, h8, h9, h10⟩
theorem grown_of_below {w w' : World} (h : Below w.heap.size w w') (r : Option Nat) : w.grownBy w' r := ⟨h.os, h.tape, h.output, h.size, fun i hi _ => h.block i hi⟩

/-- a page is set, or the call is refused -/
theorem set_any (S : Vol) (b mb hb pb : Nat) (id : Int) (p : Pg) (w : World) (hs : StageAt w b mb hb pb S) :
    Calls Try.prog 59 #[.pointer (some ⟨b, 0, none⟩), .int .i64 id, p.v] w fun e w' => e = .returned (.int .i64 (chkE (okSet id p))) ∧ w.grownBy w' (some mb) ∧ StageAt w' b mb hb pb (if okSet id p then S.put id p else S) := by
  cases h : okSet id p with
  | true =>
    refine (set_ok S b mb hb pb id p w hs h).mono ?_
    rintro e w' ⟨h1, h2, h3⟩
    rw [← updM_map] at h3
    exact ⟨h1, h2, hs.grown h2 h3⟩
  | false =>
    refine (set_bad b id p w h).mono ?_
    rintro e w' ⟨h1, h2⟩
    have hl := hs.lt
    exact ⟨h1, grown_of_below h2 _, hs.below h2 hl⟩

theorem infoPageAll : (Try.prog.info? 112).map (fun i => (i.zero, i.size, i.bytes)) = some (some Pg.zero.v, 16, 176) := by kernel_rfl
theorem rowsC_size (l : List Pg) : (rowsC l).length = l.length * 16 := by
  induction l with
  | nil => rfl
  | cons p r ih =>
    have e : rowsC (p :: r) = p.cs.toList ++ rowsC r := rfl
    have e16 : p.cs.toList.length = 16 := rfl
    rw [e, List.length_append, ih, e16, List.length_cons]; omega
theorem made_pages (n : Nat) : madeCells Pg.zero.cs (n * 16) = (rowsC (List.replicate n Pg.zero)).toArray := by
  apply Array.ext_getElem?
  intro i
  by_cases hi : i < n * 16
  · have h16 : Pg.zero.cs.size = 16 := rfl
    have e := rowsC_get (List.replicate n Pg.zero) (i / 16) (i % 16) (by simp; omega) (Nat.mod_lt _ (by omega))
    rw [show i / 16 * 16 + i % 16 = i from by omega] at e
    have hm : i % 16 < Pg.zero.cs.size := by rw [h16]; exact Nat.mod_lt _ (by omega)
    simp only [Array.getElem?_toList, List.getElem?_toArray, e]
    simp only [madeCells, h16, Array.getElem?_map, List.getElem_replicate]
    simp [hi, hm]
  · simp only [Array.getElem?_toList, List.getElem?_toArray]
    rw [Array.getElem?_eq_none (by rw [size_madeCells]; omega), List.getElem?_eq_none (by rw [rowsC_size]; simp; omega)]
theorem run_makePages (n : Nat) (hn : n ≤ 1024) (w : World) : (Instr.makeSlice 124 (.int .i64 n) (.int .i64 n)).run Try.prog w = .ok (.slice (some ⟨w.heap.size, 0, none⟩) n n) (w.alloc (.cells (rowsC (List.replicate n Pg.zero)).toArray 112)) := by
  cases hq : Try.prog.info? 112 with
  | none => have := infoPageAll; simp [hq] at this
  | some i =>
    have := infoPageAll
    simp only [hq, Option.map_some, Option.some.injEq, Prod.mk.injEq] at this
    obtain ⟨hz, hs, hb⟩ := this
    rw [Go.run_makeSlice (P := Try.prog) w 124 112 i Pg.zero.v Try.underlying124 hq hz .i64 .i64 n n (by omega) (by omega) (by rw [hs]; omega) (by rw [hb]; omega) (by omega)]
    simp only [hs, Int.toNat_natCast, Pg.cells_v, made_pages]

set_option maxHeartbeats 2000000 in
set_option maxRecDepth 100000 in
theorem memory_ok (n : Nat) (h1 : 1 ≤ n) (h2 : n ≤ 1024) (w : World) :
    Calls Try.prog 35 #[.int .i64 n] w fun e w' => ∃ hb pb, e = .returned (.tuple #[.pointer (some ⟨hb, 0, none⟩), .int .i64 0]) ∧ Below w.heap.size w w' ∧ w.heap.size ≤ hb ∧ w.heap.size ≤ pb ∧ ShelfAt w' hb pb (List.replicate n Pg.zero) := by
  have k1 : (1 : Int) ≤ (n : Int) := by omega
  have k2 : (n : Int) ≤ 1024 := by omega
  have hm := run_makePages n h2 w
  go_enter Try.func35, Try.ntmps35
  go_wp2_with fail
  go_ret2
  refine ⟨w.heap.size + 1, w.heap.size, rfl, ((Below.refl _ _).alloc (Nat.le_refl _) _).alloc (by go_size) _, by omega, by omega, ?_, ?_, by omega, by simp; omega, by simp; omega⟩
  · have e := heap_alloc_new (w.alloc (.cells (rowsC (List.replicate n Pg.zero)).toArray 112)) (.cells #[.slice (some ⟨w.heap.size, 0, none⟩) n n] 126)
    rw [World.size_alloc] at e
    rw [e, List.length_replicate]
  · rw [Below.heap_alloc _ _ _ (by go_size), heap_alloc_new]

theorem run_newMap (w : World) : (Instr.makeMap 137 none).run Try.prog w = .ok (.map (some w.heap.size)) (w.alloc (.map #[] 0)) := by kernel_rfl

set_option maxHeartbeats 2000000 in
set_option maxRecDepth 100000 in
theorem new_any (hb pb : Nat) (l : List Pg) (w : World) (h : ShelfAt w hb pb l) :
    Calls Try.prog 37 #[.iface 69 (.pointer (some ⟨hb, 0, none⟩))] w fun e w' => ∃ b mb, e = .returned (.pointer (some ⟨b, 0, none⟩)) ∧ Below w.heap.size w w' ∧ w.heap.size ≤ b ∧ w.heap.size ≤ mb ∧ StageAt w' b mb hb pb ⟨l, []⟩ := by
  have l1 := (Array.getElem?_eq_some_iff.1 h.1).1
  have l2 := (Array.getElem?_eq_some_iff.1 h.2.1).1
  have H := Lib.hid h
  have hmk := run_newMap w
  clear h
  go_enter Try.func37, Try.ntmps37
  go_wp2_with fail
  go_ret
  have e := heap_alloc_new (w.alloc (.map #[] 0)) (.cells #[.iface 69 (.pointer (some ⟨hb, 0, none⟩)), .map (some w.heap.size)] 139)
  rw [World.size_alloc] at e
  have hb2 := ((Below.refl w.heap.size w).alloc (Nat.le_refl _) (.map #[] 0)).alloc (by go_size) (.cells #[.iface 69 (.pointer (some ⟨hb, 0, none⟩)), .map (some w.heap.size)] 139)
  exact ⟨w.heap.size + 1, w.heap.size, rfl, hb2, by omega, by omega, e, ⟨#[], 0, by rw [Below.heap_alloc _ _ _ (by go_size), heap_alloc_new], rfl, MapKept.stamped_empty 0⟩, H.out.below hb2 l1 l2, by omega, by omega, by omega, by omega, by omega⟩
end
end Go.Proofs.Ytljommhbhpappaa
