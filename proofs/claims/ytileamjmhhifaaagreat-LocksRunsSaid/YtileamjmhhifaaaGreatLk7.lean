/-
  Layer 9 (locks): the table in memory; New, Waiting, Mode.
-/
import Derived.Test.YtileamjmhhifaaaGreatLk6
namespace Go.Proofs.YtileamjmhhifaaaGreat
open Go.RowKit Go.Joins Go.Sort
set_option linter.unusedVariables false
set_option linter.unusedSimpArgs false

/-- a queue and where it lies -/
structure Ent where
  qb : Nat
  hv : Value
  wv : Value
  Q : Qu
instance : Inhabited Ent := ⟨⟨0, .pointer none, .pointer none, ⟨[], []⟩⟩⟩
def Ent.own (e : Ent) (i : Nat) : Prop := qBlk e.qb e.hv e.wv i
def ptrQ (qb : Nat) : Value := .pointer (some ⟨qb, 0, none⟩)
def keysM {K : Type} (M : List (K × Value)) : List K := M.map (·.1)
structure TabAt (w : World) (B t nb wb : Nat) (turn : Int) (M : List (Nm × Value)) (E : Nm → Ent) (Wt : List (Int × Value)) : Prop where
  wait : WaitAt w t nb wb turn Wt
  names : KMap Nm.v w nb M
  ptr : ∀ x ∈ M, x.2 = ptrQ (E x.1).qb
  qat : ∀ n ∈ keysM M, QAt w B (E n).qb (E n).hv (E n).wv (E n).Q
  apart : ∀ n ∈ keysM M, ∀ m ∈ keysM M, n ≠ m → ∀ i, (E n).own i → ¬ (E m).own i
  vals : ∀ x ∈ Wt, ∃ n : Nm, x.2 = n.v
  leT : B ≤ t
  leN : B ≤ nb
  leW : B ≤ wb
  ne : nb ≠ wb
/-- the blocks of a table -/
def Own (t nb wb : Nat) (M : List (Nm × Value)) (E : Nm → Ent) (i : Nat) : Prop := i = t ∨ i = nb ∨ i = wb ∨ ∃ n, n ∈ keysM M ∧ (E n).own i
/-- what stands at a name -/
def qOf (M : List (Nm × Value)) (E : Nm → Ent) (n : Nm) : Qu := if n ∈ keysM M then (E n).Q else ⟨[], []⟩
section
variable {w w' : World} {B t nb wb : Nat} {turn : Int} {M : List (Nm × Value)} {E : Nm → Ent} {Wt : List (Int × Value)}
theorem TabAt.keep (h : TabAt w B t nb wb turn M E Wt) (hk : ∀ i, Own t nb wb M E i → w'.heap[i]? = w.heap[i]?) : TabAt w' B t nb wb turn M E Wt :=
  ⟨h.wait.keep (hk t (.inl rfl)) (hk wb (.inr (.inr (.inl rfl)))), h.names.kept (hk nb (.inr (.inl rfl))), h.ptr, fun n hn => (h.qat n hn).keep fun i hi => hk i (.inr (.inr (.inr ⟨n, hn, hi⟩))), h.apart, h.vals, h.leT, h.leN, h.leW, h.ne⟩
theorem TabAt.lt (h : TabAt w B t nb wb turn M E Wt) {i : Nat} (hi : Own t nb wb M E i) : B ≤ i ∧ i < w.heap.size := by
  rcases hi with rfl | rfl | rfl | ⟨n, hn, hi⟩
  · exact ⟨h.leT, h.wait.lt.1⟩
  · exact ⟨h.leN, h.names.lt⟩
  · exact ⟨h.leW, h.wait.lt.2⟩
  · exact (h.qat n hn).lt hi
theorem TabAt.below (h : TabAt w B t nb wb turn M E Wt) (hb : Below w.heap.size w w') : TabAt w' B t nb wb turn M E Wt := h.keep fun i hi => hb.block i (h.lt hi).2
theorem findK_key {K : Type} [DecidableEq K] {k : K} : ∀ {M : List (K × Value)} {i : Nat}, k ∈ keysM M → ∃ j v, findK k M i = some (j, v) ∧ (k, v) ∈ M
  | [], _, h => by cases h
  | x :: r, i, h => by
    unfold findK
    by_cases hk : k = x.1
    · rw [if_pos hk]; exact ⟨i, x.2, rfl, by rw [hk]; exact List.mem_cons_self ..⟩
    · rw [if_neg hk]
      simp only [keysM, List.map_cons, List.mem_cons] at h
      obtain ⟨j, v, h1, h2⟩ := findK_key (M := r) (i := i + 1) (h.resolve_left hk)
      exact ⟨j, v, h1, List.mem_cons_of_mem _ h2⟩
theorem findK_nokey {K : Type} [DecidableEq K] {k : K} : ∀ {M : List (K × Value)} {i : Nat}, k ∉ keysM M → findK k M i = none
  | [], _, _ => rfl
  | x :: r, i, h => by
    simp only [keysM, List.map_cons, List.mem_cons, not_or] at h
    unfold findK
    rw [if_neg h.1]
    exact findK_nokey (M := r) h.2
/-- t.names[n] -/
theorem TabAt.look (h : TabAt w B t nb wb turn M E Wt) (n : Nm) : ∀ W : World, W.heap[nb]? = w.heap[nb]? → (Instr.lookup 49 (.map (some nb)) n.v false).run Tryz.prog W = .ok (if n ∈ keysM M then ptrQ (E n).qb else .pointer none) W := by
  intro W hW
  have := run_lookup1_k (P := Tryz.prog) Tryz.underlying49 keyLaw_nm (.pointer none) nb M n W (by kernel_rfl) (h.names.kept hW)
  rw [this]
  by_cases hn : n ∈ keysM M
  · obtain ⟨j, v, h1, h2⟩ := findK_key (i := 0) hn
    rw [h1, if_pos hn]
    exact congrArg (Result.ok · W) (h.ptr _ h2)
  · rw [findK_nokey hn, if_neg hn]
/-- _, ok := t.waits[x] -/
theorem TabAt.lookW (h : TabAt w B t nb wb turn M E Wt) (x : Int) : ∃ n : Nm, ∀ W : World, W.heap[wb]? = w.heap[wb]? → (Instr.lookup 50 (.map (some wb)) (.int .i64 x) true).run Tryz.prog W = .ok (.tuple #[.agg #[.int .i64 n.s, .string n.i], .bool (decide (x ∈ keysM Wt))]) W := by
  by_cases hn : x ∈ keysM Wt
  · obtain ⟨j, v, h1, h2⟩ := findK_key (i := 0) hn
    obtain ⟨n, hv⟩ := h.vals _ h2
    simp only at hv
    subst hv
    refine ⟨n, fun W hW => ?_⟩
    have := run_lookup_k (P := Tryz.prog) Tryz.underlying50 (keyLaw_int Tryz.underlying3) (Nm.v ⟨0, ⟨#[]⟩⟩) wb Wt x W (by kernel_rfl) (h.wait.map.kept hW)
    rw [this, h1]
    simp [hn, Nm.v]
  · refine ⟨⟨0, ⟨#[]⟩⟩, fun W hW => ?_⟩
    have := run_lookup_k (P := Tryz.prog) Tryz.underlying50 (keyLaw_int Tryz.underlying3) (Nm.v ⟨0, ⟨#[]⟩⟩) wb Wt x W (by kernel_rfl) (h.wait.map.kept hW)
    rw [this, findK_nokey hn]
    simp [hn, Nm.v]
theorem TabAt.cells (h : TabAt w B t nb wb turn M E Wt) : w.cell? ⟨t, 0, none⟩ = some (.map (some nb)) ∧ w.cell? ⟨t, 1, none⟩ = some (.map (some wb)) ∧ w.cell? ⟨t, 2, none⟩ = some (.int .i64 turn) := by
  refine ⟨?_, ?_, ?_⟩ <;> exact (cell_of_row w t _ _ _ _ h.wait.tab).trans rfl

set_option maxHeartbeats 1000000 in
set_option maxRecDepth 100000 in
theorem waiting_any (h : TabAt w B t nb wb turn M E Wt) (x : Int) :
    Calls Tryz.prog 12 #[.pointer (some ⟨t, 0, none⟩), .int .i64 x] w fun e w' => e = .returned (.bool (decide (x ∈ keysM Wt))) ∧ Below w.heap.size w w' := by
  obtain ⟨c0, c1, c2⟩ := h.cells
  obtain ⟨n, hl⟩ := h.lookW x
  have hlw := hl w rfl
  clear hl
  go_enter Tryz.func12, Tryz.ntmps12
  go_wp2_with fail
  go_ret
  exact ⟨rfl, (Below.refl _ _).alloc (Nat.le_refl _) _⟩
end
end Go.Proofs.YtileamjmhhifaaaGreat
