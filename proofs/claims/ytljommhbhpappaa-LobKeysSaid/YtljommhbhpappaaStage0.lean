/-
  Layer 13 (stage), the ground: a map with integer keys as the call's memory holds it; blocks of sixteen cells (pages). Plain laws on the model's words, over any program.
-/
import Derived.Test.YtljommhbhpappaaChecked
import Derived.WalkKit
import Derived.WalkSpells
import Derived.WalkSmall
import Derived.WalkLawsBesides
import Derived.BigQuiet
import Derived.Deep.QuietTactic
import Derived.Deep.RegionHeld3
import Derived.Lib.Hide
import Derived.Lib.SmallJoins
namespace Go.Proofs.Ytljommhbhpappaa
open Go.RowKit Go.Joins
set_option linter.unusedVariables false
set_option linter.unusedSimpArgs false

/-- a map's entries read as this list of integer keys and values -/
def IntMap (w : World) (b : Nat) (M : List (Int × Value)) : Prop :=
  ∃ es clock, w.heap[b]? = some (.map es clock) ∧ es.toList.map (fun e => (e.key, e.val)) = (M.map fun x => (.int .i64 x.1, x.2)) ∧ MapKept.Stamped es clock

def findI (k : Int) : List (Int × Value) → Nat → Option (Nat × Value)
  | [], _ => none
  | x :: r, i => if k = x.1 then some (i, x.2) else findI k r (i + 1)

theorem findNow_int (k : Int) : ∀ (es : List MapEntry) (M : List (Int × Value)) (i : Nat), es.map (fun e => (e.key, e.val)) = M.map (fun x => (Value.int .i64 x.1, x.2)) →
    Instr.findNow (.int .i64) (.int .i64 k) es i = some (findI k M i)
  | [], [], i, _ => rfl
  | e :: es, x :: M, i, h => by
    simp only [List.map_cons, List.cons.injEq, Prod.mk.injEq] at h
    obtain ⟨⟨h1, h2⟩, h3⟩ := h
    simp only [Instr.findNow, h1, Instr.sameNow, findI, if_true]
    by_cases hk : k = x.1
    · simp [hk, h2]
    · have : (k == x.1) = false := by simp [hk]
      simp only [this, hk, if_false]
      exact findNow_int k es M (i + 1) h3
  | [], _ :: _, _, h => by simp at h
  | _ :: _, [], _, h => by simp at h

section
variable {P : Program}
theorem run_findKey_int {kt : TypeId} (hk : P.underlying kt = some (.int .i64)) (k : Int) (es : List MapEntry) (M : List (Int × Value)) (w : World) (h : es.map (fun e => (e.key, e.val)) = M.map (fun x => (Value.int .i64 x.1, x.2))) :
    (Instr.findKey kt (.int .i64 k) es).run P w = .ok (findI k M 0) w := by
  unfold Instr.findKey
  simp [run_underlying hk, findNow_int k es M 0 h]

theorem run_checkKey_int {kt : TypeId} (hk : P.underlying kt = some (.int .i64)) (b : Bool) (k : Int) (w : World) : (Instr.checkKey b 10000 kt (.int .i64 k)).run P w = .ok () w := by
  unfold Instr.checkKey
  simp [run_underlying hk]

/-- v, ok := m[k] -/
theorem run_lookup_int {t kt et : TypeId} (ht : P.underlying t = some (.map kt et)) (hk : P.underlying kt = some (.int .i64)) (z : Value) (b : Nat) (M : List (Int × Value)) (k : Int) (w : World) (hz : (zeroValue et).run P w = .ok z w) (h : IntMap w b M) :
    (Instr.lookup t (.map (some b)) (.int .i64 k) true).run P w = .ok (match findI k M 0 with | some x => .tuple #[x.2, .bool true] | none => .tuple #[z, .bool false]) w := by
  obtain ⟨es, clock, hb, hM, -⟩ := h
  unfold Instr.lookup
  have hg : (getObj b).run P w = .ok (.map es clock) w := MapKept.run_getObj_map hb
  simp [run_underlying ht, hg, run_checkKey_int hk, run_findKey_int hk k es.toList M w hM]
  cases findI k M 0 with
  | none => simp [hz]
  | some x => simp

/-- m[k] -/
theorem run_lookup1_int {t kt et : TypeId} (ht : P.underlying t = some (.map kt et)) (hk : P.underlying kt = some (.int .i64)) (z : Value) (b : Nat) (M : List (Int × Value)) (k : Int) (w : World) (hz : (zeroValue et).run P w = .ok z w) (h : IntMap w b M) :
    (Instr.lookup t (.map (some b)) (.int .i64 k) false).run P w = .ok (match findI k M 0 with | some x => x.2 | none => z) w := by
  obtain ⟨es, clock, hb, hM, -⟩ := h
  unfold Instr.lookup
  have hg : (getObj b).run P w = .ok (.map es clock) w := MapKept.run_getObj_map hb
  simp [run_underlying ht, hg, run_checkKey_int hk, run_findKey_int hk k es.toList M w hM]
  cases findI k M 0 with
  | none => simp [hz]
  | some x => simp

/-- m[k] = v, on the list -/
def updI (k : Int) (v : Value) : List (Int × Value) → List (Int × Value)
  | [] => [(k, v)]
  | x :: r => if k = x.1 then (k, v) :: r else x :: updI k v r

theorem findI_lt {k : Int} {M : List (Int × Value)} {i : Nat} {x : Nat × Value} (h : findI k M i = some x) : i ≤ x.1 ∧ x.1 < i + M.length ∧ M[x.1 - i]? = some (k, x.2) ∧ (∀ j, i ≤ j → j < x.1 → ∀ y, M[j - i]? = some y → ¬ k = y.1) := by
  induction M generalizing i with
  | nil => cases h
  | cons y r ih =>
    unfold findI at h
    by_cases hk : k = y.1
    · rw [if_pos hk] at h
      cases h
      refine ⟨Nat.le_refl _, by simp, by simp [hk], fun j h1 h2 => by omega⟩
    · rw [if_neg hk] at h
      obtain ⟨h1, h2, h3, h4⟩ := ih h
      refine ⟨by omega, by simp; omega, ?_, fun j hj1 hj2 z hz => ?_⟩
      · rw [show x.1 - i = (x.1 - (i + 1)) + 1 from by omega, List.getElem?_cons_succ]; exact h3
      · by_cases hj : j = i
        · subst hj; simp at hz; rw [← hz]; exact hk
        · rw [show j - i = (j - (i + 1)) + 1 from by omega, List.getElem?_cons_succ] at hz
          exact h4 j (by omega) hj2 z hz

theorem findI_none {k : Int} {M : List (Int × Value)} {i : Nat} (h : findI k M i = none) : ∀ x ∈ M, ¬ k = x.1 := by
  induction M generalizing i with
  | nil => intro x hx; cases hx
  | cons y r ih =>
    unfold findI at h
    by_cases hk : k = y.1
    · rw [if_pos hk] at h; cases h
    · rw [if_neg hk] at h
      intro x hx
      cases List.mem_cons.1 hx with
      | inl e => subst e; exact hk
      | inr e => exact ih h x e
theorem updI_none {k : Int} {v : Value} {M : List (Int × Value)} {i : Nat} (h : findI k M i = none) : updI k v M = M ++ [(k, v)] := by
  induction M generalizing i with
  | nil => rfl
  | cons y r ih =>
    unfold findI at h
    by_cases hk : k = y.1
    · rw [if_pos hk] at h; cases h
    · rw [if_neg hk] at h
      simp [updI, hk, ih h]
theorem updI_some {k : Int} {v : Value} {M : List (Int × Value)} {i : Nat} {x : Nat × Value} (h : findI k M i = some x) : updI k v M = M.set (x.1 - i) (k, v) := by
  induction M generalizing i with
  | nil => cases h
  | cons y r ih =>
    have hl := (findI_lt h).1
    unfold findI at h
    by_cases hk : k = y.1
    · rw [if_pos hk] at h
      cases h
      simp [updI, hk]
    · rw [if_neg hk] at h
      have hl2 := (findI_lt h).1
      rw [show x.1 - i = (x.1 - (i + 1)) + 1 from by omega]
      simp [updI, hk, ih h]

/-- a map block is written; what is written hangs on the block alone -/
theorem run_mapUpdate_int {t kt et : TypeId} (ht : P.underlying t = some (.map kt et)) (hk : P.underlying kt = some (.int .i64)) (v : Value) (b : Nat) (M : List (Int × Value)) (k : Int) (es : Array MapEntry) (clock : Nat) (hM : es.toList.map (fun e => (e.key, e.val)) = M.map fun x => (.int .i64 x.1, x.2)) (hst : MapKept.Stamped es clock) :
    ∃ o, ∀ w : World, w.heap[b]? = some (.map es clock) → (Instr.mapUpdate t (.map (some b)) (.int .i64 k) v).run P w = .ok () (ChangeMaps.setBlock w b o) ∧ IntMap (ChangeMaps.setBlock w b o) b (updI k v M) := by
  have hf := fun w => run_findKey_int (P := P) hk k es.toList M w hM
  have hset : ∀ (w : World) (o : Obj), w.heap[b]? = some (.map es clock) → (setObj b o).run P w = .ok () (ChangeMaps.setBlock w b o) := fun w o hb => by
    simp only [setObj, Sem.run, hb]; rfl
  cases hfi : findI k M 0 with
  | none =>
    rw [hfi] at hf
    refine ⟨.map (es.push { key := .int .i64 k, val := v, born := clock }) (clock + 1), fun w hb => ⟨?_, _, _, ChangeMaps.heap_setBlock_same hb _, ?_, ?_⟩⟩
    · have hg : (getObj b).run P w = .ok (.map es clock) w := MapKept.run_getObj_map hb
      unfold Instr.mapUpdate
      simp [run_underlying ht, hg, run_checkKey_int hk, hf, hset w _ hb]
    · rw [updI_none hfi]
      simp [hM]
    · refine MapKept.stamped_push hst fun x hx e => ?_
      have hmem : (x.key, x.val) ∈ es.toList.map (fun e => (e.key, e.val)) := List.mem_map.2 ⟨x, hx, rfl⟩
      rw [hM] at hmem
      obtain ⟨y, hy, he⟩ := List.mem_map.1 hmem
      have h1 := findI_none hfi y hy
      have h2 := congrArg (·.1) he
      simp only [e, Value.int.injEq, true_and] at h2
      exact h1 h2.symm
  | some x =>
    rw [hfi] at hf
    obtain ⟨h1, h2, h3, h4⟩ := findI_lt hfi
    have hes : x.1 < es.size := by
      have := congrArg List.length hM
      simp at this; omega
    have hkey : es[x.1].key = .int .i64 k := by
      have h5 := congrArg (fun l => l[x.1]?) hM
      simp only [List.getElem?_map] at h5
      rw [show x.1 - 0 = x.1 from by omega] at h3
      rw [h3] at h5
      simp [hes] at h5
      exact h5.1
    refine ⟨.map (es.modify x.1 fun e => { e with key := .int .i64 k, val := v }) clock, fun w hb => ⟨?_, _, _, ChangeMaps.heap_setBlock_same hb _, ?_, ?_⟩⟩
    · have hg : (getObj b).run P w = .ok (.map es clock) w := MapKept.run_getObj_map hb
      unfold Instr.mapUpdate
      simp [run_underlying ht, hg, run_checkKey_int hk, hf, hset w _ hb, hes, hkey, Instr.keyThatStays, Instr.sameBits]
    · rw [updI_some hfi]
      apply List.ext_getElem?
      intro j
      have h5 := congrArg (fun l => l[j]?) hM
      simp only [List.getElem?_map] at h5
      simp only [List.getElem?_map, Array.getElem?_toList, Array.getElem?_modify, Nat.sub_zero, List.getElem?_set] at h5 ⊢
      by_cases hj : x.1 = j
      · subst hj
        simp [hes]
        have : x.1 < M.length := by omega
        simp [this]
      · simp [hj, h5]
    · refine MapKept.stamped_modify hst _ _ (fun e he => rfl) fun e he hi => ?_
      have h6 : es[x.1]? = some es[x.1] := Array.getElem?_eq_getElem hes
      rw [h6] at hi
      cases hi
      exact hkey.symm
end
end Go.Proofs.Ytljommhbhpappaa
