/-
  A map with integer keys: delete, len; values that are strings (plain laws on the model's words).
-/
import Derived.Test.YtmbeicijljlejaaStage0
namespace Go.Proofs.Ytmbeicijljlejaa
open Go.RowKit Go.Joins
set_option linter.unusedVariables false
set_option linter.unusedSimpArgs false

/-- delete(m, k), on the list -/
def delI (k : Int) : List (Int × Value) → List (Int × Value)
  | [] => []
  | x :: r => if k = x.1 then r else x :: delI k r
theorem delI_none {k : Int} {M : List (Int × Value)} {i : Nat} (h : findI k M i = none) : delI k M = M := by
  induction M generalizing i with
  | nil => rfl
  | cons y r ih =>
    unfold findI at h
    by_cases hk : k = y.1
    · rw [if_pos hk] at h; cases h
    · rw [if_neg hk] at h
      simp [delI, hk, ih h]
theorem delI_some {k : Int} {M : List (Int × Value)} {i : Nat} {x : Nat × Value} (h : findI k M i = some x) : delI k M = M.eraseIdx (x.1 - i) := by
  induction M generalizing i with
  | nil => cases h
  | cons y r ih =>
    have hl := (findI_lt h).1
    unfold findI at h
    by_cases hk : k = y.1
    · rw [if_pos hk] at h
      cases h
      simp [delI, hk]
    · rw [if_neg hk] at h
      have hl2 := (findI_lt h).1
      rw [show x.1 - i = (x.1 - (i + 1)) + 1 from by omega]
      simp [delI, hk, ih h]
theorem map_erase {α β : Type} (f : α → β) : ∀ (l : List α) (i : Nat), (l.eraseIdx i).map f = (l.map f).eraseIdx i
  | [], _ => rfl
  | _ :: _, 0 => rfl
  | x :: r, i + 1 => by simp [List.eraseIdx, map_erase f r i]

section
variable {P : Program}
/-- a map block loses a key; what is written hangs on the block alone -/
theorem run_delete_int {t kt et : TypeId} (ht : P.underlying t = some (.map kt et)) (hk : P.underlying kt = some (.int .i64)) (b : Nat) (M : List (Int × Value)) (k : Int) (es : Array MapEntry) (clock : Nat) (hM : es.toList.map (fun e => (e.key, e.val)) = M.map fun x => (.int .i64 x.1, x.2)) (hst : MapKept.Stamped es clock) :
    ∃ o, ∀ (w : World) (kt' ty : TypeId), w.heap[b]? = some (.map es clock) → (Builtin.delete_ #[t, kt'] ty #[.map (some b), .int .i64 k]).run P w = .ok (.tuple #[]) (ChangeMaps.setBlock w b o) ∧ IntMap (ChangeMaps.setBlock w b o) b (delI k M) := by
  have hf := fun w => run_findKey_int (P := P) hk k es.toList M w hM
  have hset : ∀ (w : World) (o : Obj), w.heap[b]? = some (.map es clock) → (setObj b o).run P w = .ok () (ChangeMaps.setBlock w b o) := fun w o hb => by
    simp only [setObj, Sem.run, hb]; rfl
  cases hfi : findI k M 0 with
  | none =>
    rw [hfi] at hf
    refine ⟨.map es clock, fun w kt' ty hb => ⟨?_, _, _, ChangeMaps.heap_setBlock_same hb _, ?_, hst⟩⟩
    · have hg : (getObj b).run P w = .ok (.map es clock) w := MapKept.run_getObj_map hb
      unfold Builtin.delete_
      simp [run_underlying ht, hg, run_checkKey_int hk, hf, hset w _ hb]
    · rw [delI_none hfi]
      exact hM
  | some x =>
    rw [hfi] at hf
    refine ⟨.map (es.eraseIdxIfInBounds x.1) clock, fun w kt' ty hb => ⟨?_, _, _, ChangeMaps.heap_setBlock_same hb _, ?_, MapKept.stamped_erase hst _⟩⟩
    · have hg : (getObj b).run P w = .ok (.map es clock) w := MapKept.run_getObj_map hb
      unfold Builtin.delete_
      simp [run_underlying ht, hg, run_checkKey_int hk, hf, hset w _ hb]
    · rw [delI_some hfi, Array.toList_eraseIdxIfInBounds, map_erase, map_erase, hM, Nat.sub_zero]
theorem intMap_size {M : List (Int × Value)} {es : Array MapEntry} (hM : es.toList.map (fun e => (e.key, e.val)) = M.map fun x => (Value.int .i64 x.1, x.2)) : es.size = M.length := by
  have := congrArg List.length hM
  simpa using this
/-- len(m) -/
theorem run_len_int {t kt et : TypeId} (ht : P.underlying t = some (.map kt et)) (b : Nat) (M : List (Int × Value)) (w : World) (h : IntMap w b M) (ty : TypeId) :
    (Builtin.len_ #[t] ty #[.map (some b)]).run P w = .ok (.int .i64 (M.length : Int)) w := by
  obtain ⟨es, clock, hb, hM, -⟩ := h
  have hs := intMap_size hM
  have hg : (getObj b).run P w = .ok (.map es clock) w := MapKept.run_getObj_map hb
  unfold Builtin.len_
  simp [run_underlying ht, hg, goInt, hs]
end

/-! values that are strings -/
abbrev Strs := List (Int × ByteArray)
def strM (A : Strs) : List (Int × Value) := A.map fun x => (x.1, .string x.2)
def finS (k : Int) : Strs → Option ByteArray
  | [] => none
  | x :: r => if k = x.1 then some x.2 else finS k r
def updS (k : Int) (v : ByteArray) : Strs → Strs
  | [] => [(k, v)]
  | x :: r => if k = x.1 then (k, v) :: r else x :: updS k v r
def delS (k : Int) : Strs → Strs
  | [] => []
  | x :: r => if k = x.1 then r else x :: delS k r
theorem findI_str (A : Strs) (k : Int) (i : Nat) : (findI k (strM A) i).map (·.2) = (finS k A).map .string := by
  induction A generalizing i with
  | nil => rfl
  | cons x r ih =>
    have h := ih (i + 1)
    simp only [strM] at h
    simp only [strM, List.map_cons, findI, finS]
    by_cases e : k = x.1
    · simp [e]
    · rw [if_neg e, if_neg e]; exact h
theorem updI_str (A : Strs) (k : Int) (v : ByteArray) : updI k (.string v) (strM A) = strM (updS k v A) := by
  induction A with
  | nil => rfl
  | cons x r ih =>
    simp only [strM] at ih
    simp only [strM, List.map_cons, updI, updS]
    by_cases e : k = x.1
    · rw [if_pos e, if_pos e]; rfl
    · rw [if_neg e, if_neg e, ih]; rfl
theorem delI_str (A : Strs) (k : Int) : delI k (strM A) = strM (delS k A) := by
  induction A with
  | nil => rfl
  | cons x r ih =>
    simp only [strM] at ih
    simp only [strM, List.map_cons, delI, delS]
    by_cases e : k = x.1
    · rw [if_pos e, if_pos e]
    · rw [if_neg e, if_neg e, ih]; rfl
theorem finS_mem {A : Strs} {k : Int} : k ∈ A.map (·.1) ↔ finS k A ≠ none := by
  induction A with
  | nil => simp [finS]
  | cons x r ih =>
    simp only [List.map_cons, List.mem_cons, finS]
    by_cases e : k = x.1
    · rw [if_pos e]; simp [e]
    · rw [if_neg e, ← ih]; simp [e]
theorem finS_upd (A : Strs) (k : Int) (v : ByteArray) (k' : Int) : finS k' (updS k v A) = if k' = k then some v else finS k' A := by
  induction A with
  | nil => rfl
  | cons x r ih =>
    simp only [updS]
    by_cases e : k = x.1
    · rw [if_pos e]
      simp only [finS]
      by_cases e2 : k' = k
      · rw [if_pos e2, if_pos e2]
      · rw [if_neg e2, if_neg e2, if_neg (fun h => e2 (h.trans e.symm))]
    · rw [if_neg e]
      simp only [finS]
      by_cases e2 : k' = x.1
      · rw [if_pos e2, if_pos e2, if_neg (fun h => e (h.symm.trans e2))]
      · rw [if_neg e2, if_neg e2, ih]
theorem keys_upd (A : Strs) (k : Int) (v : ByteArray) : (updS k v A).map (·.1) = if k ∈ A.map (·.1) then A.map (·.1) else A.map (·.1) ++ [k] := by
  induction A with
  | nil => rfl
  | cons x r ih =>
    simp only [updS]
    by_cases e : k = x.1
    · rw [if_pos e, if_pos (by simp [e])]
      simp [e]
    · rw [if_neg e, List.map_cons, ih, List.map_cons]
      by_cases h : k ∈ r.map (·.1)
      · rw [if_pos h, if_pos (List.mem_cons_of_mem _ h)]
      · rw [if_neg h, if_neg (by simp only [List.mem_cons, not_or]; exact ⟨e, h⟩)]; rfl
theorem nodup_upd {A : Strs} (k : Int) (v : ByteArray) (h : (A.map (·.1)).Nodup) : ((updS k v A).map (·.1)).Nodup := by
  rw [keys_upd]
  by_cases hm : k ∈ A.map (·.1)
  · rw [if_pos hm]; exact h
  · rw [if_neg hm]
    refine List.nodup_append.2 ⟨h, by simp, fun a ha b hb e => ?_⟩
    simp only [List.mem_cons, List.not_mem_nil, or_false] at hb
    subst hb e
    exact hm ha
theorem del_sub (A : Strs) (k : Int) : (delS k A).Sublist A := by
  induction A with
  | nil => exact List.Sublist.refl _
  | cons x r ih =>
    simp only [delS]
    by_cases e : k = x.1
    · rw [if_pos e]; exact List.sublist_cons_self _ _
    · rw [if_neg e]; exact ih.cons_cons _
theorem nodup_del {A : Strs} (k : Int) (h : (A.map (·.1)).Nodup) : ((delS k A).map (·.1)).Nodup := ((del_sub A k).map _).nodup h
theorem finS_del {A : Strs} (k : Int) (h : (A.map (·.1)).Nodup) (k' : Int) : finS k' (delS k A) = if k' = k then none else finS k' A := by
  induction A with
  | nil => simp [delS, finS]
  | cons x r ih =>
    rw [List.map_cons, List.nodup_cons] at h
    have h0 := ih h.2
    simp only [delS]
    by_cases e : k = x.1
    · rw [if_pos e]
      simp only [finS]
      by_cases e2 : k' = k
      · rw [if_pos e2, e2]
        by_cases hf : finS k r = none
        · exact hf
        · exact absurd (finS_mem.2 hf) (by rw [e]; exact h.1)
      · rw [if_neg e2, if_neg (fun h => e2 (h.trans e.symm))]
    · rw [if_neg e]
      simp only [finS]
      by_cases e2 : k' = x.1
      · rw [if_pos e2, if_pos e2, if_neg (fun h => e (h.symm.trans e2))]
      · rw [if_neg e2, if_neg e2, h0]
/-- as many keys as another list without doubles has members, if they have the same -/
theorem len_le_of : ∀ (a b : List Int), a.Nodup → (∀ x ∈ a, x ∈ b) → a.length ≤ b.length
  | [], b, _, _ => by simp
  | x :: r, b, h, hm => by
    rw [List.nodup_cons] at h
    have hx := hm x (List.mem_cons_self ..)
    have h1 := len_le_of r (b.erase x) h.2 fun y hy => by
      have hne : y ≠ x := fun e => h.1 (by rw [← e]; exact hy)
      exact (List.mem_erase_of_ne hne).2 (hm y (List.mem_cons_of_mem _ hy))
    have h2 := List.length_erase_of_mem hx
    have h3 := List.length_pos_of_mem hx
    simp only [List.length_cons]
    omega
theorem len_eq_of {a b : List Int} (ha : a.Nodup) (hb : b.Nodup) (h : ∀ x, x ∈ a ↔ x ∈ b) : a.length = b.length :=
  Nat.le_antisymm (len_le_of a b ha fun x hx => (h x).1 hx) (len_le_of b a hb fun x hx => (h x).2 hx)
end Go.Proofs.Ytmbeicijljlejaa
