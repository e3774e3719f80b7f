/-
  Several texts in one: IntDel, Heap23, Heap24.
-/
import Derived.Test.YthehglhbgplfhaaStage0
import Derived.Test.YthehglhbgplfhaaHeap14
import Derived.Test.YthehglhbgplfhaaHeap19
namespace Go.Proofs.Ythehglhbgplfhaa
open Go.RowKit Go.Joins
set_option linter.unusedVariables false
set_option linter.unusedSimpArgs false

/-! A map with integer keys: delete, len; values that are strings (plain laws on the model's words). -/

/-- delete(m, k), on the list -/
def delI (k : Int) : List (Int × Value) → List (Int × Value)
  | [] => []
  | x :: r => if k = x.1 then r else x :: delI k r
theorem delI_none {k : Int} {M : List (Int × Value)} {i : Nat} (h : findI k M i = none) : delI k M = M := by
  induction M generalizing i with
  | nil => rfl
  | cons y r ih =>
    unfold findI at h
    by_cases hk : k = y.1
    · rw [if_pos hk] at h; cases h
    · rw [if_neg hk] at h
      simp [delI, hk, ih h]
theorem delI_some {k : Int} {M : List (Int × Value)} {i : Nat} {x : Nat × Value} (h : findI k M i = some x) : delI k M = M.eraseIdx (x.1 - i) := by
  induction M generalizing i with
  | nil => cases h
  | cons y r ih =>
    have hl := (findI_lt h).1
    unfold findI at h
    by_cases hk : k = y.1
    · rw [if_pos hk] at h
      cases h
      simp [delI, hk]
    · rw [if_neg hk] at h
      have hl2 := (findI_lt h).1
      rw [show x.1 - i = (x.1 - (i + 1)) + 1 from by omega]
      simp [delI, hk, ih h]
theorem map_erase {α β : Type} (f : α → β) : ∀ (l : List α) (i : Nat), (l.eraseIdx i).map f = (l.map f).eraseIdx i
  | [], _ => rfl
  | _ :: _, 0 => rfl
  | x :: r, i + 1 => by simp [List.eraseIdx, map_erase f r i]

section
variable {P : Program}
/-- a map block loses a key; what is written hangs on the block alone -/
theorem run_delete_int {t kt et : TypeId} (ht : P.underlying t = some (.map kt et)) (hk : P.underlying kt = some (.int .i64)) (b : Nat) (M : List (Int × Value)) (k : Int) (es : Array MapEntry) (clock : Nat) (hM : es.toList.map (fun e => (e.key, e.val)) = M.map fun x => (.int .i64 x.1, x.2)) (hst : MapKept.Stamped es clock) :
    ∃ o, ∀ (w : World) (kt' ty : TypeId), w.heap[b]? = some (.map es clock) → (Builtin.delete_ #[t, kt'] ty #[.map (some b), .int .i64 k]).run P w = .ok (.tuple #[]) (ChangeMaps.setBlock w b o) ∧ IntMap (ChangeMaps.setBlock w b o) b (delI k M) := by
  have hf := fun w => run_findKey_int (P := P) hk k es.toList M w hM
  have hset : ∀ (w : World) (o : Obj), w.heap[b]? = some (.map es clock) → (setObj b o).run P w = .ok () (ChangeMaps.setBlock w b o) := fun w o hb => by
    simp only [setObj, Sem.run, hb]; rfl
  cases hfi : findI k M 0 with
  | none =>
    rw [hfi] at hf
    refine ⟨.map es clock, fun w kt' ty hb => ⟨?_, _, _, ChangeMaps.heap_setBlock_same hb _, ?_, hst⟩⟩
    · have hg : (getObj b).run P w = .ok (.map es clock) w := MapKept.run_getObj_map hb
      unfold Builtin.delete_
      simp [run_underlying ht, hg, run_checkKey_int hk, hf, hset w _ hb]
    · rw [delI_none hfi]
      exact hM
  | some x =>
    rw [hfi] at hf
    refine ⟨.map (es.eraseIdxIfInBounds x.1) clock, fun w kt' ty hb => ⟨?_, _, _, ChangeMaps.heap_setBlock_same hb _, ?_, MapKept.stamped_erase hst _⟩⟩
    · have hg : (getObj b).run P w = .ok (.map es clock) w := MapKept.run_getObj_map hb
      unfold Builtin.delete_
      simp [run_underlying ht, hg, run_checkKey_int hk, hf, hset w _ hb]
    · rw [delI_some hfi, Array.toList_eraseIdxIfInBounds, map_erase, map_erase, hM, Nat.sub_zero]
theorem intMap_size {M : List (Int × Value)} {es : Array MapEntry} (hM : es.toList.map (fun e => (e.key, e.val)) = M.map fun x => (Value.int .i64 x.1, x.2)) : es.size = M.length := by
  have := congrArg List.length hM
  simpa using this
/-- len(m) -/
theorem run_len_int {t kt et : TypeId} (ht : P.underlying t = some (.map kt et)) (b : Nat) (M : List (Int × Value)) (w : World) (h : IntMap w b M) (ty : TypeId) :
    (Builtin.len_ #[t] ty #[.map (some b)]).run P w = .ok (.int .i64 (M.length : Int)) w := by
  obtain ⟨es, clock, hb, hM, -⟩ := h
  have hs := intMap_size hM
  have hg : (getObj b).run P w = .ok (.map es clock) w := MapKept.run_getObj_map hb
  unfold Builtin.len_
  simp [run_underlying ht, hg, goInt, hs]
end

/-! values that are strings -/
abbrev Strs := List (Int × ByteArray)
def strM (A : Strs) : List (Int × Value) := A.map fun x => (x.1, .string x.2)
def finS (k : Int) : Strs → Option ByteArray
  | [] => none
  | x :: r => if k = x.1 then some x.2 else finS k r
def updS (k : Int) (v : ByteArray) : Strs → Strs
  | [] => [(k, v)]
  | x :: r => if k = x.1 then (k, v) :: r else x :: updS k v r
def delS (k : Int) : Strs → Strs
  | [] => []
  | x :: r => if k = x.1 then r else x :: delS k r
theorem findI_str (A : Strs) (k : Int) (i : Nat) : (findI k (strM A) i).map (·.2) = (finS k A).map .string := by
  induction A generalizing i with
  | nil => rfl
  | cons x r ih =>
    have h := ih (i + 1)
    simp only [strM] at h
    simp only [strM, List.map_cons, findI, finS]
    by_cases e : k = x.1
    · simp [e]
    · rw [if_neg e, if_neg e]; exact h
theorem updI_str (A : Strs) (k : Int) (v : ByteArray) : updI k (.string v) (strM A) = strM (updS k v A) := by
  induction A with
  | nil => rfl
  | cons x r ih =>
    simp only [strM] at ih
    simp only [strM, List.map_cons, updI, updS]
    by_cases e : k = x.1
    · rw [if_pos e, if_pos e]; rfl
    · rw [if_neg e, if_neg e, ih]; rfl
theorem delI_str (A : Strs) (k : Int) : delI k (strM A) = strM (delS k A) := by
  induction A with
  | nil => rfl
  | cons x r ih =>
    simp only [strM] at ih
    simp only [strM, List.map_cons, delI, delS]
    by_cases e : k = x.1
    · rw [if_pos e, if_pos e]
    · rw [if_neg e, if_neg e, ih]; rfl
theorem finS_mem {A : Strs} {k : Int} : k ∈ A.map (·.1) ↔ finS k A ≠ none := by
  induction A with
  | nil => simp [finS]
  | cons x r ih =>
    simp only [List.map_cons, List.mem_cons, finS]
    by_cases e : k = x.1
    · rw [if_pos e]; simp [e]
    · rw [if_neg e, ← ih]; simp [e]
theorem finS_upd (A : Strs) (k : Int) (v : ByteArray) (k' : Int) : finS k' (updS k v A) = if k' = k then some v else finS k' A := by
  induction A with
  | nil => rfl
  | cons x r ih =>
    simp only [updS]
    by_cases e : k = x.1
    · rw [if_pos e]
      simp only [finS]
      by_cases e2 : k' = k
      · rw [if_pos e2, if_pos e2]
      · rw [if_neg e2, if_neg e2, if_neg (fun h => e2 (h.trans e.symm))]
    · rw [if_neg e]
      simp only [finS]
      by_cases e2 : k' = x.1
      · rw [if_pos e2, if_pos e2, if_neg (fun h => e (h.symm.trans e2))]
      · rw [if_neg e2, if_neg e2, ih]
theorem keys_upd (A : Strs) (k : Int) (v : ByteArray) : (updS k v A).map (·.1) = if k ∈ A.map (·.1) then A.map (·.1) else A.map (·.1) ++ [k] := by
  induction A with
  | nil => rfl
  | cons x r ih =>
    simp only [updS]
    by_cases e : k = x.1
    · rw [if_pos e, if_pos (by simp [e])]
      simp [e]
    · rw [if_neg e, List.map_cons, ih, List.map_cons]
      by_cases h : k ∈ r.map (·.1)
      · rw [if_pos h, if_pos (List.mem_cons_of_mem _ h)]
      · rw [if_neg h, if_neg (by simp only [List.mem_cons, not_or]; exact ⟨e, h⟩)]; rfl
theorem nodup_upd {A : Strs} (k : Int) (v : ByteArray) (h : (A.map (·.1)).Nodup) : ((updS k v A).map (·.1)).Nodup := by
  rw [keys_upd]
  by_cases hm : k ∈ A.map (·.1)
  · rw [if_pos hm]; exact h
  · rw [if_neg hm]
    refine List.nodup_append.2 ⟨h, by simp, fun a ha b hb e => ?_⟩
    simp only [List.mem_cons, List.not_mem_nil, or_false] at hb
    subst hb e
    exact hm ha
theorem del_sub (A : Strs) (k : Int) : (delS k A).Sublist A := by
  induction A with
  | nil => exact List.Sublist.refl _
  | cons x r ih =>
    simp only [delS]
    by_cases e : k = x.1
    · rw [if_pos e]; exact List.sublist_cons_self _ _
    · rw [if_neg e]; exact ih.cons_cons _
theorem nodup_del {A : Strs} (k : Int) (h : (A.map (·.1)).Nodup) : ((delS k A).map (·.1)).Nodup := ((del_sub A k).map _).nodup h
theorem finS_del {A : Strs} (k : Int) (h : (A.map (·.1)).Nodup) (k' : Int) : finS k' (delS k A) = if k' = k then none else finS k' A := by
  induction A with
  | nil => simp [delS, finS]
  | cons x r ih =>
    rw [List.map_cons, List.nodup_cons] at h
    have h0 := ih h.2
    simp only [delS]
    by_cases e : k = x.1
    · rw [if_pos e]
      simp only [finS]
      by_cases e2 : k' = k
      · rw [if_pos e2, e2]
        by_cases hf : finS k r = none
        · exact hf
        · exact absurd (finS_mem.2 hf) (by rw [e]; exact h.1)
      · rw [if_neg e2, if_neg (fun h => e2 (h.trans e.symm))]
    · rw [if_neg e]
      simp only [finS]
      by_cases e2 : k' = x.1
      · rw [if_pos e2, if_pos e2, if_neg (fun h => e (h.symm.trans e2))]
      · rw [if_neg e2, if_neg e2, h0]
/-- as many keys as another list without doubles has members, if they have the same -/
theorem len_le_of : ∀ (a b : List Int), a.Nodup → (∀ x ∈ a, x ∈ b) → a.length ≤ b.length
  | [], b, _, _ => by simp
  | x :: r, b, h, hm => by
    rw [List.nodup_cons] at h
    have hx := hm x (List.mem_cons_self ..)
    have h1 := len_le_of r (b.erase x) h.2 fun y hy => by
      have hne : y ≠ x := fun e => h.1 (by rw [← e]; exact hy)
      exact (List.mem_erase_of_ne hne).2 (hm y (List.mem_cons_of_mem _ hy))
    have h2 := List.length_erase_of_mem hx
    have h3 := List.length_pos_of_mem hx
    simp only [List.length_cons]
    omega
theorem len_eq_of {a b : List Int} (ha : a.Nodup) (hb : b.Nodup) (h : ∀ x, x ∈ a ↔ x ∈ b) : a.length = b.length :=
  Nat.le_antisymm (len_le_of a b ha fun x hx => (h x).1 hx) (len_le_of b a hb fun x hx => (h x).2 hx)

/-! Layer 15 (heap): a heap as a map from ids to records: what each call does to it. -/

/-- the record of that id -/
def atC (C : List Pg) (id : Int) : Option ByteArray :=
  if 16 ≤ id ∧ id % 8 < 6 ∧ cellA C (id / 8 - 2).toNat (id % 8).toNat = 1 then some (cellD C (id / 8 - 2).toNat (id % 8).toNat) else none
theorem id_parts (k i : Nat) (hi : i < 6) : ((((2 + k : Nat) : Int) * 8 + (i : Int)) / 8 - 2).toNat = k ∧ ((((2 + k : Nat) : Int) * 8 + (i : Int)) % 8).toNat = i ∧ (((2 + k : Nat) : Int) * 8 + (i : Int)) % 8 < 6 ∧ 16 ≤ ((2 + k : Nat) : Int) * 8 + (i : Int) := by omega
theorem atC_cell (C : List Pg) (k i : Nat) (hi : i < 6) : atC C (((2 + k : Nat) : Int) * 8 + (i : Int)) = if cellA C k i = 1 then some (cellD C k i) else none := by
  obtain ⟨h1, h2, h3, h4⟩ := id_parts k i hi
  rw [atC, h1, h2]
  by_cases e : cellA C k i = 1
  · rw [if_pos ⟨h4, h3, e⟩, if_pos e]
  · rw [if_neg (fun h => e h.2.2), if_neg e]
theorem atC_some {C : List Pg} {id : Int} {d : ByteArray} (h : atC C id = some d) : ∃ k i : Nat, i < 6 ∧ k < C.length ∧ id = ((2 + k : Nat) : Int) * 8 + (i : Int) ∧ cellA C k i = 1 ∧ cellD C k i = d := by
  rw [atC] at h
  split at h
  · next h0 =>
    refine ⟨(id / 8 - 2).toNat, (id % 8).toNat, by omega, ?_, by omega, h0.2.2, Option.some.inj h⟩
    by_cases hk : (id / 8 - 2).toNat < C.length
    · exact hk
    · have h1 := h0.2.2
      have hi : (id % 8).toNat < 6 := by omega
      generalize (id % 8).toNat = i at *
      rw [cellA, List.getD_eq_getElem?_getD, List.getElem?_eq_none (by omega)] at h1
      have hz : freshH.a i = 0 := by
        rcases i with _ | _ | _ | _ | _ | _ | i
        all_goals first | rfl | omega
      rw [show (none : Option Pg).getD freshH = freshH from rfl, hz] at h1
      omega
  · cases h
theorem atC_hit {C : List Pg} {id : Int} {k : Nat} (hk : k < C.length) (h : hitB (2 + k) C[k] id = true) : atC C id = some (C[k].d (id % 8).toNat) := by
  obtain ⟨f1, f2, f3, f4⟩ := hit_facts h
  have e : (id / 8 - 2).toNat = k := by omega
  rw [atC, e, cellA_lt hk, cellD_lt hk, if_pos ⟨by omega, f3, f4⟩]
theorem atC_miss {C : List Pg} {id : Int} (h : ∀ k (hk : k < C.length), hitB (2 + k) C[k] id = false) : atC C id = none := by
  cases ha : atC C id with
  | none => rfl
  | some d =>
    obtain ⟨k, i, hi, hk, rfl, h1, h2⟩ := atC_some ha
    have h3 := h k hk
    rw [cellA_lt hk] at h1
    have h4 := hit_at (2 + k) i C[k] hi h1
    rw [show (((2 + k) * 8 + i : Nat) : Int) = ((2 + k : Nat) : Int) * 8 + (i : Int) from by omega] at h4
    rw [h4] at h3; cases h3
/-- one cell is otherwise -/
theorem atC_step {C C' : List Pg} {k i : Nat} {x : Int} {y : ByteArray} (hi : i < 6) (h : ∀ k' i', i' < 6 → cellA C' k' i' = (if k' = k ∧ i' = i then x else cellA C k' i') ∧ cellD C' k' i' = (if k' = k ∧ i' = i then y else cellD C k' i')) (id : Int) :
    atC C' id = if id = ((2 + k : Nat) : Int) * 8 + (i : Int) then (if x = 1 then some y else none) else atC C id := by
  by_cases e : id = ((2 + k : Nat) : Int) * 8 + (i : Int)
  · have h1 := h k i hi
    rw [if_pos ⟨rfl, rfl⟩, if_pos ⟨rfl, rfl⟩] at h1
    rw [if_pos e, e, atC_cell C' k i hi, h1.1, h1.2]
  · rw [if_neg e, atC, atC]
    by_cases h0 : 16 ≤ id ∧ id % 8 < 6
    · have hne : ¬ ((id / 8 - 2).toNat = k ∧ (id % 8).toNat = i) := by omega
      have h1 := h (id / 8 - 2).toNat (id % 8).toNat (by omega)
      rw [if_neg hne, if_neg hne] at h1
      rw [h1.1, h1.2]
    · rw [if_neg (fun h => h0 ⟨h.1, h.2.1⟩), if_neg (fun h => h0 ⟨h.1, h.2.1⟩)]
theorem atC_rec {C : List Pg} {x : Int × ByteArray} (hx : x ∈ recs 2 C) : atC C x.1 = some x.2 := by
  obtain ⟨k, hk, i, hi, ha, rfl⟩ := recs_mem hx
  show atC C (((2 + k) * 8 + i : Nat) : Int) = some (C[k].d i)
  rw [show (((2 + k) * 8 + i : Nat) : Int) = ((2 + k : Nat) : Int) * 8 + (i : Int) from by omega, atC_cell C k i hi, cellA_lt hk, cellD_lt hk, if_pos ha]

/-- the law's own map and the heap tell the same -/
structure NowIs (A : Strs) (C : List Pg) : Prop where
  keys : (A.map (·.1)).Nodup
  same : ∀ id, finS id A = atC C id
theorem NowIs.nil : NowIs [] [freshH] := by
  refine ⟨List.nodup_nil, fun id => ?_⟩
  cases h : atC [freshH] id with
  | none => rfl
  | some d =>
    obtain ⟨k, i, hi, hk, -, h1, -⟩ := atC_some h
    have : k = 0 := by simpa using hk
    subst this
    rw [cellA_lt hk] at h1
    have hz : freshH.a i = 0 := by
      rcases i with _ | _ | _ | _ | _ | _ | i
      all_goals first | rfl | omega
    have h2 : freshH.a i = 1 := h1
    omega
theorem NowIs.upd {A : Strs} {C C' : List Pg} (h : NowIs A C) {k : Int} {v : ByteArray} (hs : ∀ id, atC C' id = if id = k then some v else atC C id) : NowIs (updS k v A) C' :=
  ⟨nodup_upd k v h.keys, fun id => by rw [finS_upd, hs, h.same]⟩
theorem NowIs.del {A : Strs} {C C' : List Pg} (h : NowIs A C) {k : Int} (hs : ∀ id, atC C' id = if id = k then none else atC C id) : NowIs (delS k A) C' :=
  ⟨nodup_del k h.keys, fun id => by rw [finS_del k h.keys, hs, h.same]⟩
theorem NowIs.len {A : Strs} {C : List Pg} (h : NowIs A C) : A.length = (recs 2 C).length := by
  have hb : ((recs 2 C).map (·.1)).Nodup := by
    have h1 : ((recs 2 C).map (·.1)).Pairwise (· < ·) := by rw [List.pairwise_map]; exact recs_rise 2 C
    exact h1.imp fun h => by omega
  have := len_eq_of h.keys hb fun x => by
    rw [finS_mem, h.same]
    constructor
    · intro hx
      cases hd : atC C x with
      | none => exact absurd hd hx
      | some d =>
        obtain ⟨k, i, hi, hk, rfl, h1, h2⟩ := atC_some hd
        rw [cellA_lt hk] at h1
        have h4 := hit_at (2 + k) i C[k] hi h1
        refine (recs_ids C _).2 ⟨(2 + k) * 8 + i, by omega, (hitC_iff C _).2 ⟨k, hk, h4⟩⟩
    · intro hx
      obtain ⟨y, hy, rfl⟩ := List.mem_map.1 hx
      rw [atC_rec hy]; simp
  simpa using this

/-! the calls -/
theorem InsPost.at' {S S5 : Vol} {n N : Nat} {C C' : List Pg} {zs : List Int} {len : Nat} {val : ByteArray} {u : Un} {b mb hb pb k i : Nat} {w w1 : World} (h : InsPost S n N C C' zs len val u b mb hb pb S5 k i w w1) :
    atC C (((2 + k : Nat) : Int) * 8 + (i : Int)) = none ∧ ∀ id, atC C' id = if id = ((2 + k : Nat) : Int) * 8 + (i : Int) then some val else atC C id := by
  refine ⟨?_, fun id => ?_⟩
  · rw [atC_cell C k i h.six, if_neg h.fresh]
  · have := atC_step h.six h.cells id
    rwa [if_pos rfl] at this
theorem update_now {S : Vol} {n N : Nat} {C : List Pg} (hc : Clean S n N C) (b mb hb pb : Nat) (id : Int) (hid : id < 9223372036854775808) (val : ByteArray) (w : World) (hs : StageAt w b mb hb pb S) :
    Calls Try.prog 34 #[.pointer (some ⟨b, 0, none⟩), .int .i64 1, .int .i64 id, .string val] w fun r w1 =>
      (∃ (u : Un) (S5 : Vol) (C' : List Pg) (d : ByteArray), r = .returned (.tuple #[u.v, .int .i64 0]) ∧ OpPost S n N C C' u 0 b mb hb pb S5 w w1 ∧ atC C id = some d ∧ ∀ id', atC C' id' = if id' = id then some val else atC C id') ∨
      (∃ (u : Un) (S5 : Vol), r = .returned (.tuple #[u.v, .int .i64 2]) ∧ OpPost S n N C C u 2 b mb hb pb S5 w w1) ∨
      (∃ (u : Un) (S5 : Vol), r = .returned (.tuple #[u.v, .int .i64 150]) ∧ OpPost S n N C C u 150 b mb hb pb S5 w w1 ∧ atC C id = none) := by
  by_cases hv : 32 < val.size
  · refine (update_long _ _ _ val hv w).mono ?_
    rintro r w1 ⟨rfl, hb1⟩
    exact .inr (.inl ⟨Un.zero, S, rfl, OpPost.none' (e := 2) hc (by omega) (grown_of_below hb1 _) (hs.below hb1 hs.lt) rfl hc.fit⟩)
  · by_cases hhit : ∃ k, ∃ hk : k < C.length, hitB (2 + k) C[k] id = true
    · obtain ⟨k, hk, hhit⟩ := hhit
      obtain ⟨f1, f2, f3, f4⟩ := hit_facts hhit
      refine (update_hit hc.heap b mb hb pb id hid k hk hhit val (by omega) w hs).mono ?_
      rintro r w1 ⟨rfl, hg, hs1⟩
      refine .inl ⟨_, _, _, _, rfl, OpPost.set (C := C) hc.heap hc.fit hc.le (SameC.refl C) (Nat.le_refl _) k hk (id % 8).toNat (by omega) 1 val (by simp [okC]; omega) rfl rfl (by show id % 8 = _; omega) (by rw [undoOf, getD_get hk]) (by rw [undoOf, getD_get hk]) hg hs1, atC_hit hk hhit, fun id' => ?_⟩
      have h2 := atC_step (C := C) (i := (id % 8).toNat) (by omega) (fun k' i' hi' => cell_set hk (id % 8).toNat (by omega) 1 val k' i' hi') id'
      rw [if_pos rfl, show ((2 + k : Nat) : Int) * 8 + ((id % 8).toNat : Int) = id from by omega] at h2
      exact h2
    · have hno : ∀ k (h : k < C.length), hitB (2 + k) C[k] id = false := fun k h => by
        cases hq : hitB (2 + k) C[k] id with
        | false => rfl
        | true => exact absurd ⟨k, h, hq⟩ hhit
      refine (update_miss hc.heap b mb hb pb id hid hno val (by omega) w hs).mono ?_
      rintro r w1 ⟨rfl, hb1⟩
      exact .inr (.inr ⟨Un.zero, S, rfl, OpPost.none' (e := 150) hc (by omega) (grown_of_below hb1 _) (hs.below hb1 hs.lt) rfl hc.fit, atC_miss hno⟩)
theorem delete_now {S : Vol} {n N : Nat} {C : List Pg} (hc : Clean S n N C) (b mb hb pb : Nat) (id : Int) (hid : id < 9223372036854775808) (w : World) (hs : StageAt w b mb hb pb S) :
    Calls Try.prog 35 #[.pointer (some ⟨b, 0, none⟩), .int .i64 1, .int .i64 id] w fun r w1 =>
      (∃ (u : Un) (S5 : Vol) (C' : List Pg) (d : ByteArray), r = .returned (.tuple #[u.v, .int .i64 0]) ∧ OpPost S n N C C' u 0 b mb hb pb S5 w w1 ∧ atC C id = some d ∧ ∀ id', atC C' id' = if id' = id then none else atC C id') ∨
      (∃ (u : Un) (S5 : Vol), r = .returned (.tuple #[u.v, .int .i64 150]) ∧ OpPost S n N C C u 150 b mb hb pb S5 w w1 ∧ atC C id = none) := by
  by_cases hhit : ∃ k, ∃ hk : k < C.length, hitB (2 + k) C[k] id = true
  · obtain ⟨k, hk, hhit⟩ := hhit
    obtain ⟨f1, f2, f3, f4⟩ := hit_facts hhit
    have hi : (id % 8).toNat < 6 := by omega
    have hok2 : okC 2 (C[k].d (id % 8).toNat) = true := by
      have h3 := okC_cell hc.heap k hk _ hi
      simp only [okC, Bool.and_eq_true, decide_eq_true_eq] at h3
      simp [okC, h3.1.2]
    refine (delete_hit hc.heap b mb hb pb id hid k hk hhit w hs).mono ?_
    rintro r w1 ⟨rfl, hg, hs1⟩
    refine .inl ⟨_, _, _, _, rfl, OpPost.set (C := C) hc.heap hc.fit hc.le (SameC.refl C) (Nat.le_refl _) k hk (id % 8).toNat hi 2 _ hok2 rfl rfl (by show id % 8 = _; omega) (by rw [undoOf, getD_get hk]) (by rw [undoOf, getD_get hk]) hg hs1, atC_hit hk hhit, fun id' => ?_⟩
    have h2 := atC_step (C := C) (i := (id % 8).toNat) (by omega) (fun k' i' hi' => cell_set hk (id % 8).toNat (by omega) 2 (C[k].d (id % 8).toNat) k' i' hi') id'
    have h12 : ¬ (2 : Int) = 1 := by omega
    rw [if_neg h12, show ((2 + k : Nat) : Int) * 8 + ((id % 8).toNat : Int) = id from by omega] at h2
    exact h2
  · have hno : ∀ k (h : k < C.length), hitB (2 + k) C[k] id = false := fun k h => by
      cases hq : hitB (2 + k) C[k] id with
      | false => rfl
      | true => exact absurd ⟨k, h, hq⟩ hhit
    refine (delete_miss hc.heap b mb hb pb id hid hno w hs).mono ?_
    rintro r w1 ⟨rfl, hb1⟩
    exact .inr ⟨Un.zero, S, rfl, OpPost.none' (e := 150) hc (by omega) (grown_of_below hb1 _) (hs.below hb1 hs.lt) rfl hc.fit, atC_miss hno⟩
theorem read_now {S : Vol} {n : Nat} {C : List Pg} (hh : HeapOk S n C) (b mb hb pb : Nat) (id : Int) (hid : id < 9223372036854775808) (w : World) (hs : StageAt w b mb hb pb S) :
    Calls Try.prog 33 #[.pointer (some ⟨b, 0, none⟩), .int .i64 1, .int .i64 id] w fun e w' => Below w.heap.size w w' ∧
      ((∃ d, atC C id = some d ∧ e = .returned (.tuple #[.string d, .int .i64 0])) ∨ (atC C id = none ∧ e = .returned (.tuple #[.string ⟨#[]⟩, .int .i64 150]))) := by
  refine (read_any hh b mb hb pb id hid w hs).mono ?_
  rintro e w' ⟨hb1, ⟨k, hk, h, rfl⟩ | ⟨hno, rfl⟩⟩
  · exact ⟨hb1, .inl ⟨_, atC_hit hk h, rfl⟩⟩
  · exact ⟨hb1, .inr ⟨atC_miss hno, rfl⟩⟩

/-! the law's map beside the stage -/
theorem zeroStr (w : World) : (zeroValue 9).run Try.prog w = .ok (.string ⟨#[]⟩) w := by kernel_rfl
theorem run_newNow (w : World) : (Instr.makeMap 76 none).run Try.prog w = .ok (.map (some w.heap.size)) (w.alloc (.map #[] 0)) := by kernel_rfl
theorem now_has {w : World} {fb : Nat} {A : Strs} (h : IntMap w fb (strM A)) {id : Int} {d : ByteArray} (hd : finS id A = some d) :
    (Instr.lookup 76 (.map (some fb)) (.int .i64 id) true).run Try.prog w = .ok (.tuple #[.string d, .bool true]) w ∧ (Instr.lookup 76 (.map (some fb)) (.int .i64 id) false).run Try.prog w = .ok (.string d) w := by
  rw [run_lookup_int Try.underlying76 Try.underlying3 _ fb _ id _ (zeroStr _) h, run_lookup1_int Try.underlying76 Try.underlying3 _ fb _ id _ (zeroStr _) h]
  have e := findI_str A id 0
  rw [hd] at e
  cases hf : findI id (strM A) 0 with
  | none => rw [hf] at e; cases e
  | some x =>
    rw [hf] at e
    simp only [Option.map_some, Option.some.injEq] at e
    simp [e]
theorem now_not {w : World} {fb : Nat} {A : Strs} (h : IntMap w fb (strM A)) {id : Int} (hd : finS id A = none) :
    (Instr.lookup 76 (.map (some fb)) (.int .i64 id) true).run Try.prog w = .ok (.tuple #[.string ⟨#[]⟩, .bool false]) w ∧ (Instr.lookup 76 (.map (some fb)) (.int .i64 id) false).run Try.prog w = .ok (.string ⟨#[]⟩) w := by
  rw [run_lookup_int Try.underlying76 Try.underlying3 _ fb _ id _ (zeroStr _) h, run_lookup1_int Try.underlying76 Try.underlying3 _ fb _ id _ (zeroStr _) h]
  have e := findI_str A id 0
  rw [hd] at e
  cases hf : findI id (strM A) 0 with
  | none => exact ⟨rfl, rfl⟩
  | some x => rw [hf] at e; cases e
theorem IntMap.poked {w w' : World} {cs : List Nat} {b : Nat} {M : List (Int × Value)} (h : IntMap w b M) (hp : Poked cs w w') (hc : b ∉ cs) : IntMap w' b M := by
  obtain ⟨es, c, h1, h2⟩ := h
  exact ⟨es, c, (hp.block b (Array.getElem?_eq_some_iff.1 h1).1 hc).trans h1, h2⟩
theorem IntMap.below {w w' : World} {b : Nat} {M : List (Int × Value)} (h : IntMap w b M) (hp : Below w.heap.size w w') : IntMap w' b M := h.poked (Poked.of_below (cs := []) hp) (by simp)
theorem IntMap.grown {w w' : World} {b q : Nat} {M : List (Int × Value)} (h : IntMap w b M) (hg : w.grownBy w' (some q)) (hc : b ≠ q) : IntMap w' b M := h.poked (Poked.of_grown (cs := [q]) hg (by simp)) (by simpa using hc)
/-- a heap and the law's map -/
structure MapsAt (w0 w : World) (b mb hb pb n N fb : Nat) (S : Vol) (C : List Pg) (A : Strs) : Prop where
  one : One w0 w b mb hb pb S
  clean : Clean S n N C
  map : IntMap w fb (strM A)
  new : w0.heap.size ≤ fb
  ne : fb ∉ [mb, pb]
  now : NowIs A C
theorem IntMap.not_cells {w : World} {b q : Nat} {M : List (Int × Value)} (h : IntMap w b M) {c : Array Value} {t : TypeId} (hq : w.heap[q]? = some (.cells c t)) : q ≠ b := by
  obtain ⟨es, clk, h1, h2⟩ := h
  intro e
  rw [e, h1] at hq
  cases hq
theorem IntMap.lt {w : World} {b : Nat} {M : List (Int × Value)} (h : IntMap w b M) : b < w.heap.size := by
  obtain ⟨es, clk, h1, h2⟩ := h
  exact (Array.getElem?_eq_some_iff.1 h1).1
/-- the law writes its own map -/
theorem One.own {w0 w : World} {b mb hb pb fb : Nat} {S : Vol} (h : One w0 w b mb hb pb S) {M : List (Int × Value)} (hm : IntMap w fb M) (hn : w0.heap.size ≤ fb) (hne : fb ∉ [mb, pb]) (o : Obj) : One w0 (ChangeMaps.setBlock w fb o) b mb hb pb S := by
  have hg : w.grownBy (ChangeMaps.setBlock w fb o) (some fb) := grown_setBlock (grown_of_below (Below.refl _ w) (some fb)) o
  have hl := h.st.lt
  simp only [List.mem_cons, List.not_mem_nil, or_false, not_or] at hne
  obtain ⟨t1, ⟨es, c, t2, t3⟩, ⟨t4, t5, t6⟩, t7⟩ := h.st
  have n1 := hm.not_cells t1
  have n2 := hm.not_cells t4
  refine ⟨h.low.grown hg h.low.size (fun q hq => by cases hq; exact hn), ⟨(hg.block b hl.1 (by simpa using n1)).trans t1, ⟨es, c, (hg.block mb hl.2.1 (by simpa using fun e => hne.1 e.symm)).trans t2, t3⟩, ⟨(hg.block hb hl.2.2.1 (by simpa using n2)).trans t4, (hg.block pb hl.2.2.2 (by simpa using fun e => hne.2 e.symm)).trans t5, t6⟩, t7⟩, h.hi⟩

/-! Layer 15 (heap): the walk of HeapMaps. -/

theorem own_base0 {w : World} {B n s : Nat} {e : TypeId} {v : Value} {xs : List Value} (h : w.ownsRow B e s v n xs) : w.ownsRow 0 e s v n xs := by
  refine ⟨h.1, ?_⟩
  rcases h.2 with h0 | ⟨g, cap, cur, h1, -, h2⟩
  · exact .inl h0
  · exact .inr ⟨g, cap, cur, h1, Nat.zero_le _, h2⟩
set_option maxHeartbeats 1000000 in
theorem format_small (b : Nat) (n : Int) (w : World) (h : n < 4) :
    Calls Try.prog 15 #[.pointer (some ⟨b, 0, none⟩), .int .i64 n] w fun e w' => e = .returned (.int .i64 1) ∧ w = w' := by
  go_enter Try.func15, Try.ntmps15
  go_wp2_with fail
  go_ret
  exact ⟨rfl, rfl⟩
set_option maxHeartbeats 8000000 in
set_option maxRecDepth 100000 in
theorem maps_bad (n : Int) (h : n < 4 ∨ 32 < n) (vp : Value) (w : World) :
    Calls Try.prog 8 #[.int .i64 n, vp] w fun e w' => e = .returned (.bool true) ∧ Below w.heap.size w w' := by
  have HA := Lib.hid (fun (w' : World) => awake15 w')
  have HM := Lib.hid (fun (w' : World) => memory_ok 32 (by omega) (by omega) w')
  have HN := Lib.hid (fun hb pb w' hB h h2 => new_one hb pb (List.replicate 32 Pg.zero) w w' hB h h2)
  by_cases h32 : 32 < n
  · clear h
    go_enter Try.func8, Try.ntmps8
    go_wp2_with fail
    refine (HA.out _).mono ?_; rintro e w0 ⟨rfl, hb0⟩
    have K0 := Lib.hid hb0
    clear hb0
    go_wp2_with fail
    refine (HM.out _).mono ?_; rintro e w1 ⟨hb, pb, rfl, hb1, q1, q2, hs1⟩
    have hz := K0.out.size
    have K1 : Hid (Below w.heap.size w w1) := Lib.hid (K0.out.trans (hb1.mono hz))
    have K2 := Lib.hid hs1
    clear hb1 hs1
    go_wp2_with fail
    refine (HN.out hb pb _ K1.out K2.out (by omega)).mono ?_; rintro e w2 ⟨b, mb, rfl, h2⟩
    have K3 := Lib.hid h2
    clear h2
    go_wp2_with fail
    go_ret
    exact ⟨rfl, K3.out.low⟩
  · have h4 : n < 4 := by omega
    have HFo := Lib.hid (fun b w' => format_small b n w' h4)
    clear h
    go_enter Try.func8, Try.ntmps8
    go_wp2_with fail
    refine (HA.out _).mono ?_; rintro e w0 ⟨rfl, hb0⟩
    have K0 := Lib.hid hb0
    clear hb0
    go_wp2_with fail
    refine (HM.out _).mono ?_; rintro e w1 ⟨hb, pb, rfl, hb1, q1, q2, hs1⟩
    have hz := K0.out.size
    have K1 : Hid (Below w.heap.size w w1) := Lib.hid (K0.out.trans (hb1.mono hz))
    have K2 := Lib.hid hs1
    clear hb1 hs1
    go_wp2_with fail
    refine (HN.out hb pb _ K1.out K2.out (by omega)).mono ?_; rintro e w2 ⟨b, mb, rfl, h2⟩
    have K3 := Lib.hid h2
    clear h2
    go_wp2_with fail
    refine (HFo.out _ _).mono ?_; rintro e w3 ⟨rfl, rfl⟩
    go_wp2_with fail
    go_ret
    exact ⟨rfl, K3.out.low⟩

set_option maxHeartbeats 8000000 in
set_option maxRecDepth 100000 in
theorem maps_good (n : Nat) (hn4 : 4 ≤ n) (hn32 : n ≤ 32) (vp : Option Addr) (len cap : Nat) (V : List Cl) (w : World) (hV : ClsIn w vp len V) :
    Calls Try.prog 8 #[.int .i64 n, .slice vp len cap] w fun e w' => e = .returned (.bool true) ∧ Below w.heap.size w w' := by
  have HA := Lib.hid (fun (w' : World) => awake15 w')
  have HM := Lib.hid (fun (w' : World) => memory_ok 32 (by omega) (by omega) w')
  have HN := Lib.hid (fun hb pb w' hB h h2 => new_one hb pb (List.replicate 32 Pg.zero) w w' hB h h2)
  have HFo := Lib.hid (fun b mb hb pb w' hs => format_start 32 n hn4 (by omega) b mb hb pb w' hs)
  have HMa := Lib.hid (fun b mb hb pb w' hs => make_start 32 n hn4 (by omega) hn32 b mb hb pb w' hs)
  have HLa := Lib.hid (fun b mb hb pb w' hs => land_any (H0_fit 32 n hn4 hn32 (by omega)) 0 b mb hb pb w' hs)
  have HV := Lib.hid hV
  have hl1 := hV.1
  have hl2 := hV.2.1
  have n0 : (4 : Int) ≤ (n : Int) := by omega
  have n1 : (n : Int) ≤ 32 := by omega
  clear hV
  go_enter Try.func8, Try.ntmps8
  go_wp2_with fail
  refine (HA.out _).mono ?_; rintro e w0 ⟨rfl, hb0⟩
  have K0 := Lib.hid hb0
  clear hb0
  go_wp2_with fail
  refine (HM.out _).mono ?_; rintro e w1 ⟨hb, pb, rfl, hb1, q1, q2, hs1⟩
  have hz := K0.out.size
  have K1 : Hid (Below w.heap.size w w1) := Lib.hid (K0.out.trans (hb1.mono hz))
  have K2 := Lib.hid hs1
  clear hb1 hs1
  go_wp2_with fail
  refine (HN.out hb pb _ K1.out K2.out (by omega)).mono ?_; rintro e w2 ⟨b, mb, rfl, h2⟩
  have K3 := Lib.hid h2
  clear h2
  go_wp2_with fail
  refine (HFo.out b mb hb pb _ K3.out.st).mono ?_; rintro e w3 ⟨rfl, g3, s3⟩
  have K4 := Lib.hid (K3.out.grow g3 s3)
  clear g3 s3
  go_wp2_with fail
  refine (HMa.out b mb hb pb _ K4.out.st).mono ?_; rintro e w4 ⟨rfl, g4, s4⟩
  have K5 := Lib.hid (K4.out.grow g4 s4)
  clear g4 s4
  go_wp2_with fail
  refine (HLa.out b mb hb pb _ K5.out.st).mono ?_; rintro e w5 ⟨rfl, p5, s5⟩
  have hO5 := K5.out.poke p5 s5
  have hl5 := hO5.st.lt
  have hmk := run_newNow w5
  have K6 : Hid (MapsAt w (w5.alloc (.map #[] 0)) b mb hb pb n 32 w5.heap.size ((H0 32 n).after 0) [freshH] []) :=
    Lib.hid ⟨hO5.alloc _, clean_start 32 n hn4 (by omega) (by omega), ⟨#[], 0, heap_alloc_new _ _, rfl, MapKept.stamped_empty 0⟩, hO5.low.size, by simp; omega, NowIs.nil⟩
  clear p5 s5 hO5 hl5
  go_wp2_with fail
  obtain ⟨fb, hfb⟩ : ∃ fb, w5.heap.size = fb := ⟨_, rfl⟩
  rw [hfb] at K6
  simp only [hfb]
  clear hmk
  go_loopw [66] (fun i wr => ∃ j : Nat, j ≤ len ∧ i = .int .i64 j ∧ ∃ S C A, MapsAt w wr b mb hb pb n 32 fb S C A) (fun i _ => len - (intOf i).toNat)
  case atStart => exact ⟨0, by omega, rfl, _, _, _, K6.out⟩
  case round =>
    obtain ⟨j, hj, rfl, S, C, A, hA⟩ := hrel
    clear K6
    obtain ⟨wo, rfl⟩ : ∃ wo : World, wo = wr := ⟨_, rfl⟩
    obtain ⟨hO, hC, hm, hnw, hne, hN⟩ := hA
    have HO := Lib.hid hO
    have HC := Lib.hid hC
    have HNw := Lib.hid hN
    by_cases hlt : j < len
    · have hVr := HV.out.below hO.low
      obtain ⟨bv, off, hvp, hbv, hrow⟩ := hVr.2.2.resolve_left (by omega)
      subst hvp
      obtain ⟨hrg, hok⟩ := hrow j (by omega)
      have hld := load_clIn hrg
      generalize V[j] = c at *
      have hO1 := hO.alloc (.cells c.cs 79)
      have hok1 := hok.below ((Below.refl wo.heap.size wo).alloc (Nat.le_refl _) (.cells c.cs 79))
      have hm1 := hm.alloc (.cells c.cs 79)
      have HM1 := Lib.hid hm1
      have HO1 := Lib.hid hO1
      obtain ⟨hid, zs, hrow1⟩ := hok1
      have HRw := Lib.hid hrow1
      have R1 := rowAt_at wo c.cs 79 _ rfl
      have ck := (cell_row R1 0).trans (show _ = some (.int .i64 c.kind) from rfl)
      have ci := (cell_row R1 2).trans (show _ = some (.int .i64 c.id) from rfl)
      have cv := (cell_row R1 3).trans (show _ = some (.string c.val) from rfl)
      have cz := (cell_row R1 4).trans (show _ = some (.slice c.ka c.kl c.kc) from rfl)
      have HR1 := Lib.hid R1
      clear hVr hrow hbv hO hC hrg hok hO1 hN hm hrow1 R1
      have hltr : wo.heap.size < (wo.alloc (.cells c.cs 79)).heap.size := by simp
      have hltn : wo.heap.size ∉ [mb, pb] := by
        have := HO.out.st.lt
        simp; omega
      have hfm : fb ≠ mb := by
        simp only [List.mem_cons, List.not_mem_nil, or_false, not_or] at hne
        exact hne.1
      by_cases hk0 : c.kind = 0
      · rw [hk0] at ck
        clear hk0
        have HI := Lib.hid (insert_kept HC.out b mb hb pb c.val c.ka c.kl c.kc zs _ HO1.out.st HRw.out)
        obtain ⟨d0, g0, k1⟩ : ∃ d0 g0, (Instr.lookup 76 (.map (some fb)) (.int .i64 c.id) true).run Try.prog (wo.alloc (.cells c.cs 79)) = .ok (.tuple #[.string d0, .bool g0]) (wo.alloc (.cells c.cs 79)) := by
          cases had : finS c.id A with
          | none => exact ⟨_, _, (now_not hm1 had).1⟩
          | some d => exact ⟨_, _, (now_has hm1 had).1⟩
        clear hm1
        go_wp2_with fail
        refine HI.out.mono ?_; rintro e w7 (⟨u, S5, C', k, i, rfl, hp⟩ | ⟨u, e, S5, he, rfl, hp⟩)
        · have hat := hp.at'
          have hsix := hp.six
          have h7 := (HO1.out.grow hp.grown hp.stage).alloc (.cells u.cs 36)
          have hz7 := hp.grown.size
          rw [World.size_alloc] at hz7
          have R7 := (rowAt_past w7 (.cells u.cs 36) wo.heap.size (by omega)).trans ((rowAt_grown hp.grown hltr (by have := HO.out.st.lt; omega)).trans HR1.out)
          have m7 := (HM1.out.grown hp.grown hfm).alloc (.cells u.cs 36)
          have HLn := Lib.hid (land_any hp.fit 0 b mb hb pb _ h7.st)
          obtain ⟨id, hid2⟩ : ∃ id : Int, ((2 + k : Nat) : Int) * 8 + (i : Int) = id := ⟨_, rfl⟩
          have hid16 : decide (id < 16) = false := by simp; omega
          rw [hid2] at hat ⊢
          have HCl := Lib.hid hp.clean
          have H7 := Lib.hid h7
          have HR7 := Lib.hid R7
          have HM7 := Lib.hid m7
          have HAt := Lib.hid hat
          clear hp h7 R7 m7 hat hid2 cv
          go_wp2_with fail
          refine HLn.out.mono ?_; rintro r w8 ⟨rfl, hp8, hs8⟩
          have h8 := H7.out.poke hp8 hs8
          have hz8 := hp8.size
          rw [World.size_alloc] at hz8
          have R8 := (hp8.row (show wo.heap.size < (w7.alloc (.cells u.cs 36)).heap.size by simp; omega) hltn).trans HR7.out
          have cv8 := (cell_row R8 3).trans (show _ = some (.string c.val) from rfl)
          have m8 := HM7.out.poked hp8 hne
          have k2 := (now_not m8 (id := id) (by rw [HNw.out.same]; exact HAt.out.1)).1
          have HM8 := Lib.hid m8
          obtain ⟨es, clock, hm', hM', hSt'⟩ := m8
          obtain ⟨o, ho⟩ := run_mapUpdate_int (P := Try.prog) Try.underlying76 Try.underlying3 (.string c.val) fb _ id es clock hM' hSt'
          have u1 := (ho w8 hm').1
          have u2 := (ho w8 hm').2
          rw [updI_str] at u2
          have HO8 := Lib.hid (h8.own HM8.out hnw hne o)
          have HU := Lib.hid u2
          have HN8 := Lib.hid (HNw.out.upd HAt.out.2)
          clear hp8 hs8 h8 R8 hm' hM' hSt' ho u2
          go_wp2_with fail
          go_roundw
          case rel => exact ⟨j + 1, by omega, by go_num, _, _, _, HO8.out, HCl.out, HU.out, hnw, hne, HN8.out⟩
          case measure => simp [intOf]; omega
        · have h7 := (HO1.out.grow hp.grown hp.stage).alloc (.cells u.cs 36)
          have m7 := (HM1.out.grown hp.grown hfm).alloc (.cells u.cs 36)
          have HLn := Lib.hid (land_any hp.fit e b mb hb pb _ h7.st)
          have HCl := Lib.hid hp.clean
          have H7 := Lib.hid h7
          have HM7 := Lib.hid m7
          clear hp h7 m7 cv
          rcases he with rfl | rfl
          all_goals
            go_wp2_with fail
            refine HLn.out.mono ?_; rintro r w8 ⟨rfl, hp8, hs8⟩
            have HO8 := Lib.hid (H7.out.poke hp8 hs8)
            have HM8 := Lib.hid (HM7.out.poked hp8 hne)
            clear hp8 hs8
            go_wp2_with fail
            go_roundw
            case rel => exact ⟨j + 1, by omega, by go_num, _, _, _, HO8.out, HCl.out, HM8.out, hnw, hne, HNw.out⟩
            case measure => simp [intOf]; omega
      by_cases hk1 : c.kind = 1
      · rw [hk1] at ck
        clear hk0 hk1
        have HRd := Lib.hid (read_now HC.out.heap b mb hb pb c.id hid _ HO1.out.st)
        have hsm := HNw.out.same c.id
        cases had : finS c.id A with
        | none =>
          rw [had] at hsm
          obtain ⟨k1, -⟩ := now_not hm1 had
          have HHad := Lib.hid had
          have HSm := Lib.hid hsm
          clear hm1 hsm had
          go_wp2_with fail
          refine HRd.out.mono ?_; rintro e w7 ⟨hb7, ⟨d, h1, rfl⟩ | ⟨h1, rfl⟩⟩
          · rw [← HSm.out] at h1; cases h1
          · have R7 := (rowAt_below hb7 hltr).trans HR1.out
            have ci7 := (cell_row R7 2).trans (show _ = some (.int .i64 c.id) from rfl)
            have m7 := HM1.out.below hb7
            have k2 := (now_not m7 HHad.out).2
            have HM7 := Lib.hid m7
            have HO7 := Lib.hid (HO1.out.below hb7)
            clear hb7 R7 m7 h1
            go_wp2_with fail
            go_roundw
            case rel => exact ⟨j + 1, by omega, by go_num, _, _, _, HO7.out, HC.out, HM7.out, hnw, hne, HNw.out⟩
            case measure => simp [intOf]; omega
        | some d0 =>
          rw [had] at hsm
          obtain ⟨k1, -⟩ := now_has hm1 had
          have HHad := Lib.hid had
          have HSm := Lib.hid hsm
          clear hm1 hsm had
          go_wp2_with fail
          refine HRd.out.mono ?_; rintro e w7 ⟨hb7, ⟨d, h1, rfl⟩ | ⟨h1, rfl⟩⟩
          · have hdd : d = d0 := by have h2 := HSm.out; rw [h1] at h2; exact (Option.some.inj h2).symm
            subst hdd
            have R7 := (rowAt_below hb7 hltr).trans HR1.out
            have ci7 := (cell_row R7 2).trans (show _ = some (.int .i64 c.id) from rfl)
            have m7 := HM1.out.below hb7
            have k2 := (now_has m7 HHad.out).2
            have HM7 := Lib.hid m7
            have HO7 := Lib.hid (HO1.out.below hb7)
            clear hb7 R7 m7 h1
            go_wp2_with fail
            go_roundw
            case rel => exact ⟨j + 1, by omega, by go_num, _, _, _, HO7.out, HC.out, HM7.out, hnw, hne, HNw.out⟩
            case measure => simp [intOf]; omega
          · rw [← HSm.out] at h1; cases h1
      by_cases hk2 : c.kind = 2
      · rw [hk2] at ck
        clear hk0 hk1 hk2
        have HUp := Lib.hid (update_now HC.out b mb hb pb c.id hid c.val _ HO1.out.st)
        have hsm := HNw.out.same c.id
        have HSm := Lib.hid hsm
        clear hsm
        cases had : finS c.id A with
        | none =>
          obtain ⟨k1, -⟩ := now_not hm1 had
          have HHad := Lib.hid had
          clear hm1 had
          go_wp2_with fail
          refine HUp.out.mono ?_; rintro e w7 (⟨u, S5, C', d, rfl, hp, h1, h2⟩ | ⟨u, S5, rfl, hp⟩ | ⟨u, S5, rfl, hp, h1⟩)
          · rw [← HSm.out, HHad.out] at h1; cases h1
          all_goals
            have h7 := (HO1.out.grow hp.grown hp.stage).alloc (.cells u.cs 36)
            have m7 := (HM1.out.grown hp.grown hfm).alloc (.cells u.cs 36)
            have HLn := Lib.hid (fun e => land_any hp.fit e b mb hb pb _ h7.st)
            have HCl := Lib.hid hp.clean
            have H7 := Lib.hid h7
            have HM7 := Lib.hid m7
            clear hp h7 m7 cv
            go_wp2_with fail
            refine (HLn.out _).mono ?_; rintro r w8 ⟨rfl, hp8, hs8⟩
            have HO8 := Lib.hid (H7.out.poke hp8 hs8)
            have HM8 := Lib.hid (HM7.out.poked hp8 hne)
            clear hp8 hs8
            go_wp2_with fail
            go_roundw
            case rel => exact ⟨j + 1, by omega, by go_num, _, _, _, HO8.out, HCl.out, HM8.out, hnw, hne, HNw.out⟩
            case measure => simp [intOf]; omega
        | some d0 =>
          obtain ⟨k1, -⟩ := now_has hm1 had
          have HHad := Lib.hid had
          clear hm1 had
          go_wp2_with fail
          refine HUp.out.mono ?_; rintro e w7 (⟨u, S5, C', d, rfl, hp, h1, h2⟩ | ⟨u, S5, rfl, hp⟩ | ⟨u, S5, rfl, hp, h1⟩)
          · have h7 := (HO1.out.grow hp.grown hp.stage).alloc (.cells u.cs 36)
            have hz7 := hp.grown.size
            rw [World.size_alloc] at hz7
            have R7 := (rowAt_past w7 (.cells u.cs 36) wo.heap.size (by omega)).trans ((rowAt_grown hp.grown hltr (by have := HO.out.st.lt; omega)).trans HR1.out)
            have m7 := (HM1.out.grown hp.grown hfm).alloc (.cells u.cs 36)
            have HLn := Lib.hid (land_any hp.fit 0 b mb hb pb _ h7.st)
            have HCl := Lib.hid hp.clean
            have H7 := Lib.hid h7
            have HR7 := Lib.hid R7
            have HM7 := Lib.hid m7
            have HAt := Lib.hid h2
            clear hp h7 R7 m7 h1 h2 cv
            go_wp2_with fail
            refine HLn.out.mono ?_; rintro r w8 ⟨rfl, hp8, hs8⟩
            have h8 := H7.out.poke hp8 hs8
            have R8 := (hp8.row (show wo.heap.size < (w7.alloc (.cells u.cs 36)).heap.size by simp; omega) hltn).trans HR7.out
            have cv8 := (cell_row R8 3).trans (show _ = some (.string c.val) from rfl)
            have ci8 := (cell_row R8 2).trans (show _ = some (.int .i64 c.id) from rfl)
            have m8 := HM7.out.poked hp8 hne
            have HM8 := Lib.hid m8
            obtain ⟨es, clock, hm', hM', hSt'⟩ := m8
            obtain ⟨o, ho⟩ := run_mapUpdate_int (P := Try.prog) Try.underlying76 Try.underlying3 (.string c.val) fb _ c.id es clock hM' hSt'
            have u1 := (ho w8 hm').1
            have u2 := (ho w8 hm').2
            rw [updI_str] at u2
            have HO8 := Lib.hid (h8.own HM8.out hnw hne o)
            have HU := Lib.hid u2
            have HN8 := Lib.hid (HNw.out.upd HAt.out)
            clear hp8 hs8 h8 R8 hm' hM' hSt' ho u2
            go_wp2_with fail
            go_roundw
            case rel => exact ⟨j + 1, by omega, by go_num, _, _, _, HO8.out, HCl.out, HU.out, hnw, hne, HN8.out⟩
            case measure => simp [intOf]; omega
          · have h7 := (HO1.out.grow hp.grown hp.stage).alloc (.cells u.cs 36)
            have m7 := (HM1.out.grown hp.grown hfm).alloc (.cells u.cs 36)
            have HLn := Lib.hid (land_any hp.fit 2 b mb hb pb _ h7.st)
            have HCl := Lib.hid hp.clean
            have H7 := Lib.hid h7
            have HM7 := Lib.hid m7
            clear hp h7 m7 cv
            go_wp2_with fail
            refine HLn.out.mono ?_; rintro r w8 ⟨rfl, hp8, hs8⟩
            have HO8 := Lib.hid (H7.out.poke hp8 hs8)
            have HM8 := Lib.hid (HM7.out.poked hp8 hne)
            clear hp8 hs8
            go_wp2_with fail
            go_roundw
            case rel => exact ⟨j + 1, by omega, by go_num, _, _, _, HO8.out, HCl.out, HM8.out, hnw, hne, HNw.out⟩
            case measure => simp [intOf]; omega
          · rw [← HSm.out, HHad.out] at h1; cases h1
      by_cases hk3 : c.kind = 3
      · rw [hk3] at ck
        clear hk0 hk1 hk2 hk3
        have HDl := Lib.hid (delete_now HC.out b mb hb pb c.id hid _ HO1.out.st)
        have hsm := HNw.out.same c.id
        have HSm := Lib.hid hsm
        clear hsm
        have hdel : ∀ (S' : Vol) (C' : List Pg) (w8 : World) (hO8 : One w w8 b mb hb pb S') (m8 : IntMap w8 fb (strM A)), ∃ o, (∀ kt' ty : TypeId, (Builtin.delete_ #[76, kt'] ty #[.map (some fb), .int .i64 c.id]).run Try.prog w8 = .ok (.tuple #[]) (ChangeMaps.setBlock w8 fb o)) ∧ One w (ChangeMaps.setBlock w8 fb o) b mb hb pb S' ∧ IntMap (ChangeMaps.setBlock w8 fb o) fb (strM (delS c.id A)) := by
          intro S' C' w8 hO8 m8
          have m8' := m8
          obtain ⟨es, clock, hm', hM', hSt'⟩ := m8
          obtain ⟨o, ho⟩ := run_delete_int (P := Try.prog) Try.underlying76 Try.underlying3 fb _ c.id es clock hM' hSt'
          refine ⟨o, fun kt' ty => (ho w8 kt' ty hm').1, hO8.own m8' hnw hne o, ?_⟩
          have u2 := (ho w8 0 0 hm').2
          rwa [delI_str] at u2
        have HDel := Lib.hid hdel
        clear hdel
        cases had : finS c.id A with
        | none =>
          obtain ⟨k1, -⟩ := now_not hm1 had
          have HHad := Lib.hid had
          clear hm1 had
          go_wp2_with fail
          refine HDl.out.mono ?_; rintro e w7 (⟨u, S5, C', d, rfl, hp, h1, h2⟩ | ⟨u, S5, rfl, hp, h1⟩)
          · rw [← HSm.out, HHad.out] at h1; cases h1
          · have h7 := (HO1.out.grow hp.grown hp.stage).alloc (.cells u.cs 36)
            have hz7 := hp.grown.size
            rw [World.size_alloc] at hz7
            have R7 := (rowAt_past w7 (.cells u.cs 36) wo.heap.size (by omega)).trans ((rowAt_grown hp.grown hltr (by have := HO.out.st.lt; omega)).trans HR1.out)
            have m7 := (HM1.out.grown hp.grown hfm).alloc (.cells u.cs 36)
            have HLn := Lib.hid (land_any hp.fit 150 b mb hb pb _ h7.st)
            have HCl := Lib.hid hp.clean
            have H7 := Lib.hid h7
            have HR7 := Lib.hid R7
            have HM7 := Lib.hid m7
            have HN8 : Hid (NowIs (delS c.id A) C) := Lib.hid (HNw.out.del fun id' => by
              by_cases e : id' = c.id
              · rw [if_pos e, e]; exact h1
              · rw [if_neg e])
            clear hp h7 R7 m7 h1 cv
            go_wp2_with fail
            refine HLn.out.mono ?_; rintro r w8 ⟨rfl, hp8, hs8⟩
            have R8 := (hp8.row (show wo.heap.size < (w7.alloc (.cells u.cs 36)).heap.size by simp; omega) hltn).trans HR7.out
            have ci8 := (cell_row R8 2).trans (show _ = some (.int .i64 c.id) from rfl)
            obtain ⟨o, u1, hO8, u2⟩ := HDel.out _ C w8 (H7.out.poke hp8 hs8) (HM7.out.poked hp8 hne)
            have HO8 := Lib.hid hO8
            have HU := Lib.hid u2
            clear hp8 hs8 R8 hO8 u2
            go_wp2_with fail
            go_roundw
            case rel => exact ⟨j + 1, by omega, by go_num, _, _, _, HO8.out, HCl.out, HU.out, hnw, hne, HN8.out⟩
            case measure => simp [intOf]; omega
        | some d0 =>
          obtain ⟨k1, -⟩ := now_has hm1 had
          have HHad := Lib.hid had
          clear hm1 had
          go_wp2_with fail
          refine HDl.out.mono ?_; rintro e w7 (⟨u, S5, C', d, rfl, hp, h1, h2⟩ | ⟨u, S5, rfl, hp, h1⟩)
          · have h7 := (HO1.out.grow hp.grown hp.stage).alloc (.cells u.cs 36)
            have hz7 := hp.grown.size
            rw [World.size_alloc] at hz7
            have R7 := (rowAt_past w7 (.cells u.cs 36) wo.heap.size (by omega)).trans ((rowAt_grown hp.grown hltr (by have := HO.out.st.lt; omega)).trans HR1.out)
            have m7 := (HM1.out.grown hp.grown hfm).alloc (.cells u.cs 36)
            have HLn := Lib.hid (land_any hp.fit 0 b mb hb pb _ h7.st)
            have HCl := Lib.hid hp.clean
            have H7 := Lib.hid h7
            have HR7 := Lib.hid R7
            have HM7 := Lib.hid m7
            have HN8 := Lib.hid (HNw.out.del h2)
            clear hp h7 R7 m7 h1 h2 cv
            go_wp2_with fail
            refine HLn.out.mono ?_; rintro r w8 ⟨rfl, hp8, hs8⟩
            have R8 := (hp8.row (show wo.heap.size < (w7.alloc (.cells u.cs 36)).heap.size by simp; omega) hltn).trans HR7.out
            have ci8 := (cell_row R8 2).trans (show _ = some (.int .i64 c.id) from rfl)
            obtain ⟨o, u1, hO8, u2⟩ := HDel.out _ C w8 (H7.out.poke hp8 hs8) (HM7.out.poked hp8 hne)
            have HO8 := Lib.hid hO8
            have HU := Lib.hid u2
            clear hp8 hs8 R8 hO8 u2
            go_wp2_with fail
            go_roundw
            case rel => exact ⟨j + 1, by omega, by go_num, _, _, _, HO8.out, HCl.out, HU.out, hnw, hne, HN8.out⟩
            case measure => simp [intOf]; omega
          · rw [← HSm.out, HHad.out] at h1; cases h1
      · have e0 : (c.kind == 0) = false := by simp [hk0]
        have e1 : (c.kind == 1) = false := by simp [hk1]
        have e2 : (c.kind == 2) = false := by simp [hk2]
        have e3 : (c.kind == 3) = false := by simp [hk3]
        clear hk0 hk1 hk2 hk3
        cases had : finS c.id A with
        | none =>
          obtain ⟨k1, -⟩ := now_not hm1 had
          clear hm1
          go_wp2_with fail
          go_roundw
          case rel => exact ⟨j + 1, by omega, by go_num, _, _, _, HO1.out, HC.out, HM1.out, hnw, hne, HNw.out⟩
          case measure => simp [intOf]; omega
        | some d =>
          obtain ⟨k1, -⟩ := now_has hm1 had
          clear hm1
          go_wp2_with fail
          go_roundw
          case rel => exact ⟨j + 1, by omega, by go_num, _, _, _, HO1.out, HC.out, HM1.out, hnw, hne, HNw.out⟩
          case measure => simp [intOf]; omega
    · have HL := Lib.hid (list_any hC.heap b mb hb pb wo hO.st)
      have htop := hC.heap.top
      have HM1 := Lib.hid hm
      clear hO hC hN hm
      go_wp2_with fail
      refine HL.out.mono ?_; rintro e w7 ⟨v, rfl, hb7, hown⟩
      have K7 := Lib.hid (HO.out.below hb7)
      have m7 := HM1.out.below hb7
      have HOwn := Lib.hid (own_base0 hown)
      obtain ⟨va, vc, hv⟩ : ∃ va vc, v = .slice va (recs 2 C).length vc := by
        rcases ownsRow_forms hown with ⟨h1, h2⟩ | ⟨g, c, h1⟩
        · exact ⟨_, _, by rw [h1, h2]⟩
        · exact ⟨_, _, h1⟩
      subst hv
      have hrise := recs_rise 2 C
      have hrl2 : (recs 2 C).length ≤ 240 := by have := recs_len 2 C; omega
      have hall : ∀ x ∈ recs 2 C, finS x.1 A = some x.2 := fun x hx => by rw [HNw.out.same, atC_rec hx]
      have hle := HNw.out.len
      have hlen := fun ty => run_len_int (P := Try.prog) Try.underlying76 fb _ w7 m7 ty
      rw [strM, List.length_map, hle] at hlen
      have HM7 := Lib.hid m7
      obtain ⟨R, hR⟩ : ∃ R, recs 2 C = R := ⟨_, rfl⟩
      rw [hR] at HOwn hlen hrise hall hrl2
      rw [hR]
      have HRi := Lib.hid hrise
      have HAll := Lib.hid hall
      clear hb7 hown hrise hall hR hle m7 HL
      go_wp2_with fail
      go_loopw [209] (fun i wr => ∃ j : Nat, j ≤ R.length ∧ i = .int .i64 j ∧ One w wr b mb hb pb S ∧ IntMap wr fb (strM A) ∧ wr.ownsRow 0 90 3 (.slice va R.length vc) R.length (prRow R)) (fun i _ => R.length - (intOf i).toNat)
      case atStart => exact ⟨0, by omega, rfl, K7.out, HM7.out, HOwn.out⟩
      case round =>
        obtain ⟨j, hj, rfl, hO2, hm2, hown2⟩ := hrel
        by_cases hlt2 : j < R.length
        · obtain ⟨g, cap', hv⟩ := ownsRow_form hown2 (by omega)
          simp only [Value.slice.injEq] at hv
          obtain ⟨rfl, -, rfl⟩ := hv
          obtain ⟨c0, c1, c2⟩ := pr_cells hown2 j hlt2
          have hg : g < wr.heap.size := World.block_lt_of_cell? wr _ c0
          have hmem := List.getElem_mem hlt2
          have hfin := HAll.out _ hmem
          obtain ⟨x, hx⟩ : ∃ x, R[j] = x := ⟨_, rfl⟩
          rw [hx] at c1 c2 hfin
          have HX := Lib.hid hx
          have hm3 := hm2.alloc (.cells #[.string ⟨#[]⟩, .int .i64 x.1, .string x.2] 90)
          have k1 := (now_has hm3 hfin).1
          have HO3 := Lib.hid (hO2.alloc (.cells #[.string ⟨#[]⟩, .int .i64 x.1, .string x.2] 90))
          have HM3 := Lib.hid hm3
          have HOw := Lib.hid (hown2.alloc (.cells #[.string ⟨#[]⟩, .int .i64 x.1, .string x.2] 90))
          clear hO2 hown2 hmem hx hm2 hm3 hfin
          cases j with
          | zero =>
            have e0 : ((0 : Nat) : Int) = 0 := rfl
            rw [e0]
            clear e0
            go_wp2_with fail
            go_quiet (fail)
            go_wp2_with fail
            go_roundw
            case rel => exact ⟨1, by omega, by go_num, HO3.out.below (below_drewN (Below.refl _ _) _), HM3.out, HOw.out⟩
            case measure => simp [intOf]; omega
          | succ j =>
            have hp0 := (pr_cells HOw.out j (by omega)).2.1
            have hs := List.pairwise_iff_getElem.1 HRi.out j (j + 1) (by omega) hlt2 (by omega)
            rw [HX.out] at hs
            clear HX
            generalize R[j].1 = x0 at *
            have t1 : decide (x.1 ≤ x0) = false := by simp; omega
            have ej : ((j + 1 : Nat) : Int) = (j : Int) + 1 := by omega
            have hj1 : (j : Int) + 1 < (R.length : Int) := by omega
            have hj2 : (j : Int) < (R.length : Int) := by omega
            rw [ej]
            clear ej hs
            go_wp2_with fail
            go_quiet (fail)
            go_wp2_with fail
            go_roundw
            case rel => exact ⟨j + 2, by omega, by go_num, HO3.out.below (below_drewN (Below.refl _ _) _), HM3.out, HOw.out⟩
            case measure => simp [intOf]; omega
        · have hje : j = R.length := by omega
          subst hje
          have HO2 := Lib.hid hO2
          clear hO2 hown2 hm2
          go_wp2_with fail
          go_ret
          exact ⟨rfl, HO2.out.low⟩
theorem maps_walk (n : Int) (vp : Option Addr) (len cap : Nat) (V : List Cl) (w : World) (hV : ClsIn w vp len V) :
    Calls Try.prog 8 #[.int .i64 n, .slice vp len cap] w fun e w' => e = .returned (.bool true) ∧ Below w.heap.size w w' := by
  by_cases h : n < 4 ∨ 32 < n
  · exact maps_bad n h _ w
  · obtain ⟨m, rfl⟩ : ∃ m : Nat, n = (m : Int) := ⟨n.toNat, by omega⟩
    exact maps_good m (by omega) (by omega) vp len cap V w hV
end Go.Proofs.Ythehglhbgplfhaa
