/-
  A map with integer keys: 'for k, v := range m' whose rounds may delete keys (plain laws on the model's words).
-/
import Derived.Test.YtmbeicijljlejaaIntDel
import Derived.Maps.RangeRun
import Derived.Maps.RangeWalk
namespace Go.Proofs.Ytmbeicijljlejaa
open Go.RowKit Go.Joins
set_option linter.unusedVariables false
set_option linter.unusedSimpArgs false

/-- a loop over a map is under way: which keys are still to come, and how many -/
def RangeAt (w : World) (b r : Nat) (M : List (Int × Value)) (left : Int → Prop) (cnt : Nat) : Prop :=
  ∃ es clock since seen c0, w.heap[b]? = some (.map es clock) ∧ es.toList.map (fun e => (e.key, e.val)) = (M.map fun x => (Value.int .i64 x.1, x.2)) ∧ MapKept.Stamped es clock ∧
    w.heap[r]? = some (.mapIter (some b) since seen c0) ∧ (∀ x ∈ es.toList, x.born < since) ∧ since ≤ c0 ∧ since ≤ clock ∧ (leftOf es seen).size = cnt ∧
    (∀ e ∈ es.toList, ∀ k, e.key = .int .i64 k → (left k ↔ seen.contains e.born = false)) ∧ (∀ k, left k → k ∈ M.map (·.1))
theorem RangeAt.map {w : World} {b r : Nat} {M : List (Int × Value)} {left : Int → Prop} {cnt : Nat} (h : RangeAt w b r M left cnt) : IntMap w b M := by
  obtain ⟨es, clock, since, seen, c0, h1, h2, h3, -⟩ := h
  exact ⟨es, clock, h1, h2, h3⟩
theorem RangeAt.ne {w : World} {b r : Nat} {M : List (Int × Value)} {left : Int → Prop} {cnt : Nat} (h : RangeAt w b r M left cnt) : r ≠ b := by
  obtain ⟨es, clock, since, seen, c0, h1, h2, h3, h4, -⟩ := h
  intro e
  rw [e, h1] at h4
  cases h4
theorem RangeAt.lt {w : World} {b r : Nat} {M : List (Int × Value)} {left : Int → Prop} {cnt : Nat} (h : RangeAt w b r M left cnt) : r < w.heap.size := by
  obtain ⟨es, clock, since, seen, c0, h1, h2, h3, h4, -⟩ := h
  exact (Array.getElem?_eq_some_iff.1 h4).1
/-- other blocks may turn -/
theorem RangeAt.kept {w w' : World} {b r : Nat} {M : List (Int × Value)} {left : Int → Prop} {cnt : Nat} (h : RangeAt w b r M left cnt) (hb : w'.heap[b]? = w.heap[b]?) (hr : w'.heap[r]? = w.heap[r]?) : RangeAt w' b r M left cnt := by
  obtain ⟨es, clock, since, seen, c0, h1, h2, h3, h4, h5⟩ := h
  exact ⟨es, clock, since, seen, c0, hb.trans h1, h2, h3, hr.trans h4, h5⟩
/-- how many are still to come, read off the world: for the loop's measure -/
theorem RangeAt.left_eq {w : World} {b r : Nat} {M : List (Int × Value)} {left : Int → Prop} {cnt : Nat} (h : RangeAt w b r M left cnt) : w.rangeLeft b r = cnt := by
  obtain ⟨es, clock, since, seen, c0, h1, h2, h3, h4, h5, h6, h7, h8, -⟩ := h
  simp only [World.rangeLeft, h1, h4]
  exact h8
theorem IntMap.entry {M : List (Int × Value)} {es : Array MapEntry} (hM : es.toList.map (fun e => (e.key, e.val)) = M.map fun x => (Value.int .i64 x.1, x.2)) {e : MapEntry} (he : e ∈ es.toList) : ∃ k, e.key = .int .i64 k ∧ (k, e.val) ∈ M := by
  have h1 : (e.key, e.val) ∈ M.map fun x => (Value.int .i64 x.1, x.2) := by rw [← hM]; exact List.mem_map.2 ⟨e, he, rfl⟩
  obtain ⟨x, hx, e1⟩ := List.mem_map.1 h1
  have e2 := congrArg Prod.fst e1
  have e3 := congrArg Prod.snd e1
  exact ⟨x.1, e2.symm, by have e4 : x.2 = e.val := e3; rw [← e4]; exact hx⟩
theorem IntMap.there {M : List (Int × Value)} {es : Array MapEntry} (hM : es.toList.map (fun e => (e.key, e.val)) = M.map fun x => (Value.int .i64 x.1, x.2)) {k : Int} (hk : k ∈ M.map (·.1)) : ∃ e ∈ es.toList, e.key = .int .i64 k := by
  obtain ⟨x, hx, rfl⟩ := List.mem_map.1 hk
  have h1 : (Value.int .i64 x.1, x.2) ∈ es.toList.map (fun e => (e.key, e.val)) := by rw [hM]; exact List.mem_map.2 ⟨x, hx, rfl⟩
  obtain ⟨e, he, e1⟩ := List.mem_map.1 h1
  exact ⟨e, he, congrArg Prod.fst e1⟩
section
variable {P : Program}
/-- range m -/
theorem range_int {t kt et : TypeId} (ht : P.underlying t = some (.map kt et)) {w : World} {b : Nat} {M : List (Int × Value)} (h : IntMap w b M) :
    ∃ o, (Instr.range t (.map (some b))).run P w = .ok (.pointer (some ⟨w.heap.size, 0, none⟩)) (w.alloc o) ∧ RangeAt (w.alloc o) b w.heap.size M (fun k => k ∈ M.map (·.1)) M.length := by
  obtain ⟨es, clock, hb, hM, hst⟩ := h
  have hlt : b < w.heap.size := (Array.getElem?_eq_some_iff.1 hb).1
  refine ⟨_, run_range_map w t kt et b es clock ht hb, es, clock, clock, #[], clock, ((MapKept.heap_alloc w _).2 b hlt).trans hb, hM, hst, (MapKept.heap_alloc w _).1, hst.1, Nat.le_refl _, Nat.le_refl _, ?_, ?_, fun k hk => hk⟩
  · have h1 : leftOf es #[] = es := by unfold leftOf; exact Array.filter_eq_self.2 (fun _ _ => by simp)
    rw [h1]; exact intMap_size hM
  · intro e he k hk
    obtain ⟨k', h1, h2⟩ := IntMap.entry hM he
    have : k' = k := by rw [h1] at hk; cases hk; rfl
    subst this
    constructor
    · intro _; simp
    · intro _; exact List.mem_map.2 ⟨_, h2, rfl⟩
theorem next_type (it : Value) (s : Bool) (ty ty' : TypeId) : Instr.next it s ty = Instr.next it s ty' := rfl
/-- the step -/
theorem RangeAt.next {w : World} {b r : Nat} {M : List (Int × Value)} {left : Int → Prop} {cnt : Nat} (h : RangeAt w b r M left cnt) :
    (cnt = 0 ∧ (∀ k, ¬ left k) ∧ ∀ ty, (Instr.next (.pointer (some ⟨r, 0, none⟩)) false ty).run P w = .ok (.tuple #[.bool false]) w) ∨
    ∃ k v w' cnt', (k, v) ∈ M ∧ left k ∧ (∀ ty, (Instr.next (.pointer (some ⟨r, 0, none⟩)) false ty).run P w = .ok (.tuple #[.bool true, .int .i64 k, v]) w') ∧
      RangeAt w' b r M (fun j => left j ∧ j ≠ k) cnt' ∧ cnt' < cnt ∧ w.grownBy w' (some r) ∧ w'.heap.size = w.heap.size ∧ (Instr.entry (.pointer (some ⟨r, 0, none⟩))).run P w' = .ok (.tuple #[.int .i64 k, v]) w' := by
  have hne := h.ne
  obtain ⟨es, clock, since, seen, c0, hb, hM, hst, hr, hold, hsc, hsk, rfl, hl1, hl2⟩ := h
  rcases run_next_at (P := P) w 0 r b since c0 seen es clock hr hb hold hsc with ⟨h0, hrun⟩ | ⟨e, he, w1, hal, hrun⟩
  · refine .inl ⟨h0, fun k hk => ?_, fun ty => by rw [next_type _ _ ty 0]; exact hrun⟩
    obtain ⟨e, he, hek⟩ := IntMap.there hM (hl2 k hk)
    have h1 := (hl1 e he k hek).1 hk
    rw [all_seen es seen h0 e he] at h1
    cases h1
  · obtain ⟨hem, hes⟩ := mem_left he
    obtain ⟨k, hk, hkM⟩ := IntMap.entry hM hem
    have hst2 := (MapKept.stamped_iff es clock).1 hst
    have hr1 : w1.heap[r]? = some (.mapIter (some b) since seen c0) := by rcases hal with rfl | rfl <;> exact hr
    have hb1 : w1.heap[b]? = some (.map es clock) := by rcases hal with rfl | rfl <;> exact hb
    have hset := MapKept.heap_set (o' := .mapIter (some b) since (seen.push e.born) clock) hr1
    have hb' : (ChangeMaps.setBlock w1 r (.mapIter (some b) since (seen.push e.born) clock)).heap[b]? = some (.map es clock) := (hset.2 b (fun e1 => hne e1.symm)).trans hb1
    rw [hk] at hrun
    refine .inr ⟨k, e.val, _, _, hkM, (hl1 e hem k hk).2 (by simpa using hes), fun ty => by rw [next_type _ _ ty 0]; exact hrun, ⟨es, clock, since, seen.push e.born, clock, hb', hM, hst, hset.1, hold, hsk, hsk, rfl, fun x hx j hj => ?_, fun j hj => hl2 j hj.1⟩, left_shrinks es seen e he, ?_, ?_, ?_⟩
    · have h1 := hl1 x hx j hj
      show (left j ∧ j ≠ k) ↔ _
      rw [h1, contains_push]
      by_cases hbe : x.born = e.born
      · have hxe : x = e := born_inj hst2.2.1 hx hem hbe
        subst hxe
        rw [hk] at hj
        cases hj
        simp
      · have hjk : j ≠ k := fun e1 => hbe (congrArg MapEntry.born (entry_eq_of_key hst2.2.2 hx hem (by rw [hj, hk, e1])))
        simp [hbe, hjk]
    · rcases hal with rfl | rfl <;> exact ⟨rfl, rfl, rfl, by simp [ChangeMaps.setBlock], fun i _ hi => hset.2 i (fun e1 => hi (by rw [e1]))⟩
    · rcases hal with rfl | rfl <;> simp [ChangeMaps.setBlock]
    · have := run_entry_at (P := P) _ r b since seen es clock e hset.1 hb' hem hst2.2.1
      rw [hk] at this
      exact this
/-- delete(m, k) in the round -/
theorem RangeAt.drop {t kt et : TypeId} (ht : P.underlying t = some (.map kt et)) (hk : P.underlying kt = some (.int .i64)) {w : World} {b r : Nat} {M : List (Int × Value)} {left : Int → Prop} {cnt : Nat} (h : RangeAt w b r M left cnt) (k : Int) :
    ∃ o cnt', (∀ kt' ty : TypeId, (Builtin.delete_ #[t, kt'] ty #[.map (some b), .int .i64 k]).run P w = .ok (.tuple #[]) (ChangeMaps.setBlock w b o)) ∧ RangeAt (ChangeMaps.setBlock w b o) b r (delI k M) (fun j => left j ∧ j ≠ k) cnt' ∧ cnt' ≤ cnt := by
  have hne := h.ne
  obtain ⟨es, clock, since, seen, c0, hb, hM, hst, hr, hold, hsc, hsk, rfl, hl1, hl2⟩ := h
  have hst2 := (MapKept.stamped_iff es clock).1 hst
  have hf := fun w => run_findKey_int (P := P) hk k es.toList M w hM
  have hset : ∀ (o : Obj), (setObj b o).run P w = .ok () (ChangeMaps.setBlock w b o) := fun o => by
    simp only [setObj, Sem.run, hb]; rfl
  have hg : (getObj b).run P w = .ok (.map es clock) w := MapKept.run_getObj_map hb
  have hkeys : ∀ j : Int, j ∈ (delI k M).map (·.1) ↔ j ∈ M.map (·.1) ∧ (j ≠ k) := by
    intro j
    have hnd : (M.map (·.1)).Nodup := by
      have h3 := hst.2.2
      have h4 : es.toList.map (·.key) = M.map fun x => Value.int .i64 x.1 := by
        have := congrArg (List.map Prod.fst) hM
        simpa [Function.comp_def] using this
      rw [h4] at h3
      have h5 : (M.map fun x => Value.int .i64 x.1) = (M.map (·.1)).map (Value.int .i64) := by simp
      rw [h5] at h3
      exact List.Pairwise.of_map _ (fun a b hab e => hab (by rw [e])) h3
    clear hf hM hl2
    induction M with
    | nil => simp [delI]
    | cons x m ih =>
      rw [List.map_cons, List.nodup_cons] at hnd
      have := ih hnd.2
      simp only [delI]
      by_cases e : k = x.1
      · rw [if_pos e]
        simp only [List.map_cons, List.mem_cons]
        constructor
        · intro hj
          exact ⟨.inr hj, fun e1 => hnd.1 (by rw [← e, ← e1]; exact hj)⟩
        · rintro ⟨h1 | h1, h2⟩
          · exact absurd (h1.trans e.symm) h2
          · exact h1
      · rw [if_neg e]
        simp only [List.map_cons, List.mem_cons, this]
        constructor
        · rintro (h1 | h1)
          · exact ⟨.inl h1, fun e1 => e (e1.symm.trans h1)⟩
          · exact ⟨.inr h1.1, h1.2⟩
        · rintro ⟨h1 | h1, h2⟩
          · exact .inl h1
          · exact .inr ⟨h1, h2⟩
  cases hfi : findI k M 0 with
  | none =>
    rw [hfi] at hf
    have hnot := findI_none hfi
    refine ⟨.map es clock, _, fun kt' ty => ?_, ⟨es, clock, since, seen, c0, ChangeMaps.heap_setBlock_same hb _, by rw [delI_none hfi]; exact hM, hst, (ChangeMaps.heap_setBlock_other hb _ hne).trans hr, hold, hsc, hsk, rfl, fun e he j hj => ?_, fun j hj => (hkeys j).2 ⟨hl2 j hj.1, hj.2⟩⟩, Nat.le_refl _⟩
    · unfold Builtin.delete_
      simp [run_underlying ht, hg, run_checkKey_int hk, hf, hset]
    · obtain ⟨j', h1, h2⟩ := IntMap.entry hM he
      have hjj : j' = j := by rw [h1] at hj; cases hj; rfl
      subst hjj
      have hjk : j' ≠ k := fun e1 => hnot _ h2 e1.symm
      show (left j' ∧ j' ≠ k) ↔ _
      rw [← hl1 e he j' hj]
      exact ⟨fun h => h.1, fun h => ⟨h, hjk⟩⟩
  | some x =>
    rw [hfi] at hf
    obtain ⟨h1, h2, h3, h4⟩ := findI_lt hfi
    have hsub : (es.eraseIdxIfInBounds x.1).toList = es.toList.eraseIdx x.1 := Array.toList_eraseIdxIfInBounds
    have hsl : (es.eraseIdxIfInBounds x.1).toList.Sublist es.toList := by rw [hsub]; exact List.eraseIdx_sublist _ _
    refine ⟨.map (es.eraseIdxIfInBounds x.1) clock, _, fun kt' ty => ?_, ⟨es.eraseIdxIfInBounds x.1, clock, since, seen, c0, ChangeMaps.heap_setBlock_same hb _, ?_, MapKept.stamped_erase hst _, (ChangeMaps.heap_setBlock_other hb _ hne).trans hr, fun e he => hold e (hsl.subset he), hsc, hsk, rfl, fun e he j hj => ?_, fun j hj => (hkeys j).2 ⟨hl2 j hj.1, hj.2⟩⟩, ?_⟩
    · unfold Builtin.delete_
      simp [run_underlying ht, hg, run_checkKey_int hk, hf, hset]
    · rw [delI_some hfi, hsub, map_erase, map_erase, hM, Nat.sub_zero]
    · show (left j ∧ j ≠ k) ↔ _
      rw [← hl1 e (hsl.subset he) j hj]
      have hM' : (es.eraseIdxIfInBounds x.1).toList.map (fun e => (e.key, e.val)) = ((delI k M).map fun x => (Value.int .i64 x.1, x.2)) := by rw [delI_some hfi, hsub, map_erase, map_erase, hM, Nat.sub_zero]
      obtain ⟨j', q1, q2⟩ := IntMap.entry hM' he
      have hjj : j' = j := by rw [q1] at hj; cases hj; rfl
      subst hjj
      have hjk := ((hkeys j').1 (List.mem_map.2 ⟨_, q2, rfl⟩)).2
      exact ⟨fun h => h.1, fun h => ⟨h, hjk⟩⟩
    · have e1 : ∀ a : Array MapEntry, (leftOf a seen).size = (a.toList.filter fun e => !seen.contains e.born).length := fun a => by
        unfold leftOf
        rw [← Array.toList_filter, Array.length_toList]
      rw [e1, e1]
      exact (hsl.filter _).length_le
end
end Go.Proofs.Ytmbeicijljlejaa
