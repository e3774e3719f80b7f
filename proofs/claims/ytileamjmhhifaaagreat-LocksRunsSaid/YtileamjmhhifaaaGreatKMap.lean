/-
  A map with keys of any one kind as the call's memory holds it: look-up, update, delete, len, range with deletes (plain laws on the model's words, over any program).
-/
import Derived.Test.YtileamjmhhifaaaGreatChecked
import Derived.WalkKit
import Derived.WalkSpells
import Derived.WalkSmall
import Derived.WalkLawsBesides
import Derived.BigQuiet
import Derived.Deep.QuietTactic
import Derived.Deep.RegionHeld3
import Derived.Lib.Hide
import Derived.Lib.SmallJoins
import Derived.Maps.RangeRun
import Derived.Maps.RangeWalk
namespace Go.Proofs.YtileamjmhhifaaaGreat
open Go.RowKit Go.Joins
set_option linter.unusedVariables false
set_option linter.unusedSimpArgs false

section
variable {K : Type} {kv : K → Value} {P : Program}

/-- the entries read as this list -/
def Ents (kv : K → Value) (es : Array MapEntry) (M : List (K × Value)) : Prop := es.toList.map (fun e => (e.key, e.val)) = M.map fun x => (kv x.1, x.2)
/-- a map's entries read as this list of keys and values -/
def KMap (kv : K → Value) (w : World) (b : Nat) (M : List (K × Value)) : Prop :=
  ∃ es clock, w.heap[b]? = some (.map es clock) ∧ Ents kv es M ∧ MapKept.Stamped es clock
theorem KMap.kept {w w' : World} {b : Nat} {M : List (K × Value)} (h : KMap kv w b M) (hb : w'.heap[b]? = w.heap[b]?) : KMap kv w' b M := by
  obtain ⟨es, clock, h1, h2, h3⟩ := h
  exact ⟨es, clock, hb.trans h1, h2, h3⟩
theorem KMap.lt {w : World} {b : Nat} {M : List (K × Value)} (h : KMap kv w b M) : b < w.heap.size := by
  obtain ⟨es, clock, h1, h2, h3⟩ := h
  exact (Array.getElem?_eq_some_iff.1 h1).1
theorem map_erase' {α β : Type} (f : α → β) : ∀ (l : List α) (i : Nat), (l.eraseIdx i).map f = (l.map f).eraseIdx i
  | [], _ => rfl
  | _ :: _, 0 => rfl
  | x :: r, i + 1 => by simp [List.eraseIdx, map_erase' f r i]
theorem Ents.size {es : Array MapEntry} {M : List (K × Value)} (h : Ents kv es M) : es.size = M.length := by
  have := congrArg List.length h
  simpa using this
theorem Ents.entry {M : List (K × Value)} {es : Array MapEntry} (hM : Ents kv es M) {e : MapEntry} (he : e ∈ es.toList) : ∃ k, e.key = kv k ∧ (k, e.val) ∈ M := by
  have h1 : (e.key, e.val) ∈ M.map fun x => (kv x.1, x.2) := by rw [← hM]; exact List.mem_map.2 ⟨e, he, rfl⟩
  obtain ⟨x, hx, e1⟩ := List.mem_map.1 h1
  have e2 := congrArg Prod.fst e1
  have e3 := congrArg Prod.snd e1
  exact ⟨x.1, e2.symm, by have e4 : x.2 = e.val := e3; rw [← e4]; exact hx⟩
theorem Ents.there {M : List (K × Value)} {es : Array MapEntry} (hM : Ents kv es M) {k : K} (hk : k ∈ M.map (·.1)) : ∃ e ∈ es.toList, e.key = kv k := by
  obtain ⟨x, hx, rfl⟩ := List.mem_map.1 hk
  have h1 : (kv x.1, x.2) ∈ es.toList.map (fun e => (e.key, e.val)) := by rw [hM]; exact List.mem_map.2 ⟨x, hx, rfl⟩
  obtain ⟨e, he, e1⟩ := List.mem_map.1 h1
  exact ⟨e, he, congrArg Prod.fst e1⟩
/-- no key twice -/
theorem Ents.nodup (hinj : ∀ a b : K, kv a = kv b → a = b) {M : List (K × Value)} {es : Array MapEntry} (hM : Ents kv es M) {clock : Nat} (hst : MapKept.Stamped es clock) : (M.map (·.1)).Nodup := by
  have h3 := hst.2.2
  have h4 : es.toList.map (·.key) = M.map fun x => kv x.1 := by
    have := congrArg (List.map Prod.fst) hM
    simpa [Function.comp_def] using this
  rw [h4] at h3
  have h5 : (M.map fun x => kv x.1) = (M.map (·.1)).map kv := by simp
  rw [h5] at h3
  exact List.Pairwise.of_map _ (fun a b hab e => hab (by rw [e])) h3
theorem KMap.nodup (hinj : ∀ a b : K, kv a = kv b → a = b) {w : World} {b : Nat} {M : List (K × Value)} (h : KMap kv w b M) : (M.map (·.1)).Nodup := by
  obtain ⟨es, clock, h1, h2, h3⟩ := h
  exact h2.nodup hinj h3
/-- len(m) -/
theorem run_len_k {t kt et : TypeId} (ht : P.underlying t = some (.map kt et)) (b : Nat) (M : List (K × Value)) (w : World) (h : KMap kv w b M) (ty : TypeId) :
    (Builtin.len_ #[t] ty #[.map (some b)]).run P w = .ok (.int .i64 (M.length : Int)) w := by
  obtain ⟨es, clock, hb, hM, -⟩ := h
  have hs := hM.size
  have hg : (getObj b).run P w = .ok (.map es clock) w := MapKept.run_getObj_map hb
  unfold Builtin.len_
  simp [run_underlying ht, hg, goInt, hs]
/-- a loop over a map is under way: which keys are still to come, and how many -/
def KRange (kv : K → Value) (w : World) (b r : Nat) (M : List (K × Value)) (left : K → Prop) (cnt : Nat) : Prop :=
  ∃ es clock since seen c0, w.heap[b]? = some (.map es clock) ∧ Ents kv es M ∧ MapKept.Stamped es clock ∧
    w.heap[r]? = some (.mapIter (some b) since seen c0) ∧ (∀ x ∈ es.toList, x.born < since) ∧ since ≤ c0 ∧ since ≤ clock ∧ (leftOf es seen).size = cnt ∧
    (∀ e ∈ es.toList, ∀ k, e.key = kv k → (left k ↔ seen.contains e.born = false)) ∧ (∀ k, left k → k ∈ M.map (·.1))
theorem KRange.map {w : World} {b r : Nat} {M : List (K × Value)} {left : K → Prop} {cnt : Nat} (h : KRange kv w b r M left cnt) : KMap kv w b M := by
  obtain ⟨es, clock, since, seen, c0, h1, h2, h3, -⟩ := h
  exact ⟨es, clock, h1, h2, h3⟩
theorem KRange.ne {w : World} {b r : Nat} {M : List (K × Value)} {left : K → Prop} {cnt : Nat} (h : KRange kv w b r M left cnt) : r ≠ b := by
  obtain ⟨es, clock, since, seen, c0, h1, h2, h3, h4, -⟩ := h
  intro e
  rw [e, h1] at h4
  cases h4
theorem KRange.lt {w : World} {b r : Nat} {M : List (K × Value)} {left : K → Prop} {cnt : Nat} (h : KRange kv w b r M left cnt) : r < w.heap.size := by
  obtain ⟨es, clock, since, seen, c0, h1, h2, h3, h4, -⟩ := h
  exact (Array.getElem?_eq_some_iff.1 h4).1
theorem KRange.mem {w : World} {b r : Nat} {M : List (K × Value)} {left : K → Prop} {cnt : Nat} (h : KRange kv w b r M left cnt) {k : K} (hk : left k) : k ∈ M.map (·.1) := by
  obtain ⟨es, clock, since, seen, c0, h1, h2, h3, h4, h5, h6, h7, h8, h9, h10⟩ := h
  exact h10 k hk
/-- other blocks may turn -/
theorem KRange.kept {w w' : World} {b r : Nat} {M : List (K × Value)} {left : K → Prop} {cnt : Nat} (h : KRange kv w b r M left cnt) (hb : w'.heap[b]? = w.heap[b]?) (hr : w'.heap[r]? = w.heap[r]?) : KRange kv w' b r M left cnt := by
  obtain ⟨es, clock, since, seen, c0, h1, h2, h3, h4, h5⟩ := h
  exact ⟨es, clock, since, seen, c0, hb.trans h1, h2, h3, hr.trans h4, h5⟩
/-- how many are still to come, read off the world: for the loop's measure -/
theorem KRange.left_eq {w : World} {b r : Nat} {M : List (K × Value)} {left : K → Prop} {cnt : Nat} (h : KRange kv w b r M left cnt) : w.rangeLeft b r = cnt := by
  obtain ⟨es, clock, since, seen, c0, h1, h2, h3, h4, h5, h6, h7, h8, -⟩ := h
  simp only [World.rangeLeft, h1, h4]
  exact h8
/-- range m -/
theorem range_k (hinj : ∀ a b : K, kv a = kv b → a = b) {t kt et : TypeId} (ht : P.underlying t = some (.map kt et)) {w : World} {b : Nat} {M : List (K × Value)} (h : KMap kv w b M) :
    ∃ o, (Instr.range t (.map (some b))).run P w = .ok (.pointer (some ⟨w.heap.size, 0, none⟩)) (w.alloc o) ∧ KRange kv (w.alloc o) b w.heap.size M (fun k => k ∈ M.map (·.1)) M.length := by
  obtain ⟨es, clock, hb, hM, hst⟩ := h
  have hlt : b < w.heap.size := (Array.getElem?_eq_some_iff.1 hb).1
  refine ⟨_, run_range_map w t kt et b es clock ht hb, es, clock, clock, #[], clock, ((MapKept.heap_alloc w _).2 b hlt).trans hb, hM, hst, (MapKept.heap_alloc w _).1, hst.1, Nat.le_refl _, Nat.le_refl _, ?_, ?_, fun k hk => hk⟩
  · have h1 : leftOf es #[] = es := by unfold leftOf; exact Array.filter_eq_self.2 (fun _ _ => by simp)
    rw [h1]; exact hM.size
  · intro e he k hk
    obtain ⟨k', h1, h2⟩ := hM.entry he
    have : k' = k := hinj _ _ (by rw [← h1, hk])
    subst this
    constructor
    · intro _; simp
    · intro _; exact List.mem_map.2 ⟨_, h2, rfl⟩
theorem next_type' (it : Value) (s : Bool) (ty ty' : TypeId) : Instr.next it s ty = Instr.next it s ty' := rfl
/-- the step -/
theorem KRange.next (hinj : ∀ a b : K, kv a = kv b → a = b) {w : World} {b r : Nat} {M : List (K × Value)} {left : K → Prop} {cnt : Nat} (h : KRange kv w b r M left cnt) :
    (cnt = 0 ∧ (∀ k, ¬ left k) ∧ ∀ ty, (Instr.next (.pointer (some ⟨r, 0, none⟩)) false ty).run P w = .ok (.tuple #[.bool false]) w) ∨
    ∃ k v w' cnt', (k, v) ∈ M ∧ left k ∧ (∀ ty, (Instr.next (.pointer (some ⟨r, 0, none⟩)) false ty).run P w = .ok (.tuple #[.bool true, kv k, v]) w') ∧
      KRange kv w' b r M (fun j => left j ∧ j ≠ k) cnt' ∧ cnt' < cnt ∧ w.grownBy w' (some r) ∧ w'.heap.size = w.heap.size ∧ (Instr.entry (.pointer (some ⟨r, 0, none⟩))).run P w' = .ok (.tuple #[kv k, v]) w' := by
  have hne := h.ne
  obtain ⟨es, clock, since, seen, c0, hb, hM, hst, hr, hold, hsc, hsk, rfl, hl1, hl2⟩ := h
  rcases run_next_at (P := P) w 0 r b since c0 seen es clock hr hb hold hsc with ⟨h0, hrun⟩ | ⟨e, he, w1, hal, hrun⟩
  · refine .inl ⟨h0, fun k hk => ?_, fun ty => by rw [next_type' _ _ ty 0]; exact hrun⟩
    obtain ⟨e, he, hek⟩ := hM.there (hl2 k hk)
    have h1 := (hl1 e he k hek).1 hk
    rw [all_seen es seen h0 e he] at h1
    cases h1
  · obtain ⟨hem, hes⟩ := mem_left he
    obtain ⟨k, hk, hkM⟩ := hM.entry hem
    have hst2 := (MapKept.stamped_iff es clock).1 hst
    have hr1 : w1.heap[r]? = some (.mapIter (some b) since seen c0) := by rcases hal with rfl | rfl <;> exact hr
    have hb1 : w1.heap[b]? = some (.map es clock) := by rcases hal with rfl | rfl <;> exact hb
    have hset := MapKept.heap_set (o' := .mapIter (some b) since (seen.push e.born) clock) hr1
    have hb' : (ChangeMaps.setBlock w1 r (.mapIter (some b) since (seen.push e.born) clock)).heap[b]? = some (.map es clock) := (hset.2 b (fun e1 => hne e1.symm)).trans hb1
    rw [hk] at hrun
    refine .inr ⟨k, e.val, _, _, hkM, (hl1 e hem k hk).2 (by simpa using hes), fun ty => by rw [next_type' _ _ ty 0]; exact hrun, ⟨es, clock, since, seen.push e.born, clock, hb', hM, hst, hset.1, hold, hsk, hsk, rfl, fun x hx j hj => ?_, fun j hj => hl2 j hj.1⟩, left_shrinks es seen e he, ?_, ?_, ?_⟩
    · have h1 := hl1 x hx j hj
      show (left j ∧ j ≠ k) ↔ _
      rw [h1, contains_push]
      by_cases hbe : x.born = e.born
      · have hxe : x = e := born_inj hst2.2.1 hx hem hbe
        subst hxe
        have hjk : j = k := hinj _ _ (by rw [← hj, hk])
        subst hjk
        simp
      · have hjk : j ≠ k := fun e1 => hbe (congrArg MapEntry.born (entry_eq_of_key hst2.2.2 hx hem (by rw [hj, hk, e1])))
        simp [hbe, hjk]
    · rcases hal with rfl | rfl <;> exact ⟨rfl, rfl, rfl, by simp [ChangeMaps.setBlock], fun i _ hi => hset.2 i (fun e1 => hi (by rw [e1]))⟩
    · rcases hal with rfl | rfl <;> simp [ChangeMaps.setBlock]
    · have := run_entry_at (P := P) _ r b since seen es clock e hset.1 hb' hem hst2.2.1
      rw [hk] at this
      exact this

variable [DecidableEq K]
def findK (k : K) : List (K × Value) → Nat → Option (Nat × Value)
  | [], _ => none
  | x :: r, i => if k = x.1 then some (i, x.2) else findK k r (i + 1)
/-- what the model asks of a kind of keys -/
structure KeyLaw (kv : K → Value) (P : Program) (kt : TypeId) : Prop where
  inj : ∀ a b : K, kv a = kv b → a = b
  check : ∀ (b : Bool) (k : K) (w : World), (Instr.checkKey b 10000 kt (kv k)).run P w = .ok () w
  find : ∀ (k : K) (es : List MapEntry) (M : List (K × Value)) (w : World), es.map (fun e => (e.key, e.val)) = M.map (fun x => (kv x.1, x.2)) → (Instr.findKey kt (kv k) es).run P w = .ok (findK k M 0) w
  stays : ∀ k : K, Instr.sameBits 10000 (kv k) (kv k) = true
/-- m[k] = v, on the list -/
def updK (k : K) (v : Value) : List (K × Value) → List (K × Value)
  | [] => [(k, v)]
  | x :: r => if k = x.1 then (k, v) :: r else x :: updK k v r
/-- delete(m, k), on the list -/
def delK (k : K) : List (K × Value) → List (K × Value)
  | [] => []
  | x :: r => if k = x.1 then r else x :: delK k r
theorem findK_lt {k : K} {M : List (K × Value)} {i : Nat} {x : Nat × Value} (h : findK k M i = some x) : i ≤ x.1 ∧ x.1 < i + M.length ∧ M[x.1 - i]? = some (k, x.2) ∧ (∀ j, i ≤ j → j < x.1 → ∀ y, M[j - i]? = some y → ¬ k = y.1) := by
  induction M generalizing i with
  | nil => cases h
  | cons y r ih =>
    unfold findK at h
    by_cases hk : k = y.1
    · rw [if_pos hk] at h
      cases h
      refine ⟨Nat.le_refl _, by simp, by simp [hk], fun j h1 h2 => by omega⟩
    · rw [if_neg hk] at h
      obtain ⟨h1, h2, h3, h4⟩ := ih h
      refine ⟨by omega, by simp; omega, ?_, fun j hj1 hj2 z hz => ?_⟩
      · rw [show x.1 - i = (x.1 - (i + 1)) + 1 from by omega, List.getElem?_cons_succ]; exact h3
      · by_cases hj : j = i
        · subst hj; simp at hz; rw [← hz]; exact hk
        · rw [show j - i = (j - (i + 1)) + 1 from by omega, List.getElem?_cons_succ] at hz
          exact h4 j (by omega) hj2 z hz
theorem findK_none {k : K} {M : List (K × Value)} {i : Nat} (h : findK k M i = none) : ∀ x ∈ M, ¬ k = x.1 := by
  induction M generalizing i with
  | nil => intro x hx; cases hx
  | cons y r ih =>
    unfold findK at h
    by_cases hk : k = y.1
    · rw [if_pos hk] at h; cases h
    · rw [if_neg hk] at h
      intro x hx
      cases List.mem_cons.1 hx with
      | inl e => subst e; exact hk
      | inr e => exact ih h x e
theorem updK_none {k : K} {v : Value} {M : List (K × Value)} {i : Nat} (h : findK k M i = none) : updK k v M = M ++ [(k, v)] := by
  induction M generalizing i with
  | nil => rfl
  | cons y r ih =>
    unfold findK at h
    by_cases hk : k = y.1
    · rw [if_pos hk] at h; cases h
    · rw [if_neg hk] at h
      simp [updK, hk, ih h]
theorem updK_some {k : K} {v : Value} {M : List (K × Value)} {i : Nat} {x : Nat × Value} (h : findK k M i = some x) : updK k v M = M.set (x.1 - i) (k, v) := by
  induction M generalizing i with
  | nil => cases h
  | cons y r ih =>
    have hl := (findK_lt h).1
    unfold findK at h
    by_cases hk : k = y.1
    · rw [if_pos hk] at h
      cases h
      simp [updK, hk]
    · rw [if_neg hk] at h
      have hl2 := (findK_lt h).1
      rw [show x.1 - i = (x.1 - (i + 1)) + 1 from by omega]
      simp [updK, hk, ih h]
theorem delK_none {k : K} {M : List (K × Value)} {i : Nat} (h : findK k M i = none) : delK k M = M := by
  induction M generalizing i with
  | nil => rfl
  | cons y r ih =>
    unfold findK at h
    by_cases hk : k = y.1
    · rw [if_pos hk] at h; cases h
    · rw [if_neg hk] at h
      simp [delK, hk, ih h]
theorem delK_some {k : K} {M : List (K × Value)} {i : Nat} {x : Nat × Value} (h : findK k M i = some x) : delK k M = M.eraseIdx (x.1 - i) := by
  induction M generalizing i with
  | nil => cases h
  | cons y r ih =>
    have hl := (findK_lt h).1
    unfold findK at h
    by_cases hk : k = y.1
    · rw [if_pos hk] at h
      cases h
      simp [delK, hk]
    · rw [if_neg hk] at h
      have hl2 := (findK_lt h).1
      rw [show x.1 - i = (x.1 - (i + 1)) + 1 from by omega]
      simp [delK, hk, ih h]
/-- v, ok := m[k] -/
theorem run_lookup_k {t kt et : TypeId} (ht : P.underlying t = some (.map kt et)) (hL : KeyLaw kv P kt) (z : Value) (b : Nat) (M : List (K × Value)) (k : K) (w : World) (hz : (zeroValue et).run P w = .ok z w) (h : KMap kv w b M) :
    (Instr.lookup t (.map (some b)) (kv k) true).run P w = .ok (match findK k M 0 with | some x => .tuple #[x.2, .bool true] | none => .tuple #[z, .bool false]) w := by
  obtain ⟨es, clock, hb, hM, -⟩ := h
  unfold Instr.lookup
  have hg : (getObj b).run P w = .ok (.map es clock) w := MapKept.run_getObj_map hb
  simp [run_underlying ht, hg, hL.check, hL.find k es.toList M w hM]
  cases findK k M 0 with
  | none => simp [hz]
  | some x => simp
/-- m[k] -/
theorem run_lookup1_k {t kt et : TypeId} (ht : P.underlying t = some (.map kt et)) (hL : KeyLaw kv P kt) (z : Value) (b : Nat) (M : List (K × Value)) (k : K) (w : World) (hz : (zeroValue et).run P w = .ok z w) (h : KMap kv w b M) :
    (Instr.lookup t (.map (some b)) (kv k) false).run P w = .ok (match findK k M 0 with | some x => x.2 | none => z) w := by
  obtain ⟨es, clock, hb, hM, -⟩ := h
  unfold Instr.lookup
  have hg : (getObj b).run P w = .ok (.map es clock) w := MapKept.run_getObj_map hb
  simp [run_underlying ht, hg, hL.check, hL.find k es.toList M w hM]
  cases findK k M 0 with
  | none => simp [hz]
  | some x => simp
/-- a map block is written; what is written hangs on the block alone -/
theorem run_mapUpdate_k {t kt et : TypeId} (ht : P.underlying t = some (.map kt et)) (hL : KeyLaw kv P kt) (v : Value) (b : Nat) (M : List (K × Value)) (k : K) (es : Array MapEntry) (clock : Nat) (hM : Ents kv es M) (hst : MapKept.Stamped es clock) :
    ∃ o, ∀ w : World, w.heap[b]? = some (.map es clock) → (Instr.mapUpdate t (.map (some b)) (kv k) v).run P w = .ok () (ChangeMaps.setBlock w b o) ∧ KMap kv (ChangeMaps.setBlock w b o) b (updK k v M) := by
  have hf := fun w => hL.find k es.toList M w hM
  have hset : ∀ (w : World) (o : Obj), w.heap[b]? = some (.map es clock) → (setObj b o).run P w = .ok () (ChangeMaps.setBlock w b o) := fun w o hb => by
    simp only [setObj, Sem.run, hb]; rfl
  cases hfi : findK k M 0 with
  | none =>
    rw [hfi] at hf
    refine ⟨.map (es.push { key := kv k, val := v, born := clock }) (clock + 1), fun w hb => ⟨?_, _, _, ChangeMaps.heap_setBlock_same hb _, ?_, ?_⟩⟩
    · have hg : (getObj b).run P w = .ok (.map es clock) w := MapKept.run_getObj_map hb
      unfold Instr.mapUpdate
      simp [run_underlying ht, hg, hL.check, hf, hset w _ hb]
    · rw [updK_none hfi]
      unfold Ents at hM ⊢
      simp [hM]
    · refine MapKept.stamped_push hst fun x hx e => ?_
      obtain ⟨k', h1, h2⟩ := hM.entry hx
      have : k' = k := hL.inj _ _ (by rw [← h1, e])
      subst this
      exact findK_none hfi _ h2 rfl
  | some x =>
    rw [hfi] at hf
    obtain ⟨h1, h2, h3, h4⟩ := findK_lt hfi
    have hes : x.1 < es.size := by
      have := hM.size; omega
    have hkey : es[x.1].key = kv k := by
      have h5 := congrArg (fun l => l[x.1]?) hM
      simp only [List.getElem?_map] at h5
      rw [show x.1 - 0 = x.1 from by omega] at h3
      rw [h3] at h5
      simp [hes] at h5
      exact h5.1
    refine ⟨.map (es.modify x.1 fun e => { e with key := kv k, val := v }) clock, fun w hb => ⟨?_, _, _, ChangeMaps.heap_setBlock_same hb _, ?_, ?_⟩⟩
    · have hg : (getObj b).run P w = .ok (.map es clock) w := MapKept.run_getObj_map hb
      unfold Instr.mapUpdate
      simp [run_underlying ht, hg, hL.check, hf, hset w _ hb, hes, hkey, Instr.keyThatStays, hL.stays]
    · rw [updK_some hfi]
      unfold Ents at hM ⊢
      apply List.ext_getElem?
      intro j
      have h5 := congrArg (fun l => l[j]?) hM
      simp only [List.getElem?_map] at h5
      simp only [List.getElem?_map, Array.getElem?_toList, Array.getElem?_modify, Nat.sub_zero, List.getElem?_set] at h5 ⊢
      by_cases hj : x.1 = j
      · subst hj
        simp [hes]
        have : x.1 < M.length := by omega
        simp [this]
      · simp [hj, h5]
    · refine MapKept.stamped_modify hst _ _ (fun e he => rfl) fun e he hi => ?_
      have h6 : es[x.1]? = some es[x.1] := Array.getElem?_eq_getElem hes
      rw [h6] at hi
      cases hi
      exact hkey.symm
/-- a map block loses a key; what is written hangs on the block alone -/
theorem run_delete_k {t kt et : TypeId} (ht : P.underlying t = some (.map kt et)) (hL : KeyLaw kv P kt) (b : Nat) (M : List (K × Value)) (k : K) (es : Array MapEntry) (clock : Nat) (hM : Ents kv es M) (hst : MapKept.Stamped es clock) :
    ∃ o, ∀ (w : World) (kt' ty : TypeId), w.heap[b]? = some (.map es clock) → (Builtin.delete_ #[t, kt'] ty #[.map (some b), kv k]).run P w = .ok (.tuple #[]) (ChangeMaps.setBlock w b o) ∧ KMap kv (ChangeMaps.setBlock w b o) b (delK k M) := by
  have hf := fun w => hL.find k es.toList M w hM
  have hset : ∀ (w : World) (o : Obj), w.heap[b]? = some (.map es clock) → (setObj b o).run P w = .ok () (ChangeMaps.setBlock w b o) := fun w o hb => by
    simp only [setObj, Sem.run, hb]; rfl
  cases hfi : findK k M 0 with
  | none =>
    rw [hfi] at hf
    refine ⟨.map es clock, fun w kt' ty hb => ⟨?_, _, _, ChangeMaps.heap_setBlock_same hb _, ?_, hst⟩⟩
    · have hg : (getObj b).run P w = .ok (.map es clock) w := MapKept.run_getObj_map hb
      unfold Builtin.delete_
      simp [run_underlying ht, hg, hL.check, hf, hset w _ hb]
    · rw [delK_none hfi]
      exact hM
  | some x =>
    rw [hfi] at hf
    refine ⟨.map (es.eraseIdxIfInBounds x.1) clock, fun w kt' ty hb => ⟨?_, _, _, ChangeMaps.heap_setBlock_same hb _, ?_, MapKept.stamped_erase hst _⟩⟩
    · have hg : (getObj b).run P w = .ok (.map es clock) w := MapKept.run_getObj_map hb
      unfold Builtin.delete_
      simp [run_underlying ht, hg, hL.check, hf, hset w _ hb]
    · unfold Ents at hM ⊢
      rw [delK_some hfi, Array.toList_eraseIdxIfInBounds, map_erase', map_erase', hM, Nat.sub_zero]
theorem keys_del {k : K} {M : List (K × Value)} (hnd : (M.map (·.1)).Nodup) (j : K) : j ∈ (delK k M).map (·.1) ↔ j ∈ M.map (·.1) ∧ (j ≠ k) := by
  induction M with
  | nil => simp [delK]
  | cons x m ih =>
    rw [List.map_cons, List.nodup_cons] at hnd
    have := ih hnd.2
    simp only [delK]
    by_cases e : k = x.1
    · rw [if_pos e]
      simp only [List.map_cons, List.mem_cons]
      constructor
      · intro hj
        exact ⟨.inr hj, fun e1 => hnd.1 (by rw [← e, ← e1]; exact hj)⟩
      · rintro ⟨h1 | h1, h2⟩
        · exact absurd (h1.trans e.symm) h2
        · exact h1
    · rw [if_neg e]
      simp only [List.map_cons, List.mem_cons, this]
      constructor
      · rintro (h1 | h1)
        · exact ⟨.inl h1, fun e1 => e (e1.symm.trans h1)⟩
        · exact ⟨.inr h1.1, h1.2⟩
      · rintro ⟨h1 | h1, h2⟩
        · exact .inl h1
        · exact .inr ⟨h1, h2⟩
/-- delete(m, k) in the round -/
theorem KRange.drop {t kt et : TypeId} (ht : P.underlying t = some (.map kt et)) (hL : KeyLaw kv P kt) {w : World} {b r : Nat} {M : List (K × Value)} {left : K → Prop} {cnt : Nat} (h : KRange kv w b r M left cnt) (k : K) :
    ∃ o cnt', (∀ kt' ty : TypeId, (Builtin.delete_ #[t, kt'] ty #[.map (some b), kv k]).run P w = .ok (.tuple #[]) (ChangeMaps.setBlock w b o)) ∧ KRange kv (ChangeMaps.setBlock w b o) b r (delK k M) (fun j => left j ∧ j ≠ k) cnt' ∧ cnt' ≤ cnt := by
  have hne := h.ne
  obtain ⟨es, clock, since, seen, c0, hb, hM, hst, hr, hold, hsc, hsk, rfl, hl1, hl2⟩ := h
  have hst2 := (MapKept.stamped_iff es clock).1 hst
  have hf := fun w => hL.find k es.toList M w hM
  have hset : ∀ (o : Obj), (setObj b o).run P w = .ok () (ChangeMaps.setBlock w b o) := fun o => by
    simp only [setObj, Sem.run, hb]; rfl
  have hg : (getObj b).run P w = .ok (.map es clock) w := MapKept.run_getObj_map hb
  have hkeys := keys_del (k := k) (hM.nodup hL.inj hst)
  cases hfi : findK k M 0 with
  | none =>
    rw [hfi] at hf
    have hnot := findK_none hfi
    refine ⟨.map es clock, _, fun kt' ty => ?_, ⟨es, clock, since, seen, c0, ChangeMaps.heap_setBlock_same hb _, by rw [delK_none hfi]; exact hM, hst, (ChangeMaps.heap_setBlock_other hb _ hne).trans hr, hold, hsc, hsk, rfl, fun e he j hj => ?_, fun j hj => (hkeys j).2 ⟨hl2 j hj.1, hj.2⟩⟩, Nat.le_refl _⟩
    · unfold Builtin.delete_
      simp [run_underlying ht, hg, hL.check, hf, hset]
    · obtain ⟨j', h1, h2⟩ := hM.entry he
      have hjj : j' = j := hL.inj _ _ (by rw [← h1, hj])
      subst hjj
      have hjk : j' ≠ k := fun e1 => hnot _ h2 e1.symm
      show (left j' ∧ j' ≠ k) ↔ _
      rw [← hl1 e he j' hj]
      exact ⟨fun h => h.1, fun h => ⟨h, hjk⟩⟩
  | some x =>
    rw [hfi] at hf
    obtain ⟨h1, h2, h3, h4⟩ := findK_lt hfi
    have hsub : (es.eraseIdxIfInBounds x.1).toList = es.toList.eraseIdx x.1 := Array.toList_eraseIdxIfInBounds
    have hsl : (es.eraseIdxIfInBounds x.1).toList.Sublist es.toList := by rw [hsub]; exact List.eraseIdx_sublist _ _
    have hM' : Ents kv (es.eraseIdxIfInBounds x.1) (delK k M) := by
      unfold Ents at hM ⊢
      rw [delK_some hfi, hsub, map_erase', map_erase', hM, Nat.sub_zero]
    refine ⟨.map (es.eraseIdxIfInBounds x.1) clock, _, fun kt' ty => ?_, ⟨es.eraseIdxIfInBounds x.1, clock, since, seen, c0, ChangeMaps.heap_setBlock_same hb _, hM', MapKept.stamped_erase hst _, (ChangeMaps.heap_setBlock_other hb _ hne).trans hr, fun e he => hold e (hsl.subset he), hsc, hsk, rfl, fun e he j hj => ?_, fun j hj => (hkeys j).2 ⟨hl2 j hj.1, hj.2⟩⟩, ?_⟩
    · unfold Builtin.delete_
      simp [run_underlying ht, hg, hL.check, hf, hset]
    · show (left j ∧ j ≠ k) ↔ _
      rw [← hl1 e (hsl.subset he) j hj]
      obtain ⟨j', q1, q2⟩ := hM'.entry he
      have hjj : j' = j := hL.inj _ _ (by rw [← q1, hj])
      subst hjj
      have hjk := ((hkeys j').1 (List.mem_map.2 ⟨_, q2, rfl⟩)).2
      exact ⟨fun h => h.1, fun h => ⟨h, hjk⟩⟩
    · have e1 : ∀ a : Array MapEntry, (leftOf a seen).size = (a.toList.filter fun e => !seen.contains e.born).length := fun a => by
        unfold leftOf
        rw [← Array.toList_filter, Array.length_toList]
      rw [e1, e1]
      exact (hsl.filter _).length_le
end

/-! integers as keys -/
theorem findNow_k (k : Int) : ∀ (es : List MapEntry) (M : List (Int × Value)) (i : Nat), es.map (fun e => (e.key, e.val)) = M.map (fun x => (Value.int .i64 x.1, x.2)) →
    Instr.findNow (.int .i64) (.int .i64 k) es i = some (findK k M i)
  | [], [], i, _ => rfl
  | e :: es, x :: M, i, h => by
    simp only [List.map_cons, List.cons.injEq, Prod.mk.injEq] at h
    obtain ⟨⟨h1, h2⟩, h3⟩ := h
    simp only [Instr.findNow, h1, Instr.sameNow, findK, if_true]
    by_cases hk : k = x.1
    · simp [hk, h2]
    · have : (k == x.1) = false := by simp [hk]
      simp only [this, hk, if_false]
      exact findNow_k k es M (i + 1) h3
  | [], _ :: _, _, h => by simp at h
  | _ :: _, [], _, h => by simp at h
theorem keyLaw_int {P : Program} {kt : TypeId} (hk : P.underlying kt = some (.int .i64)) : KeyLaw (fun k : Int => Value.int .i64 k) P kt where
  inj := fun a b h => by cases h; rfl
  check := fun b k w => by unfold Instr.checkKey; simp [run_underlying hk]
  find := fun k es M w h => by unfold Instr.findKey; simp [run_underlying hk, findNow_k k es M 0 h]
  stays := fun k => by simp [Instr.sameBits]
end Go.Proofs.YtileamjmhhifaaaGreat
