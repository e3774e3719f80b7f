/-
  Layer 15 (heap): the walk of HeapBack.
-/
import Derived.Test.YthehglhbgplfhaaHeap14
import Derived.Test.YthehglhbgplfhaaHeap16
import Derived.Test.YthehglhbgplfhaaHeap17
namespace Go.Proofs.Ythehglhbgplfhaa
open Go.RowKit Go.Joins
set_option linter.unusedVariables false
set_option linter.unusedSimpArgs false

/-! two chains with the same cells have the same records -/
theorem recs_cells (C : List Pg) (x : Int × ByteArray) : x ∈ recs 2 C ↔ ∃ k i, i < 6 ∧ cellA C k i = 1 ∧ x = ((((2 + k) * 8 + i : Nat) : Int), cellD C k i) := by
  constructor
  · intro h
    obtain ⟨k, hk, i, hi, ha, rfl⟩ := recs_mem h
    exact ⟨k, i, hi, by rw [cellA_lt hk]; exact ha, by rw [cellD_lt hk]⟩
  · rintro ⟨k, i, hi, ha, rfl⟩
    have hk : k < C.length := by
      by_cases h : k < C.length
      · exact h
      · rw [cellA, List.getD_eq_getElem?_getD, List.getElem?_eq_none (by omega)] at ha
        have h6 : i = 0 ∨ i = 1 ∨ i = 2 ∨ i = 3 ∨ i = 4 ∨ i = 5 := by omega
        rcases h6 with rfl | rfl | rfl | rfl | rfl | rfl <;> exact absurd ha (by decide)
    rw [cellA_lt hk] at ha
    rw [cellD_lt hk]
    have hm : ((((2 + k) * 8 + i : Nat) : Int), C[k].d i) ∈ pgRecs (2 + k) C[k] := List.mem_filterMap.2 ⟨i, by simpa using hi, by rw [if_pos ha]⟩
    have e : recs 2 C = recs 2 (C.take k) ++ (pgRecs (2 + k) C[k] ++ recs (2 + k + 1) (C.drop (k + 1))) := by
      have hC : C = C.take k ++ (C[k] :: C.drop (k + 1)) := by rw [List.getElem_cons_drop, List.take_append_drop]
      have h0 := congrArg (recs 2) hC
      rw [recs_append, List.length_take, Nat.min_eq_left (by omega)] at h0
      exact h0
    rw [e]
    exact List.mem_append_right _ (List.mem_append_left _ hm)
theorem sorted_prs : ∀ {a b : List (Int × ByteArray)}, a.Pairwise (fun x y => x.1 < y.1) → b.Pairwise (fun x y => x.1 < y.1) → (∀ x, x ∈ a ↔ x ∈ b) → a = b
  | [], [], _, _, _ => rfl
  | [], y :: s, _, _, h => absurd ((h y).2 (List.mem_cons_self ..)) (by simp)
  | x :: r, [], _, _, h => absurd ((h x).1 (List.mem_cons_self ..)) (by simp)
  | x :: r, y :: s, ha, hb, h => by
    obtain ⟨ha1, ha2⟩ := List.pairwise_cons.1 ha
    obtain ⟨hb1, hb2⟩ := List.pairwise_cons.1 hb
    have hxy : x = y := by
      rcases List.mem_cons.1 ((h x).1 (List.mem_cons_self ..)) with e | e
      · exact e
      rcases List.mem_cons.1 ((h y).2 (List.mem_cons_self ..)) with e' | e'
      · exact e'.symm
      have := ha1 y e'
      have := hb1 x e
      omega
    subst hxy
    rw [sorted_prs ha2 hb2 fun z => by
      have hz := h z
      simp only [List.mem_cons] at hz
      constructor
      · intro hz1
        rcases hz.1 (.inr hz1) with e | e
        · subst e; have := ha1 z hz1; omega
        · exact e
      · intro hz1
        rcases hz.2 (.inr hz1) with e | e
        · subst e; have := hb1 z hz1; omega
        · exact e]
theorem recs_same {C D : List Pg} (h : SameC C D) : recs 2 C = recs 2 D := by
  refine sorted_prs (recs_rise 2 C) (recs_rise 2 D) fun x => ?_
  rw [recs_cells, recs_cells]
  constructor
  · rintro ⟨k, i, hi, ha, rfl⟩
    exact ⟨k, i, hi, by rw [← (h k i hi).1]; exact ha, by rw [(h k i hi).2]⟩
  · rintro ⟨k, i, hi, ha, rfl⟩
    exact ⟨k, i, hi, by rw [(h k i hi).1]; exact ha, by rw [(h k i hi).2]⟩

/-- one change, as its undo tells it -/
def UStep (C C' : List Pg) (u : Un) : Prop :=
  C.length ≤ C'.length ∧ u.kind = 1 ∧ ∃ (k i : Nat), k < C'.length ∧ i < 6 ∧ u.page = ((2 + k : Nat) : Int) ∧ u.slot = (i : Int) ∧ u.st = cellA C k i ∧ u.d = cellD C k i ∧ okC u.st u.d = true ∧
    ∀ (k' i' : Nat), i' < 6 → ¬ (k' = k ∧ i' = i) → cellA C' k' i' = cellA C k' i' ∧ cellD C' k' i' = cellD C k' i'
/-- the changes that led from one chain to another, the last one first -/
def Hist (C0 : List Pg) : List Un → List Pg → Prop
  | [], C => SameC C C0 ∧ C0.length ≤ C.length
  | u :: U, C' => ∃ C, Hist C0 U C ∧ UStep C C' u
theorem Hist.same {C0 C C' : List Pg} {U : List Un} (h : Hist C0 U C) (hs : SameC C' C) (hl : C.length ≤ C'.length) : Hist C0 U C' := by
  cases U with
  | nil => exact ⟨hs.trans h.1, Nat.le_trans h.2 hl⟩
  | cons u U =>
    obtain ⟨D, h1, h2, h3, k, i, h4, h5, h6, h7, h8, h9, h10, h11⟩ := h
    exact ⟨D, h1, Nat.le_trans h2 hl, h3, k, i, by omega, h5, h6, h7, h8, h9, h10, fun k' i' hi' hne => ⟨(hs k' i' hi').1.trans (h11 k' i' hi' hne).1, (hs k' i' hi').2.trans (h11 k' i' hi' hne).2⟩⟩
theorem Hist.step {C0 C C' : List Pg} {U : List Un} {u : Un} {e : Int} (h : Hist C0 U C) (hd : DoStep C C' u e) : (e = 0 ∧ u.kind = 1 ∧ Hist C0 (u :: U) C') ∨ ((e ≠ 0 ∨ u.kind = 0) ∧ Hist C0 U C') := by
  obtain ⟨hl, ⟨hs, he⟩ | ⟨he, hk, k, i, h4, h5, h6, h7, h8, h9, h10, h11⟩⟩ := hd
  · exact .inr ⟨he, h.same hs hl⟩
  · exact .inl ⟨he, hk, C, h, hl, hk, k, i, h4, h5, h6, h7, h8, h9, h10, h11⟩

/-! undos in a row -/
def unRow (l : List Un) : List Value := l.flatMap fun u => u.cs.toList
theorem unRow_len (l : List Un) : (unRow l).length = l.length * 7 := by
  induction l with
  | nil => rfl
  | cons x r ih =>
    have e : unRow (x :: r) = x.cs.toList ++ unRow r := rfl
    rw [e, List.length_append, ih, List.length_cons]
    have : x.cs.toList.length = 7 := rfl
    omega
theorem unRow_snoc (l : List Un) (x : Un) : unRow (l ++ [x]) = unRow l ++ x.cs.toList := by simp [unRow]
theorem unRow_get (I : List Un) (j k : Nat) (hj : j < I.length) (hk : k < 7) : (unRow I)[j * 7 + k]? = I[j].cs.toList[k]? := by
  induction I generalizing j with
  | nil => simp at hj
  | cons x r ih =>
    have e : unRow (x :: r) = x.cs.toList ++ unRow r := rfl
    have el : x.cs.toList.length = 7 := rfl
    cases j with
    | zero =>
      rw [e, List.getElem?_append_left (by rw [el]; omega)]
      simp
    | succ j =>
      rw [e, List.getElem?_append_right (by rw [el]; omega), el, show (j + 1) * 7 + k - 7 = j * 7 + k from by omega]
      exact ih j (by simpa using hj)
theorem load_un {w : World} {B g n c : Nat} {I : List Un} (h : w.ownsRow B 36 7 (.slice (some ⟨g, 0, none⟩) n c) n (unRow I)) (j : Nat) (hj : j < I.length) :
    (loadUn (.pointer (some ⟨g, j * 7, none⟩))).run Try.prog w = .ok I[j].v w := by
  have hl := h.1
  rw [unRow_len] at hl
  exact run_loadAt_mid w g (j * 7) 36 I[j].cs.toList _ (fun k v hv => by
    have hk : k < 7 := (List.getElem?_eq_some_iff.1 hv).1
    rw [h.cellAt (j * 7 + k) (by omega), unRow_get I j k hj hk]
    exact hv) Try.underlying36 rfl sizeUn
def rowUn (parts : Array (Nat × Value)) : Sem Value := Instr.buildSlice 93 1 parts
@[go_sem ↓] theorem rowUn_eq (parts : Array (Nat × Value)) : Instr.buildSlice 93 1 parts = rowUn parts := rfl
@[go_sem] theorem run_rowUn (w : World) (u : Un) : (rowUn #[(0, u.v)]).run Try.prog w = .ok (.slice (some ⟨w.heap.size, 0, none⟩) 1 1) (w.alloc (.cells u.cs 36)) := by kernel_rfl
theorem infoUn : (Try.prog.info? 36).map (fun i => (i.zero, i.size, i.bytes)) = some (some Un.zero.v, 7, 72) := by kernel_rfl

/-! == on pairs; Same -/
set_option maxRecDepth 100000 in
theorem run_eq_pair (d : Nat) (i : Int) (s x : ByteArray) (w : World) : (Op.equalIn (d + 2) 90 (.agg #[.string s, .int .i64 i, .string x]) (.agg #[.string s, .int .i64 i, .string x])).run Try.prog w = .ok true w := by
  rw [run_equalIn_agg w (d + 1) 90 _ _ (by kernel_rfl) (by kernel_rfl)]
  simp only [Program.fieldsOf, Try.underlying90]
  have p0 : ∀ (a b c : Value), (part 9 #[a, b, c] 0).run Try.prog w = .ok a w := fun a b c => by kernel_rfl
  have p1 : ∀ (a b c : Value), (part 3 #[a, b, c] 1).run Try.prog w = .ok b w := fun a b c => by kernel_rfl
  have p2 : ∀ (a b c : Value), (part 9 #[a, b, c] 2).run Try.prog w = .ok c w := fun a b c => by kernel_rfl
  have e0 := run_equalIn_string (P := Try.prog) w d 9 s s Try.underlying9
  have e1 := run_equalIn_int (P := Try.prog) w d 3 .i64 .i64 i i Try.underlying3
  have e2 := run_equalIn_string (P := Try.prog) w d 9 x x Try.underlying9
  have hh : true = ((s.toList == s.toList) && ((i == i) && ((x.toList == x.toList) && true))) := by simp
  rw [hh]
  exact eqF_cons (by decide) (p0 _ _ _) (p0 _ _ _) e0 (eqF_cons (by decide) (p1 _ _ _) (p1 _ _ _) e1 (eqF_cons (by decide) (p2 _ _ _) (p2 _ _ _) e2 eqF_nil))
set_option maxRecDepth 100000 in
@[go_sem] theorem run_eq_pair10 (i : Int) (s x : ByteArray) (w : World) : (Op.equalIn 10000 90 (.agg #[.string s, .int .i64 i, .string x]) (.agg #[.string s, .int .i64 i, .string x])).run Try.prog w = .ok true w := run_eq_pair 9998 i s x w

set_option maxHeartbeats 4000000 in
set_option maxRecDepth 100000 in
theorem same15 (B1 B2 : Nat) (v1 v2 : Value) (I : List (Int × ByteArray)) (w : World) (h1 : w.ownsRow B1 90 3 v1 I.length (prRow I)) (h2 : w.ownsRow B2 90 3 v2 I.length (prRow I)) (hn : I.length ≤ 100000) :
    Calls Try.prog 39 #[v1, v2] w fun e w' => e = .returned (.bool true) ∧ Below w.heap.size w w' := by
  obtain ⟨vp, vc, hv1⟩ : ∃ vp vc, v1 = .slice vp I.length vc := by
    rcases ownsRow_forms h1 with ⟨h1, h2⟩ | ⟨g, c, h1⟩
    · exact ⟨_, _, by rw [h1, h2]⟩
    · exact ⟨_, _, h1⟩
  obtain ⟨up, uc, hv2⟩ : ∃ vp vc, v2 = .slice vp I.length vc := by
    rcases ownsRow_forms h2 with ⟨h1, h2⟩ | ⟨g, c, h1⟩
    · exact ⟨_, _, by rw [h1, h2]⟩
    · exact ⟨_, _, h1⟩
  subst hv1 hv2
  have H1 := Lib.hid h1
  have H2 := Lib.hid h2
  clear h1 h2
  go_enter Try.func39, Try.ntmps39
  go_wp2_with fail
  go_loopw [5] (fun i wr => ∃ k : Nat, k ≤ I.length ∧ i = .int .i64 k ∧ Below w.heap.size w wr) (fun i _ => I.length - (intOf i).toNat)
  case atStart => exact ⟨0, by omega, rfl, Below.refl _ _⟩
  case round =>
    obtain ⟨k, hk, rfl, hbl⟩ := hrel
    have HB := Lib.hid hbl
    by_cases hlt : k < I.length
    · obtain ⟨g, hg⟩ : ∃ g, vp = some ⟨g, 0, none⟩ := by
        obtain ⟨g, cap, hv⟩ := ownsRow_form H1.out (by omega)
        simp only [Value.slice.injEq] at hv
        exact ⟨g, hv.1⟩
      obtain ⟨g2, hg2⟩ : ∃ g, up = some ⟨g, 0, none⟩ := by
        obtain ⟨g, cap, hv⟩ := ownsRow_form H2.out (by omega)
        simp only [Value.slice.injEq] at hv
        exact ⟨g, hv.1⟩
      subst hg hg2
      have hkI : (k : Int) < (I.length : Int) := by omega
      obtain ⟨a0, a1, a2⟩ := pr_cells (own_low H1.out hbl) k hlt
      obtain ⟨c0, c1, c2⟩ := pr_cells (own_low H2.out hbl) k hlt
      obtain ⟨b0, b1, b2⟩ := pr_cells (own_low H1.out hbl).drew k hlt
      obtain ⟨d0, d1, d2⟩ := pr_cells (own_low H2.out hbl).drew k hlt
      generalize I[k] = x at *
      obtain ⟨i, s⟩ := x
      simp only at a1 a2 c1 c2 b1 b2 d1 d2
      clear hbl
      go_wp2_with fail
      go_region
      all_goals
        go_wp2_with fail
        go_roundw
        case rel => exact ⟨k + 1, by omega, by go_num, HB.out.drew⟩
        case measure => simp [intOf]; omega
    · clear hbl
      go_wp2_with fail
      go_ret
      exact ⟨rfl, HB.out⟩
end Go.Proofs.Ythehglhbgplfhaa
