/-
  Layer 15 (heap): what Read says of the records; how many there are.
-/
import Derived.Test.YthehglhbgplfhaaRecs
import Derived.Test.YthehglhbgplfhaaHeap16
namespace Go.Proofs.Ythehglhbgplfhaa
open Go.RowKit Go.Joins
set_option linter.unusedVariables false
set_option linter.unusedSimpArgs false

/-- a fresh heap that has landed -/
theorem clean_start (N n : Nat) (h4 : 4 ≤ n) (hN : n ≤ N) (h1 : N ≤ 1024) : Clean ((H0 N n).after 0) n N [freshH] := by
  rw [Vol.after, if_pos rfl]
  exact Clean.landed (H0_ok N n h4 (by omega) hN) (H0_fit N n h4 hN h1) hN

theorem hit_iff {a : Nat} {p : Pg} {x : Nat} : hitB a p (x : Int) = true ↔ a = x / 8 ∧ x % 8 < 6 ∧ p.a (x % 8) = 1 := by
  show (decide (a = x / 8) && decide (x % 8 < 6) && decide (p.a (x % 8) = 1)) = true ↔ _
  simp only [Bool.and_eq_true, decide_eq_true_eq, and_assoc]
theorem hit_at (a i : Nat) (p : Pg) (hi : i < 6) (ha : p.a i = 1) : hitB a p ((a * 8 + i : Nat) : Int) = true := by
  have e1 : (a * 8 + i) / 8 = a := by omega
  have e2 : (a * 8 + i) % 8 = i := by omega
  rw [hit_iff, e1, e2]
  exact ⟨rfl, hi, ha⟩
/-- is there a record of that number? -/
def hitC (C : List Pg) (id : Nat) : Bool := (List.range C.length).any fun k => hitB (2 + k) (C.getD k Pg.zero) (id : Int)
theorem hitC_iff (C : List Pg) (id : Nat) : hitC C id = true ↔ ∃ k, ∃ h : k < C.length, hitB (2 + k) C[k] (id : Int) = true := by
  simp only [hitC, List.any_eq_true, List.mem_range]
  constructor
  · rintro ⟨k, hk, h⟩; exact ⟨k, hk, by rw [getD_get hk] at h; exact h⟩
  · rintro ⟨k, hk, h⟩; exact ⟨k, hk, by rw [getD_get hk]; exact h⟩
theorem recs_ids (C : List Pg) (x : Int) : x ∈ (recs 2 C).map (·.1) ↔ ∃ id : Nat, x = (id : Int) ∧ hitC C id = true := by
  constructor
  · intro h
    obtain ⟨y, hy, rfl⟩ := List.mem_map.1 h
    obtain ⟨k, hk, i, hi, ha, rfl⟩ := recs_mem hy
    exact ⟨_, rfl, (hitC_iff C _).2 ⟨k, hk, hit_at (2 + k) i C[k] hi ha⟩⟩
  · rintro ⟨id, rfl, h⟩
    obtain ⟨k, hk, h⟩ := (hitC_iff C id).1 h
    obtain ⟨h1, h2, h3⟩ := hit_iff.1 h
    refine List.mem_map.2 ⟨(((2 + k) * 8 + id % 8 : Nat), C[k].d (id % 8)), ?_, ?_⟩
    · have hm : ((((2 + k) * 8 + id % 8 : Nat) : Int), C[k].d (id % 8)) ∈ pgRecs (2 + k) C[k] := List.mem_filterMap.2 ⟨id % 8, by simpa using h2, by rw [if_pos h3]⟩
      have e : recs 2 C = recs 2 (C.take k) ++ (pgRecs (2 + k) C[k] ++ recs (2 + k + 1) (C.drop (k + 1))) := by
        have hC : C = C.take k ++ (C[k] :: C.drop (k + 1)) := by rw [List.getElem_cons_drop, List.take_append_drop]
        have h0 := congrArg (recs 2) hC
        rw [recs_append, List.length_take, Nat.min_eq_left (by omega)] at h0
        exact h0
      rw [e]
      exact List.mem_append_right _ (List.mem_append_left _ hm)
    · show (((2 + k) * 8 + id % 8 : Nat) : Int) = (id : Int)
      omega
theorem sorted_uniq : ∀ {a b : List Int}, a.Pairwise (· < ·) → b.Pairwise (· < ·) → (∀ x, x ∈ a ↔ x ∈ b) → a = b
  | [], [], _, _, _ => rfl
  | [], y :: s, _, _, h => absurd ((h y).2 (List.mem_cons_self ..)) (by simp)
  | x :: r, [], _, _, h => absurd ((h x).1 (List.mem_cons_self ..)) (by simp)
  | x :: r, y :: s, ha, hb, h => by
    obtain ⟨ha1, ha2⟩ := List.pairwise_cons.1 ha
    obtain ⟨hb1, hb2⟩ := List.pairwise_cons.1 hb
    have hxy : x = y := by
      rcases List.mem_cons.1 ((h x).1 (List.mem_cons_self ..)) with e | e
      · exact e
      rcases List.mem_cons.1 ((h y).2 (List.mem_cons_self ..)) with e' | e'
      · exact e'.symm
      have := ha1 y e'
      have := hb1 x e
      omega
    subst hxy
    rw [sorted_uniq ha2 hb2 fun z => by
      have hz := h z
      simp only [List.mem_cons] at hz
      constructor
      · intro hz1
        rcases hz.1 (.inr hz1) with e | e
        · subst e; exact absurd (ha1 z hz1) (by omega)
        · exact e
      · intro hz1
        rcases hz.2 (.inr hz1) with e | e
        · subst e; exact absurd (hb1 z hz1) (by omega)
        · exact e]
/-- as many records as numbers that have one -/
theorem count_recs (C : List Pg) (hC : C.length ≤ 38) : ((List.range 320).filter (hitC C)).length = (recs 2 C).length := by
  have h : ((List.range 320).filter (hitC C)).map (fun x : Nat => (x : Int)) = (recs 2 C).map (·.1) := by
    refine sorted_uniq ?_ ?_ fun x => ?_
    · rw [List.pairwise_map]
      refine List.Pairwise.imp ?_ (List.Pairwise.filter _ (List.pairwise_lt_range (n := 320)))
      intro a b hab
      show (a : Int) < (b : Int)
      omega
    · rw [List.pairwise_map]
      exact recs_rise 2 C
    · rw [recs_ids]
      constructor
      · intro hx
        obtain ⟨id, hid, rfl⟩ := List.mem_map.1 hx
        exact ⟨id, rfl, (List.mem_filter.1 hid).2⟩
      · rintro ⟨id, rfl, hid⟩
        refine List.mem_map.2 ⟨id, List.mem_filter.2 ⟨?_, hid⟩, rfl⟩
        obtain ⟨k, hk, h⟩ := (hitC_iff C id).1 hid
        have := (hit_iff.1 h).1
        simp
        omega
  have := congrArg List.length h
  simpa using this
def cntTo (C : List Pg) (m : Nat) : Nat := ((List.range m).filter (hitC C)).length
theorem cntTo_succ (C : List Pg) (m : Nat) : cntTo C (m + 1) = cntTo C m + if hitC C m = true then 1 else 0 := by
  unfold cntTo
  rw [List.range_succ, List.filter_append, List.length_append]
  by_cases h : hitC C m = true
  · simp [h]
  · simp [h]
theorem cntTo_le (C : List Pg) (m : Nat) : cntTo C m ≤ m := by
  unfold cntTo
  have := List.length_filter_le (hitC C) (List.range m)
  simpa using this

/-- what Read answers of a record -/
theorem read_rec {S : Vol} {n : Nat} {C : List Pg} (hh : HeapOk S n C) (b mb hb pb : Nat) (x : Int × ByteArray) (hx : x ∈ recs 2 C) (w : World) (hs : StageAt w b mb hb pb S) :
    Calls Try.prog 33 #[.pointer (some ⟨b, 0, none⟩), .int .i64 1, .int .i64 x.1] w fun e w' => e = .returned (.tuple #[.string x.2, .int .i64 0]) ∧ Below w.heap.size w w' := by
  obtain ⟨k, hk, i, hi, ha, rfl⟩ := recs_mem hx
  have hn := hh.n1024
  have ht := hh.top
  have hhit := hit_at (2 + k) i C[k] hi ha
  refine (read_any hh b mb hb pb _ (by show (((2 + k) * 8 + i : Nat) : Int) < _; omega) w hs).mono ?_
  rintro e w' ⟨hb1, ⟨k', hk', h', rfl⟩ | ⟨hno, rfl⟩⟩
  · have e1 : k' = k := by
      have := (hit_facts h').2.1
      have := (hit_facts hhit).2.1
      omega
    subst e1
    refine ⟨?_, hb1⟩
    have e2 : ((((2 + k') * 8 + i : Nat) : Int) % 8).toNat = i := by omega
    show Ending.returned (.tuple #[.string (C[k'].d ((((2 + k') * 8 + i : Nat) : Int) % 8).toNat), .int .i64 0]) = _
    rw [e2]
  · have := hno k hk
    rw [hhit] at this; cases this
/-- what Read's error says -/
theorem read_hit {S : Vol} {n : Nat} {C : List Pg} (hh : HeapOk S n C) (b mb hb pb : Nat) (id : Nat) (hid : id < 9223372036854775808) (w : World) (hs : StageAt w b mb hb pb S) :
    Calls Try.prog 33 #[.pointer (some ⟨b, 0, none⟩), .int .i64 1, .int .i64 (id : Int)] w fun e w' => (∃ d, e = .returned (.tuple #[.string d, .int .i64 (if hitC C id = true then 0 else 150)])) ∧ Below w.heap.size w w' := by
  refine (read_any hh b mb hb pb (id : Int) (by omega) w hs).mono ?_
  rintro e w' ⟨hb1, ⟨k, hk, h, rfl⟩ | ⟨hno, rfl⟩⟩
  · have : hitC C id = true := (hitC_iff C id).2 ⟨k, hk, h⟩
    rw [if_pos this]
    exact ⟨⟨_, rfl⟩, hb1⟩
  · have : ¬ hitC C id = true := fun h => by
      obtain ⟨k, hk, h⟩ := (hitC_iff C id).1 h
      rw [hno k hk] at h; cases h
    rw [if_neg this]
    exact ⟨⟨_, rfl⟩, hb1⟩
end Go.Proofs.Ythehglhbgplfhaa
