/-
  Layer 14 (space): the contracts of Take, Give, Used.
-/
import Derived.Test.YtljommhbhpappaaSpace2
namespace Go.Proofs.Ytljommhbhpappaa
open Go.RowKit Go.Joins
set_option linter.unusedVariables false
set_option linter.unusedSimpArgs false

/-- a stage whose page 1 is a map of so many pages -/
structure MapAt (S : Vol) (m : Pg) (n : Nat) : Prop where
  e : stE S 1 = 0
  p : stPg S 1 = m
  k : m.k = 2
  cnt : m.n + 1 = n
  lo : 1 ≤ n
  hi : n ≤ 1024
  sz : ∀ i, i < 6 → (m.d i).size = 34
  ok : okPg m = true

theorem MapAt.map {S : Vol} {m : Pg} {n : Nat} (h : MapAt S m n) : MapOk m := ⟨h.k, by have := h.cnt; have := h.lo; omega, by have := h.cnt; have := h.hi; omega, h.sz⟩

theorem d_setD (p : Pg) (k j : Nat) (hk : k < 6) (hj : j < 6) (x : ByteArray) : (p.setD k x).d j = if j = k then x else p.d j := by
  have h6 : k = 0 ∨ k = 1 ∨ k = 2 ∨ k = 3 ∨ k = 4 ∨ k = 5 := by omega
  have g6 : j = 0 ∨ j = 1 ∨ j = 2 ∨ j = 3 ∨ j = 4 ∨ j = 5 := by omega
  rcases h6 with rfl | rfl | rfl | rfl | rfl | rfl <;> rcases g6 with rfl | rfl | rfl | rfl | rfl | rfl <;> rfl
theorem a_setD (p : Pg) (k j : Nat) (hk : k < 6) (x : ByteArray) : (p.setD k x).a j = p.a j := by
  have h6 : k = 0 ∨ k = 1 ∨ k = 2 ∨ k = 3 ∨ k = 4 ∨ k = 5 := by omega
  rcases h6 with rfl | rfl | rfl | rfl | rfl | rfl <;> rfl
theorem h_setD (p : Pg) (k : Nat) (hk : k < 6) (x : ByteArray) : (p.setD k x).k = p.k ∧ (p.setD k x).l = p.l ∧ (p.setD k x).s = p.s ∧ (p.setD k x).n = p.n := by
  have h6 : k = 0 ∨ k = 1 ∨ k = 2 ∨ k = 3 ∨ k = 4 ∨ k = 5 := by omega
  rcases h6 with rfl | rfl | rfl | rfl | rfl | rfl <;> exact ⟨rfl, rfl, rfl, rfl⟩
theorem mark_size (d : ByteArray) (j : Nat) (yes : Bool) : (markD d j yes).size = d.size := Array.size_setIfInBounds

theorem mark_sz (m : Pg) (id : Nat) (yes : Bool) (h : id < 1632) (hs : ∀ i, i < 6 → (m.d i).size = 34) (i : Nat) (hi : i < 6) : ((markPg m id yes).d i).size = 34 := by
  rw [markPg, d_setD _ _ _ (by omega) hi]
  split
  · rw [mark_size, hs _ (by omega)]
  · exact hs i hi
theorem mark_k (m : Pg) (id : Nat) (yes : Bool) (h : id < 1632) : (markPg m id yes).k = m.k ∧ (markPg m id yes).n = m.n := ⟨(h_setD m _ (by omega) _).1, (h_setD m _ (by omega) _).2.2.2⟩
theorem okPg_of {p : Pg} (h : okH p = true) (hc : ∀ i, i < 6 → okC (p.a i) (p.d i) = true) : okPg p = true := by
  simp only [okPg, h, Bool.true_and, okCs, List.all_eq_true, List.mem_range'_1]
  intro i hi
  exact hc i (by omega)
theorem okPg_to {p : Pg} (h : okPg p = true) : okH p = true ∧ ∀ i, i < 6 → okC (p.a i) (p.d i) = true := by
  simp only [okPg, Bool.and_eq_true, okCs, List.all_eq_true, List.mem_range'_1] at h
  exact ⟨h.1, fun i hi => h.2 i (by omega)⟩
theorem mark_ok (m : Pg) (id : Nat) (yes : Bool) (h : id < 1632) (hs : ∀ i, i < 6 → (m.d i).size = 34) (ho : okPg m = true) : okPg (markPg m id yes) = true := by
  obtain ⟨h1, h2⟩ := okPg_to ho
  have hh := h_setD m (id / 272) (by omega) (markD (m.d (id / 272)) (id % 272) yes)
  refine okPg_of ?_ fun i hi => ?_
  · simp only [okH, markPg, hh] at h1 ⊢
    exact h1
  · have e1 : (markPg m id yes).a i = m.a i := a_setD m _ i (by omega) _
    have e2 := mark_sz m id yes h hs i hi
    have h3 := h2 i hi
    have h4 : (m.d i).toList.isEmpty = false := sem_f (by intro e; have := hs i hi; rw [e] at this; cases this)
    have h5 : ((markPg m id yes).d i).toList.isEmpty = false := sem_f (by intro e; rw [e] at e2; cases e2)
    simp only [okC, hs i hi, h4, Bool.or_false] at h3
    simp only [okC, e1, e2, h5, Bool.or_false]
    exact h3
theorem okSet_one {p : Pg} (h : okPg p = true) (id : Int) (h0 : 0 ≤ id) (h1 : id < 1024) : okSet id p = true := by
  simp [okSet, h, h0, h1]
theorem MapAt.mark {S : Vol} {m : Pg} {n : Nat} (h : MapAt S m n) (id : Nat) (yes : Bool) (hi : id < 1632) : MapAt (S.put 1 (markPg m id yes)) (markPg m id yes) n :=
  ⟨by rw [stE_put, if_pos rfl], by rw [stPg_put, if_pos rfl], by rw [(mark_k m id yes hi).1, h.k], by rw [(mark_k m id yes hi).2, h.cnt], h.lo, h.hi, mark_sz m id yes hi h.sz, mark_ok m id yes hi h.sz h.ok⟩

set_option maxHeartbeats 2000000 in
set_option maxRecDepth 100000 in
theorem take_some (S : Vol) (b mb hb pb : Nat) (m : Pg) (n : Nat) (w : World) (hs : StageAt w b mb hb pb S) (hm : MapAt S m n) (id : Nat) (hid : id < n) (hf : bitAt m id = false) (hbelow : ∀ j, j < id → bitAt m j = true) :
    Calls Try.prog 41 #[.pointer (some ⟨b, 0, none⟩)] w fun e w' => e = .returned (.tuple #[.int .i64 id, .int .i64 0]) ∧ w.grownBy w' (some mb) ∧ StageAt w' b mb hb pb (S.put 1 (markPg m id true)) := by
  have HR := Lib.hid (fun w' h => read_ok S b mb hb pb m w' h hm.e hm.p hm.map)
  rw [hm.cnt] at HR
  have hn := hm.hi
  have hl := hm.lo
  have HS := Lib.hid hs
  have HT := Lib.hid (fun j (hj : j < n) w => taken_any m j (by omega) (hm.sz _ (by omega)) w)
  have HM := Lib.hid (fun w => mark_any m id true (by omega) (hm.sz _ (by omega)) w)
  have HSet := Lib.hid (fun w' h => set_any S b mb hb pb 1 (markPg m id true) w' h)
  rw [okSet_one (mark_ok m id true (by omega) hm.sz hm.ok) 1 (by omega) (by omega)] at HSet
  have e0 : chkE true = 0 := rfl
  rw [e0] at HSet
  simp only [if_true] at HSet
  have hlt := hs.lt
  obtain ⟨l1, l2, l3, l4⟩ := hlt
  generalize markPg m id true = m2 at *
  have HF := Lib.hid hf
  have HBel := Lib.hid hbelow
  clear hs hf hbelow e0 hm
  go_enter Try.func41, Try.ntmps41
  go_wp2_with fail
  refine (HR.out _ HS.out).mono ?_; rintro e w1 ⟨rfl, hb1⟩
  have hsz := hb1.size
  have HB1 := Lib.hid hb1
  clear hb1
  go_wp2_with fail
  go_loopw [18] (fun i wr => ∃ k : Nat, k ≤ id ∧ i = .int .i64 k ∧ Below (w1.heap.size + 1) (w1.alloc (.cells m.cs 112)) wr) (fun i _ => n - (intOf i).toNat)
  case atStart => exact ⟨0, by omega, rfl, (Below.refl _ _)⟩
  case round =>
    obtain ⟨k, hk, rfl, hb⟩ := hrel
    have hz := hb.size
    simp only [World.size_alloc] at hz
    have R1 : rowAt wr w1.heap.size = some m.cs := (rowAt_below hb (by omega)).trans (rowAt_at w1 m.cs _ _ rfl)
    have HB3 := Lib.hid hb
    clear hb
    have hkn : k < n := by omega
    by_cases hki : k < id
    · have hbit := HBel.out k hki
      have HTk := Lib.hid (HT.out k hkn)
      rw [hbit] at HTk
      go_wp2_with fail
      refine (HTk.out _).mono ?_; rintro e w2 ⟨rfl, hb2⟩
      go_wp2_with fail
      go_roundw
      case rel => exact ⟨k + 1, by omega, by go_num, HB3.out.trans (hb2.mono (by omega))⟩
      case measure => simp [intOf]; omega
    · have hke : k = id := by omega
      subst hke
      have hbit := HF.out
      have HTk := Lib.hid (HT.out k hkn)
      rw [hbit] at HTk
      go_wp2_with fail
      refine (HTk.out _).mono ?_; rintro e w2 ⟨rfl, hb2⟩
      have hz2 := hb2.size
      have R2 : rowAt w2 w1.heap.size = some m.cs := (rowAt_below hb2 (by omega)).trans R1
      have HB4 := Lib.hid hb2
      clear hb2
      go_wp2_with fail
      refine (HM.out _).mono ?_; rintro e w3 ⟨rfl, hb3⟩
      have hz3 := hb3.size
      go_wp2_with fail
      have Ball : Below w.heap.size w w3 := (HB1.out.alloc (by omega) (.cells m.cs 112)).trans (((HB3.out.mono (by omega)).trans (HB4.out.mono (by omega))).trans (hb3.mono (by omega)))
      refine (HSet.out _ (HS.out.below Ball ⟨l1, l2, l3, l4⟩)).mono ?_; rintro e w4 ⟨rfl, hg4, hs4⟩
      go_wp2_with fail
      go_ret2
      exact ⟨rfl, (grown_of_below Ball _).trans hg4, hs4⟩

set_option maxHeartbeats 2000000 in
set_option maxRecDepth 100000 in
theorem take_none (S : Vol) (b mb hb pb : Nat) (m : Pg) (n : Nat) (w : World) (hs : StageAt w b mb hb pb S) (hm : MapAt S m n) (hbelow : ∀ j, j < n → bitAt m j = true) :
    Calls Try.prog 41 #[.pointer (some ⟨b, 0, none⟩)] w fun e w' => e = .returned (.tuple #[.int .i64 0, .int .i64 140]) ∧ Below w.heap.size w w' := by
  have HR := Lib.hid (fun w' h => read_ok S b mb hb pb m w' h hm.e hm.p hm.map)
  rw [hm.cnt] at HR
  have hn := hm.hi
  have hl := hm.lo
  have HS := Lib.hid hs
  have HT := Lib.hid (fun j (hj : j < n) w => taken_any m j (by omega) (hm.sz _ (by omega)) w)
  have hlt := hs.lt
  obtain ⟨l1, l2, l3, l4⟩ := hlt
  have HBel := Lib.hid hbelow
  clear hs hbelow hm
  go_enter Try.func41, Try.ntmps41
  go_wp2_with fail
  refine (HR.out _ HS.out).mono ?_; rintro e w1 ⟨rfl, hb1⟩
  have hsz := hb1.size
  have HB1 := Lib.hid hb1
  clear hb1
  go_wp2_with fail
  go_loopw [18] (fun i wr => ∃ k : Nat, k ≤ n ∧ i = .int .i64 k ∧ Below (w1.heap.size + 1) (w1.alloc (.cells m.cs 112)) wr) (fun i _ => n - (intOf i).toNat)
  case atStart => exact ⟨0, by omega, rfl, (Below.refl _ _)⟩
  case round =>
    obtain ⟨k, hk, rfl, hb⟩ := hrel
    have hz := hb.size
    simp only [World.size_alloc] at hz
    have R1 : rowAt wr w1.heap.size = some m.cs := (rowAt_below hb (by omega)).trans (rowAt_at w1 m.cs _ _ rfl)
    have HB3 := Lib.hid hb
    clear hb
    by_cases hki : k < n
    · have hbit := HBel.out k hki
      have HTk := Lib.hid (HT.out k hki)
      rw [hbit] at HTk
      go_wp2_with fail
      refine (HTk.out _).mono ?_; rintro e w2 ⟨rfl, hb2⟩
      go_wp2_with fail
      go_roundw
      case rel => exact ⟨k + 1, by omega, by go_num, HB3.out.trans (hb2.mono (by omega))⟩
      case measure => simp [intOf]; omega
    · have hke : k = n := by omega
      subst hke
      go_wp2_with fail
      go_ret2
      exact ⟨rfl, (HB1.out.alloc (by omega) (.cells m.cs 112)).trans (HB3.out.mono (by omega))⟩

set_option maxHeartbeats 2000000 in
set_option maxRecDepth 100000 in
theorem give_ok (S : Vol) (b mb hb pb : Nat) (m : Pg) (n : Nat) (w : World) (hs : StageAt w b mb hb pb S) (hm : MapAt S m n) (id : Nat) (h2 : 2 ≤ id) (hid : id < n) (hf : bitAt m id = true) :
    Calls Try.prog 43 #[.pointer (some ⟨b, 0, none⟩), .int .i64 id] w fun e w' => e = .returned (.int .i64 0) ∧ w.grownBy w' (some mb) ∧ StageAt w' b mb hb pb (S.put 1 (markPg m id false)) := by
  have HR := Lib.hid (fun w' h => read_ok S b mb hb pb m w' h hm.e hm.p hm.map)
  rw [hm.cnt] at HR
  have hn := hm.hi
  have hl := hm.lo
  have HS := Lib.hid hs
  have HT := Lib.hid (fun w => taken_any m id (by omega) (hm.sz _ (by omega)) w)
  rw [hf] at HT
  have HM := Lib.hid (fun w => mark_any m id false (by omega) (hm.sz _ (by omega)) w)
  have HSet := Lib.hid (fun w' h => set_any S b mb hb pb 1 (markPg m id false) w' h)
  rw [okSet_one (mark_ok m id false (by omega) hm.sz hm.ok) 1 (by omega) (by omega)] at HSet
  have e0 : chkE true = 0 := rfl
  rw [e0] at HSet
  simp only [if_true] at HSet
  have hlt := hs.lt
  obtain ⟨l1, l2, l3, l4⟩ := hlt
  generalize markPg m id false = m2 at *
  clear hs hf e0 hm
  go_enter Try.func43, Try.ntmps43
  go_wp2_with fail
  refine (HR.out _ HS.out).mono ?_; rintro e w1 ⟨rfl, hb1⟩
  have hsz := hb1.size
  have HB1 := Lib.hid hb1
  clear hb1
  go_wp2_with fail
  refine (HT.out _).mono ?_; rintro e w2 ⟨rfl, hb2⟩
  have hz2 := hb2.size
  simp only [World.size_alloc] at hz2
  have R2 : rowAt w2 w1.heap.size = some m.cs := (rowAt_below hb2 (by go_size)).trans (rowAt_at w1 m.cs _ _ rfl)
  have HB2 := Lib.hid hb2
  clear hb2
  go_wp2_with fail
  refine (HM.out _).mono ?_; rintro e w3 ⟨rfl, hb3⟩
  have hz3 := hb3.size
  go_wp2_with fail
  have Ball : Below w.heap.size w w3 := (HB1.out.alloc (by omega) (.cells m.cs 112)).trans ((HB2.out.mono (by go_size)).trans (hb3.mono (by omega)))
  refine (HSet.out _ (HS.out.below Ball ⟨l1, l2, l3, l4⟩)).mono ?_; rintro e w4 ⟨rfl, hg4, hs4⟩
  go_wp2_with fail
  go_ret
  exact ⟨rfl, (grown_of_below Ball _).trans hg4, hs4⟩

set_option maxHeartbeats 2000000 in
set_option maxRecDepth 100000 in
theorem give_bad (S : Vol) (b mb hb pb : Nat) (m : Pg) (n : Nat) (w : World) (hs : StageAt w b mb hb pb S) (hm : MapAt S m n) (id : Int) (hbad : id < 2 ∨ (n : Int) ≤ id ∨ bitAt m id.toNat = false) :
    Calls Try.prog 43 #[.pointer (some ⟨b, 0, none⟩), .int .i64 id] w fun e w' => e = .returned (.int .i64 1) ∧ Below w.heap.size w w' := by
  have HR := Lib.hid (fun w' h => read_ok S b mb hb pb m w' h hm.e hm.p hm.map)
  rw [hm.cnt] at HR
  have hn := hm.hi
  have hl := hm.lo
  have HS := Lib.hid hs
  have hlt := hs.lt
  obtain ⟨l1, l2, l3, l4⟩ := hlt
  by_cases h2 : id < 2
  · clear hs hm
    go_enter Try.func43, Try.ntmps43
    go_wp2_with fail
    refine (HR.out _ HS.out).mono ?_; rintro e w1 ⟨rfl, hb1⟩
    have hsz := hb1.size
    have HB1 := Lib.hid hb1
    clear hb1
    go_wp2_with fail
    go_ret
    exact ⟨rfl, HB1.out.alloc (by omega) _⟩
  by_cases h3 : (n : Int) ≤ id
  · clear hs hm
    go_enter Try.func43, Try.ntmps43
    go_wp2_with fail
    refine (HR.out _ HS.out).mono ?_; rintro e w1 ⟨rfl, hb1⟩
    have hsz := hb1.size
    have HB1 := Lib.hid hb1
    clear hb1
    go_wp2_with fail
    go_ret
    exact ⟨rfl, HB1.out.alloc (by omega) _⟩
  · have hf : bitAt m id.toNat = false := by
      rcases hbad with h | h | h
      · exact absurd h h2
      · exact absurd h h3
      · exact h
    have HT := Lib.hid (fun w => taken_any m id.toNat (by omega) (hm.sz _ (by omega)) w)
    rw [hf, Int.toNat_of_nonneg (by omega)] at HT
    clear hs hm hf hbad
    go_enter Try.func43, Try.ntmps43
    go_wp2_with fail
    refine (HR.out _ HS.out).mono ?_; rintro e w1 ⟨rfl, hb1⟩
    have hsz := hb1.size
    have HB1 := Lib.hid hb1
    clear hb1
    go_wp2_with fail
    refine (HT.out _).mono ?_; rintro e w2 ⟨rfl, hb2⟩
    have hz2 := hb2.size
    have HB2 := Lib.hid hb2
    clear hb2
    go_wp2_with fail
    go_ret
    exact ⟨rfl, (HB1.out.alloc (by omega) _).trans (HB2.out.mono (by go_size))⟩
end Go.Proofs.Ytljommhbhpappaa
