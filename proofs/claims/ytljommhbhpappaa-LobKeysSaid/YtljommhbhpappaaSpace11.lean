/-
  Layer 14 (space): plain laws on directories and maps as values (no program in sight).
-/
import Derived.Test.YtljommhbhpappaaSpace10
namespace Go.Proofs.Ytljommhbhpappaa
open Go.RowKit Go.Joins
set_option linter.unusedVariables false
set_option linter.unusedSimpArgs false

theorem a_setA (p : Pg) (k j : Nat) (hk : k < 6) (hj : j < 6) (x : Int) : (p.setA k x).a j = if j = k then x else p.a j := by
  have h6 : k = 0 ∨ k = 1 ∨ k = 2 ∨ k = 3 ∨ k = 4 ∨ k = 5 := by omega
  have g6 : j = 0 ∨ j = 1 ∨ j = 2 ∨ j = 3 ∨ j = 4 ∨ j = 5 := by omega
  rcases h6 with rfl | rfl | rfl | rfl | rfl | rfl <;> rcases g6 with rfl | rfl | rfl | rfl | rfl | rfl <;> rfl
theorem d_setA (p : Pg) (k j : Nat) (hk : k < 6) (x : Int) : (p.setA k x).d j = p.d j := by
  have h6 : k = 0 ∨ k = 1 ∨ k = 2 ∨ k = 3 ∨ k = 4 ∨ k = 5 := by omega
  rcases h6 with rfl | rfl | rfl | rfl | rfl | rfl <;> rfl
theorem h_setA (p : Pg) (k : Nat) (hk : k < 6) (x : Int) : (p.setA k x).k = p.k ∧ (p.setA k x).l = p.l ∧ (p.setA k x).s = p.s ∧ (p.setA k x).n = p.n := by
  have h6 : k = 0 ∨ k = 1 ∨ k = 2 ∨ k = 3 ∨ k = 4 ∨ k = 5 := by omega
  rcases h6 with rfl | rfl | rfl | rfl | rfl | rfl <;> exact ⟨rfl, rfl, rfl, rfl⟩
theorem a_setC (p : Pg) (k j : Nat) (hk : k < 6) (hj : j < 6) (x : Int) (y : ByteArray) : (p.setC k x y).a j = if j = k then x else p.a j := by
  rw [Pg.setC, a_setD _ _ _ hk, a_setA _ _ _ hk hj]
theorem d_setC (p : Pg) (k j : Nat) (hk : k < 6) (hj : j < 6) (x : Int) (y : ByteArray) : (p.setC k x y).d j = if j = k then y else p.d j := by
  rw [Pg.setC, d_setD _ _ _ hk hj, d_setA _ _ _ hk]
theorem h_setC (p : Pg) (k : Nat) (hk : k < 6) (x : Int) (y : ByteArray) : (p.setC k x y).k = p.k ∧ (p.setC k x y).l = p.l ∧ (p.setC k x y).s = p.s ∧ (p.setC k x y).n = p.n := by
  have h1 := h_setA p k hk x
  have h2 := h_setD (p.setA k x) k hk y
  unfold Pg.setC
  exact ⟨h2.1.trans h1.1, h2.2.1.trans h1.2.1, h2.2.2.1.trans h1.2.2.1, h2.2.2.2.trans h1.2.2.2⟩
theorem ok_setC {p : Pg} (h : okPg p = true) (k : Nat) (hk : k < 6) (x : Int) (y : ByteArray) (hc : okC x y = true) : okPg (p.setC k x y) = true := by
  obtain ⟨h1, h2⟩ := okPg_to h
  have hh := h_setC p k hk x y
  refine okPg_of ?_ fun i hi => ?_
  · simp only [okH, hh] at h1 ⊢
    exact h1
  · rw [a_setC _ _ _ hk hi, d_setC _ _ _ hk hi]
    split
    · exact hc
    · exact h2 i hi
theorem ok_setA {p : Pg} (h : okPg p = true) (k : Nat) (hk : k < 6) (x : Int) (hc : okC x (p.d k) = true) : okPg (p.setA k x) = true := by
  obtain ⟨h1, h2⟩ := okPg_to h
  have hh := h_setA p k hk x
  refine okPg_of ?_ fun i hi => ?_
  · simp only [okH, hh] at h1 ⊢
    exact h1
  · rw [a_setA _ _ _ hk hi, d_setA _ _ _ hk]
    split
    · subst_vars; exact hc
    · exact h2 i hi
theorem entry_size (k r : Int) : (entryD k r).size = 5 := by
  unfold entryD le1 le4
  rfl
theorem okC_full {x : Int} {y : ByteArray} (h1 : x = 1 ∨ x = 2) (h2 : 0 < y.size) (h3 : y.size ≤ 34) : okC x y = true := by
  have h4 : y.toList.isEmpty = false := sem_f (by intro e; rw [e] at h2; cases h2)
  simp only [okC, h4, Bool.or_false, Bool.and_eq_true, decide_eq_true_eq]
  rcases h1 with rfl | rfl <;> simp [h3]

/-- a volume: a directory, a map, and as many pages as the map says -/
structure VolOk (S : Vol) (d m : Pg) (n : Nat) : Prop where
  dir : DirAt S d
  dok : okPg d = true
  map : MapAt S m n
  there : ∀ id : Nat, id < n → stE S id = 0
  two : 2 ≤ n
  z0 : bitAt m 0 = true
  z1 : bitAt m 1 = true

theorem bitAt_lt {S : Vol} {d m : Pg} {n : Nat} (h : VolOk S d m n) (i j : Nat) (y : Bool) (hi : i < n) (hj : j < n) : bitAt (markPg m j y) i = if i = j then y else bitAt m i :=
  bitAt_mark m i j y (by have := h.map.hi; omega) (by have := h.map.hi; omega) h.map.sz

/-- a store made -/
def Vol.made (S : Vol) (d m : Pg) (k id : Nat) (kind : Int) : Vol := ((S.put 1 (markPg m id true)).put id { k := if kind = 1 then 3 else 4, s := (k : Int) + 1 }).put 0 (d.setC k 1 (entryD kind id))
theorem VolOk.make {S : Vol} {d m : Pg} {n : Nat} (h : VolOk S d m n) (k id : Nat) (kind : Int) (hk : k < 6) (h2 : 2 ≤ id) (hid : id < n) : VolOk (S.made d m k id kind) (d.setC k 1 (entryD kind id)) (markPg m id true) n := by
  have hn := h.map.hi
  have g0 : ¬ (0 : Int) = id := by omega
  have g1 : ¬ (1 : Int) = id := by omega
  have hm := h.map.mark id true (by omega)
  refine ⟨⟨?_, ?_, ?_⟩, ?_, ⟨?_, ?_, hm.k, hm.cnt, hm.lo, hm.hi, hm.sz, hm.ok⟩, fun i hi => ?_, h.two, ?_, ?_⟩
  · simp only [Vol.made, stE_put, if_pos]
  · simp only [Vol.made, stPg_put, if_pos]
  · rw [(h_setC d k hk _ _).1, h.dir.k]
  · exact ok_setC h.dok k hk _ _ (okC_full (.inl rfl) (by rw [entry_size]; omega) (by rw [entry_size]; omega))
  · rw [Vol.made, stE_put, if_neg (by omega), stE_put, if_neg g1, stE_put, if_pos rfl]
  · rw [Vol.made, stPg_put, if_neg (by omega), stPg_put, if_neg g1, stPg_put, if_pos rfl]
  · simp only [Vol.made, stE_put]
    have := h.there i hi
    split
    · rfl
    split
    · rfl
    split
    · rfl
    exact this
  · rw [bitAt_lt h _ _ _ (by omega) hid, if_neg (by omega)]; exact h.z0
  · rw [bitAt_lt h _ _ _ (by omega) hid, if_neg (by omega)]; exact h.z1
theorem VolOk.setA {S : Vol} {d m : Pg} {n : Nat} (h : VolOk S d m n) (k : Nat) (x : Int) (hk : k < 6) (hx : x = 1 ∨ x = 2) (hd : 0 < (d.d k).size) : okPg (d.setA k x) = true ∧ VolOk (S.put 0 (d.setA k x)) (d.setA k x) m n := by
  have h34 : (d.d k).size ≤ 34 := by
    have h3 := (okPg_to h.dok).2 k hk
    simp only [okC, Bool.and_eq_true, decide_eq_true_eq] at h3
    exact h3.1.2
  have ho := ok_setA h.dok k hk x (okC_full hx hd h34)
  refine ⟨ho, ⟨by rw [stE_put, if_pos rfl], by rw [stPg_put, if_pos rfl], by rw [(h_setA d k hk x).1, h.dir.k]⟩, ho, ⟨by rw [stE_put, if_neg (by omega)]; exact h.map.e, by rw [stPg_put, if_neg (by omega)]; exact h.map.p, h.map.k, h.map.cnt, h.map.lo, h.map.hi, h.map.sz, h.map.ok⟩, fun i hi => ?_, h.two, h.z0, h.z1⟩
  rw [stE_put]
  split
  · rfl
  · exact h.there i hi
theorem Half.dir {S : Vol} {d m : Pg} {n : Nat} {l : List Nat} (st : Int) (hd : DirAt S d) : DirAt (frees st l S m).1 d := by
  induction l generalizing S m with
  | nil => exact hd
  | cons id r ih =>
    unfold frees
    split
    · exact ih ⟨by rw [stE_put, if_neg (by omega)]; exact hd.e, by rw [stPg_put, if_neg (by omega)]; exact hd.p, hd.k⟩
    · exact ih hd
theorem Half.all {S : Vol} {m : Pg} {n : Nat} {l : List Nat} (st : Int) (h : Half S m n l) : Half (frees st l S m).1 (frees st l S m).2 n [] := by
  induction l generalizing S m with
  | nil => exact h
  | cons id r ih =>
    unfold frees
    split
    · exact ih h.give
    · exact ih h.skip
/-- a page that is no map, behind what Forget gives back -/
theorem frees_pg {S : Vol} {m : Pg} (st : Int) (l : List Nat) (id : Int) (h : id ≠ 1) : stPg (frees st l S m).1 id = stPg S id := by
  induction l generalizing S m with
  | nil => rfl
  | cons i r ih =>
    unfold frees
    split
    · rw [ih, stPg_put, if_neg h]
    · exact ih
theorem frees_bit {S : Vol} {m : Pg} {n : Nat} {l : List Nat} (st : Int) (h : Half S m n l) (i : Nat) (hi : i < n) : bitAt (frees st l S m).2 i = (bitAt m i && !(decide (i ∈ l) && decide (2 ≤ i) && decide ((stPg S i).s = st))) := by
  induction l generalizing S m with
  | nil => simp [frees]
  | cons id r ih =>
    have hid := h.had id (List.mem_cons_self ..)
    have hn := h.map.hi
    have hnd := (List.nodup_cons.1 h.once).1
    unfold frees
    by_cases hc : 2 ≤ id ∧ (stPg S id).s = st
    · rw [if_pos hc, ih h.give, bitAt_mark m i id false (by omega) (by omega) h.map.sz]
      by_cases he : i = id
      · subst he
        have e1 : decide (i ∈ i :: r) = true := by simp
        have e2 : decide (2 ≤ i) = true := by simp [hc.1]
        have e3 : decide ((stPg S i).s = st) = true := by simp [hc.2]
        rw [if_pos rfl, e1, e2, e3]
        simp
      · have h1 : ¬ (i : Int) = 1 ∨ (i : Int) = 1 := by omega
        by_cases hi1 : i = 1
        · subst hi1
          simp [he]
        · rw [if_neg he, stPg_put, if_neg (by omega)]
          simp [he]
    · rw [if_neg hc, ih h.skip]
      by_cases he : i = id
      · subst he
        have h3 : decide (i ∈ r) = false := by simp [hnd]
        have h4 : (decide (2 ≤ i) && decide ((stPg S i).s = st)) = false := by
          simp only [Bool.and_eq_false_iff, decide_eq_false_iff_not]
          by_cases h2 : 2 ≤ i
          · right; exact fun e => hc ⟨h2, e⟩
          · left; exact h2
        have e1 : decide (i ∈ i :: r) = true := by simp
        rw [e1, h3, Bool.true_and, h4]
        simp
      · simp [he]
theorem usedTo_mem (m : Pg) (n i : Nat) : i ∈ usedTo m n ↔ i < n ∧ bitAt m i = true := by
  simp [usedTo]
theorem VolOk.half {S : Vol} {d m : Pg} {n : Nat} (h : VolOk S d m n) : Half S m n (usedTo m n) :=
  ⟨h.map, fun id hid => (usedTo_mem m n id).1 hid, List.Pairwise.filter _ List.nodup_range, h.there⟩
/-- a store forgotten -/
def Vol.forgot (S : Vol) (d m : Pg) (n k : Nat) : Vol := (frees ((k : Int) + 1) (usedTo m n) S m).1.put 0 (d.setC k 0 ByteArray.empty)
def Pg.forgot (m : Pg) (S : Vol) (n k : Nat) : Pg := (frees ((k : Int) + 1) (usedTo m n) S m).2
theorem okC_none : okC 0 ByteArray.empty = true := okC00
theorem VolOk.forget {S : Vol} {d m : Pg} {n : Nat} (h : VolOk S d m n) (k : Nat) (hk : k < 6) : okPg (d.setC k 0 ByteArray.empty) = true ∧ VolOk (S.forgot d m n k) (d.setC k 0 ByteArray.empty) (m.forgot S n k) n := by
  have ho := ok_setC h.dok k hk 0 ByteArray.empty okC_none
  have hh := h.half.all ((k : Int) + 1)
  refine ⟨ho, ⟨by rw [Vol.forgot, stE_put, if_pos rfl], by rw [Vol.forgot, stPg_put, if_pos rfl], by rw [(h_setC d k hk _ _).1, h.dir.k]⟩, ho, ⟨by rw [Vol.forgot, stE_put, if_neg (by omega)]; exact hh.map.e, by rw [Vol.forgot, stPg_put, if_neg (by omega)]; exact hh.map.p, hh.map.k, hh.map.cnt, hh.map.lo, hh.map.hi, hh.map.sz, hh.map.ok⟩, fun i hi => ?_, h.two, ?_, ?_⟩
  · rw [Vol.forgot, stE_put]
    split
    · rfl
    · exact hh.there i hi
  · rw [Pg.forgot, frees_bit _ h.half 0 (by have := h.two; omega), h.z0]; simp
  · rw [Pg.forgot, frees_bit _ h.half 1 (by have := h.two; omega), h.z1]; simp
theorem forgot_bit {S : Vol} {d m : Pg} {n : Nat} (h : VolOk S d m n) (k i : Nat) (hi : i < n) : bitAt (m.forgot S n k) i = (bitAt m i && !(decide (2 ≤ i) && decide ((stPg S i).s = (k : Int) + 1))) := by
  rw [Pg.forgot, frees_bit _ h.half i hi]
  cases hb : bitAt m i with
  | false => rfl
  | true =>
    have : decide (i ∈ usedTo m n) = true := by simp [usedTo_mem, hi, hb]
    rw [this]; simp

/-- a new volume -/
def Vol.formed (S : Vol) (n : Nat) : Vol := (S.put 0 { k := 1 }).put 1 (markPg (markPg (mapPg ((n : Int) - 1)) 0 true) 1 true)
def newMap (n : Nat) : Pg := markPg (markPg (mapPg ((n : Int) - 1)) 0 true) 1 true
theorem bit_z34 (i : Nat) : bitD z34 i = false := by
  unfold bitD byteAt z34
  have : (Array.replicate 34 (0 : UInt8)).getD (i / 8) 0 = 0 := by
    simp only [Array.getD_eq_getD_getElem?, Array.getElem?_replicate]
    split <;> rfl
  rw [this]; simp
theorem bit_mapPg (n : Int) (i : Nat) (hi : i < 1632) : bitAt (mapPg n) i = false := by
  have h6 : i / 272 = 0 ∨ i / 272 = 1 ∨ i / 272 = 2 ∨ i / 272 = 3 ∨ i / 272 = 4 ∨ i / 272 = 5 := by omega
  unfold bitAt
  rcases h6 with h | h | h | h | h | h <;> rw [h] <;> exact bit_z34 _
theorem newMap_bit (n i : Nat) (hi : i < 1632) : bitAt (newMap n) i = decide (i < 2) := by
  unfold newMap
  rw [bitAt_mark _ _ _ _ hi (by omega) (fun j hj => mark_sz _ _ _ (by omega) (mapPg_sz _) j hj), bitAt_mark _ _ _ _ hi (by omega) (mapPg_sz _), bit_mapPg _ _ hi]
  by_cases h1 : i = 1
  · subst h1; rfl
  · by_cases h0 : i = 0
    · subst h0; rfl
    · have : ¬ i < 2 := by omega
      simp [h1, h0, this]
theorem VolOk.new (l : List Pg) (n : Nat) (M : List (Int × Pg)) (h4 : 4 ≤ n) (hn : n ≤ 1024) (hl : n ≤ l.length) : VolOk (Vol.formed ⟨l, M⟩ n) { k := 1 } (newMap n) n := by
  have z1 : ∀ i, i < 6 → ((markPg (mapPg ((n : Int) - 1)) 0 true).d i).size = 34 := fun j hj => mark_sz _ _ _ (by omega) (mapPg_sz _) j hj
  have k1 := mark_k (mapPg ((n : Int) - 1)) 0 true (by omega)
  have k2 := mark_k (markPg (mapPg ((n : Int) - 1)) 0 true) 1 true (by omega)
  have ok0 := mapPg_ok ((n : Int) - 1) (by omega) (by omega)
  refine ⟨⟨?_, ?_, rfl⟩, okDir, ⟨?_, ?_, ?_, ?_, by omega, hn, fun i hi => mark_sz _ _ _ (by omega) z1 i hi, ?_⟩, fun i hi => ?_, by omega, ?_, ?_⟩
  · rw [Vol.formed, stE_put, if_neg (by omega), stE_put, if_pos rfl]
  · rw [Vol.formed, stPg_put, if_neg (by omega), stPg_put, if_pos rfl]
  · rw [Vol.formed, stE_put, if_pos rfl]
  · rw [Vol.formed, stPg_put, if_pos rfl]; rfl
  · unfold newMap; rw [k2.1, k1.1]; rfl
  · unfold newMap; rw [k2.2, k1.2]; show ((n : Int) - 1) + 1 = n; omega
  · exact mark_ok _ _ _ (by omega) z1 (mark_ok _ _ _ (by omega) (mapPg_sz _) ok0)
  · rw [Vol.formed, stE_put]
    split
    · rfl
    rw [stE_put]
    split
    · rfl
    unfold stE
    split
    · rfl
    · exact if_pos ⟨by omega, by show (i : Int) < l.length; omega⟩
  · rw [newMap_bit _ _ (by omega)]; rfl
  · rw [newMap_bit _ _ (by omega)]; rfl
end Go.Proofs.Ytljommhbhpappaa
