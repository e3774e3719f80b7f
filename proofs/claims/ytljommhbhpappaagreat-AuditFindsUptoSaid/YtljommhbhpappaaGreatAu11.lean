/-
  Layer 22 (audit): new volumes as values; Make on them; the law's own land.
-/
import Derived.Test.YtljommhbhpappaaGreatAu10
import Derived.Test.YtljommhbhpappaaGreatLand14
import Derived.Test.YtljommhbhpappaaGreatStg13
import Derived.Test.YtljommhbhpappaaGreatPkIdx
namespace Go.Proofs.YtljommhbhpappaaGreat
open Go.RowKit Go.Joins
set_option linter.unusedVariables false
set_option linter.unusedSimpArgs false

set_option maxHeartbeats 4000000 in
set_option maxRecDepth 100000 in
theorem make_full22 {P : Nat → Prop} {w0 w : World} {b hb : Nat} {S : Vol} {d m : Pg} {n : Nat} (L : Lay P w0 w b hb S) (h : VolOk S d m n) (k : Nat) (hk : k < 6) (ha : d.a k = 0) (hbef : ∀ j, j < k → d.a j ≠ 0) (hfull : ∀ j, j < n → bitAt m j = true) (kind : Int) (hkind : 1 ≤ kind ∧ kind ≤ 3) :
    Calls Tryz.prog 19 #[.pointer (some ⟨b, 0, none⟩), .int .i64 kind] w fun e w' => e = .returned (.tuple #[.int .i64 0, .int .i64 140]) ∧ Lay P w0 w' b hb S := by
  obtain ⟨mb, pb, hs, h4⟩ := L.at'
  obtain ⟨l1, l2, l3, l4⟩ := hs.lt
  have HD := Lib.hid (fun w' hh => dir_ok S b mb hb pb d w' hh h.dir)
  have HT := Lib.hid (fun w' hh => take_none S b mb hb pb m n w' hh h.map hfull)
  have HS := Lib.hid hs
  have HL := Lib.hid L
  have HBef := Lib.hid hbef
  have HA := Lib.hid ha
  obtain ⟨k1, k2⟩ := hkind
  clear hs h L hfull h4 hbef ha
  go_enter Tryz.func19, Tryz.ntmps19
  go_wp2_with fail
  refine (HD.out _ HS.out).mono ?_; rintro e w1 ⟨rfl, hb1⟩
  have hsz := hb1.size
  have HB1 := Lib.hid hb1
  clear hb1
  go_wp2_with fail
  go_loopw [30] (fun i wr => ∃ j : Nat, j ≤ k ∧ i = .int .i64 j ∧ Below (w1.heap.size + 1) (w1.alloc (.cells d.cs 38)) wr) (fun i _ => 6 - (intOf i).toNat)
  case atStart => exact ⟨0, by omega, rfl, (Below.refl _ _)⟩
  case round =>
    obtain ⟨j, hj, rfl, hbl⟩ := hrel
    have hz := hbl.size
    simp only [World.size_alloc] at hz
    have R1 : rowAt wr w1.heap.size = some d.cs := (rowAt_below hbl (by omega)).trans (rowAt_at w1 d.cs _ _ rfl)
    have HB3 := Lib.hid hbl
    clear hbl
    by_cases hlt : j < k
    · have hidx := index6 d j (by omega)
      have h0 : (d.a j == 0) = false := by simp [HBef.out j hlt]
      generalize d.a j = a at *
      generalize d.d j = x at *
      go_wp2_with fail
      go_roundw
      case rel => exact ⟨j + 1, by omega, by go_num, HB3.out.alloc (by omega) _⟩
      case measure => simp [intOf]; omega
    · have hje : j = k := by omega
      subst hje
      have hidx := index6 d j (by omega)
      rw [HA.out] at hidx
      generalize d.d j = x at *
      go_wp2_with fail
      have B1 : Below w.heap.size w (wr.alloc (.cells #[.int .i64 0, .string x] 35)) := ((HB1.out.alloc (by omega) (.cells d.cs 38)).trans (HB3.out.mono (by omega))).alloc (by omega) _
      have HB := Lib.hid B1
      refine (HT.out _ (HS.out.below B1 ⟨l1, l2, l3, l4⟩)).mono ?_; rintro e w2 ⟨rfl, hb2⟩
      have hz2 := hb2.size
      simp only [World.size_alloc] at hz2
      have HB2 := Lib.hid (HB.out.trans (hb2.mono (by go_size)))
      clear hb2 B1
      go_wp2_with fail
      go_ret2
      exact ⟨rfl, HL.out.step HB2.out⟩
/-- a volume whose stores are new: each has its root page and nothing else; c pages are taken -/
structure NewVol (S : Vol) (d m : Pg) (n : Nat) (ks : List Int) (c : Nat) : Prop where
  vol : VolOk S d m n
  six : ks.length ≤ 6
  low : 2 + ks.length ≤ c
  room : c ≤ n
  kind : ∀ k ∈ ks, k = 1 ∨ k = 2 ∨ k = 3
  dir : ∀ i (h : i < ks.length), d.a i = 1 ∧ d.d i = entryD ks[i] ((2 + i : Nat) : Int)
  free : ∀ i, ks.length ≤ i → i < 6 → d.a i = 0
  pg : ∀ i (h : i < ks.length), stPg S ((2 + i : Nat) : Int) = { k := if ks[i] = 1 then 3 else 4, s := (i : Int) + 1 }
  bits : ∀ j, j < n → bitAt m j = decide (j < c)
theorem NewVol.make {S : Vol} {d m : Pg} {n : Nat} {ks : List Int} (h : NewVol S d m n ks (2 + ks.length)) (h6 : ks.length < 6) (hr : 2 + ks.length < n) (kd : Int) (hk : kd = 1 ∨ kd = 2 ∨ kd = 3) :
    NewVol (S.made d m ks.length (2 + ks.length) kd) (d.setC ks.length 1 (entryD kd ((2 + ks.length : Nat) : Int))) (markPg m (2 + ks.length) true) n (ks ++ [kd]) (2 + (ks ++ [kd]).length) := by
  have hv := h.vol.make ks.length (2 + ks.length) kd h6 (by omega) hr
  have hl : (ks ++ [kd]).length = ks.length + 1 := by simp
  have hget : ∀ i (hi : i < (ks ++ [kd]).length), (ks ++ [kd])[i] = if h' : i < ks.length then ks[i] else kd := fun i hi => by
    rw [List.getElem_append]; split
    · rfl
    · simp
  refine ⟨hv, by omega, by omega, by omega, fun k hk' => ?_, fun i hi => ?_, fun i hi hi6 => ?_, fun i hi => ?_, fun j hj => ?_⟩
  · rcases List.mem_append.1 hk' with e | e
    · exact h.kind k e
    · obtain rfl : k = kd := by simpa using e
      exact hk
  · rw [hget, a_setC _ _ _ h6 (by omega), d_setC _ _ _ h6 (by omega)]
    by_cases e : i = ks.length
    · subst e
      rw [if_pos rfl, if_pos rfl, dif_neg (by omega)]
      exact ⟨rfl, rfl⟩
    · rw [if_neg e, if_neg e, dif_pos (by omega)]
      exact h.dir i (by omega)
  · rw [a_setC _ _ _ h6 hi6, if_neg (by omega)]
    exact h.free i (by omega) hi6
  · rw [hget]
    unfold Vol.made
    rw [stPg_put, if_neg (by omega), stPg_put]
    by_cases e : i = ks.length
    · subst e
      rw [if_pos rfl, dif_neg (by omega)]
    · rw [if_neg (by omega), stPg_put, if_neg (by omega), dif_pos (by omega)]
      exact h.pg i (by omega)
  · rw [bitAt_lt h.vol _ _ _ hj hr, h.bits j hj]
    by_cases e : j = 2 + ks.length
    · rw [if_pos e]; simp; omega
    · rw [if_neg e]
      exact decide_eq_decide.2 (by omega)
theorem NewVol.mark {S : Vol} {d m : Pg} {n : Nat} {ks : List Int} {c c' i : Nat} {y : Bool} (h : NewVol S d m n ks c) (hi2 : 2 ≤ i) (hi : i < n) (hlow : 2 + ks.length ≤ c') (hroom : c' ≤ n) (hb : ∀ j, j < n → (if j = i then y else decide (j < c)) = decide (j < c')) : NewVol (S.put 1 (markPg m i y)) d (markPg m i y) n ks c' :=
  ⟨h.vol.mark i y hi2 hi, h.six, hlow, hroom, h.kind, h.dir, h.free, fun i' hi' => by rw [stPg_put, if_neg (by omega)]; exact h.pg i' hi', fun j hj => by rw [bitAt_lt h.vol _ _ _ hj hi, h.bits j hj]; exact hb j hj⟩
theorem NewVol.take {S : Vol} {d m : Pg} {n : Nat} {ks : List Int} {c : Nat} (h : NewVol S d m n ks c) (hc : c < n) : NewVol (S.put 1 (markPg m c true)) d (markPg m c true) n ks (c + 1) :=
  h.mark (by have := h.low; omega) hc (by have := h.low; omega) (by omega) (fun j hj => by
    by_cases e : j = c
    · subst e; rw [if_pos rfl]; simp
    · rw [if_neg e]; exact decide_eq_decide.2 (by omega))
theorem NewVol.give {S : Vol} {d m : Pg} {n : Nat} {ks : List Int} {c : Nat} (h : NewVol S d m n ks (c + 1)) (hl : 2 + ks.length ≤ c) : NewVol (S.put 1 (markPg m c false)) d (markPg m c false) n ks c :=
  h.mark (by omega) (by have := h.room; omega) hl (by have := h.room; omega) (fun j hj => by
    by_cases e : j = c
    · subst e; rw [if_pos rfl]; simp
    · rw [if_neg e]; exact decide_eq_decide.2 (by omega))
theorem NewVol.landed {S : Vol} {d m : Pg} {n N : Nat} {ks : List Int} {c : Nat} (h : NewVol S d m n ks c) (hf : S.Fit N) (hn : n ≤ N) : NewVol S.landed d m n ks c :=
  ⟨h.vol.landed hf hn, h.six, h.low, h.room, h.kind, h.dir, h.free, fun i hi => by
    have h1 := h.low; have h2 := h.room
    rw [landed_pg hf (2 + i) (by omega)]; exact h.pg i hi, h.bits⟩
theorem NewVol.formed (l : List Pg) (M : List (Int × Pg)) (n : Nat) (h4 : 4 ≤ n) (hn : n ≤ 1024) (hl : n ≤ l.length) : NewVol (Vol.formed ⟨l, M⟩ n) { k := 1 } (newMap n) n [] 2 :=
  ⟨VolOk.new l n M h4 hn hl, by simp, by simp, by omega, by simp, fun i h => absurd h (by simp), fun i _ h6 => by
    have h6' : i = 0 ∨ i = 1 ∨ i = 2 ∨ i = 3 ∨ i = 4 ∨ i = 5 := by omega
    rcases h6' with rfl | rfl | rfl | rfl | rfl | rfl <;> rfl, fun i h => absurd h (by simp), fun j hj => newMap_bit _ _ (by omega)⟩

theorem chained_one {S : Vol} {id : Int} (h : (stPg S id).n = 0) : Chained S [id] := fun i hi => by
  obtain rfl : i = 0 := by simpa using hi
  exact h
/-- the stores of a new volume -/
def newParts (ks : List Int) (k : Nat) : Part := match ks[k]? with
  | none => .nil
  | some kd => if kd = 1 then .heap [((2 + k : Nat) : Int)] else .tree kd 0 (mkLeaf ((2 + k : Nat) : Int) [])
theorem newParts_ids (ks : List Int) (k : Nat) : (newParts ks k).ids = if k < ks.length then [((2 + k : Nat) : Int)] else [] := by
  unfold newParts
  by_cases h : k < ks.length
  · rw [List.getElem?_eq_getElem h, if_pos h]
    by_cases e : ks[k] = 1
    · simp only [e, if_true]; rfl
    · simp only [e, if_false]; rfl
  · rw [List.getElem?_eq_none (by omega), if_neg h]; rfl
theorem okDatas (kd s : Int) (j : Nat) (hj : j < 6) : (({ k := kd, s := s } : Pg).d j).size ≤ 32 := by
  have h6 : j = 0 ∨ j = 1 ∨ j = 2 ∨ j = 3 ∨ j = 4 ∨ j = 5 := by omega
  rcases h6 with rfl | rfl | rfl | rfl | rfl | rfl <;> exact Nat.zero_le _
theorem NewVol.au {S : Vol} {d m : Pg} {n : Nat} {ks : List Int} {c : Nat} (h : NewVol S d m n ks c) : AuVol S d m n (newParts ks) (-1) ∧ ∀ k, k < 6 → (newParts ks k).chained S := by
  have hn := h.vol.map.hi
  have hlow := h.low
  have hroom := h.room
  refine ⟨⟨h.vol, fun k hk => ?_, fun k hk id hid => ?_, fun j hj k hk hjk id hid hid' => ?_, by decide⟩, fun k hk => ?_⟩
  · unfold newParts
    by_cases hl : k < ks.length
    · rw [List.getElem?_eq_getElem hl]
      obtain ⟨h1, h2⟩ := h.dir k hl
      have hp := h.pg k hl
      have he := h.vol.there (2 + k) (by omega)
      by_cases e : ks[k] = 1
      · simp only [e, if_true]
        rw [e] at h2 hp
        rw [if_pos rfl] at hp
        refine ⟨by rw [h1]; decide, ⟨_, rfl, h2, by omega, by omega⟩, by simp, by simp, fun i hi _ => ?_, fun id hid => ?_, fun hx => ?_⟩
        · obtain rfl : i = 0 := by simpa using hi
          simp only [List.getElem_cons_zero]
          rw [hp]
          refine ⟨he, rfl, rfl, ?_, fun j hj => okDatas _ _ j hj⟩
          simp
        · have : id = ((2 + k : Nat) : Int) := by simpa using hid
          omega
        · have : (-1 : Int) = ((2 + k : Nat) : Int) := by simpa using hx
          omega
      · simp only [e, if_false]
        rw [if_neg e] at hp
        have hkd := h.kind _ (List.getElem_mem hl)
        have hpn : stPg S ((2 + k : Nat) : Int) = ndPg 0 ((k : Int) + 1) 0 [] := hp.trans (emptyNd _)
        refine ⟨by rw [h1]; decide, by omega, h2, ?_, ⟨by simp [mkLeaf, Tr.cells], List.Pairwise.nil, fun _ c hc => (by cases hc), fun h => absurd rfl h⟩, fun c hc => (by cases hc), by omega, by simp [mkLeaf, Tr.ids], fun id hid => ?_, fun hx => ?_, fun id hid => ?_⟩
        · show AuN S _ _ 0 _ _
          unfold AuN
          rw [if_neg (by show ¬ ((2 + k : Nat) : Int) = -1; omega)]
          exact ⟨he, 0, hpn⟩
        · have : id = ((2 + k : Nat) : Int) := by simpa [mkLeaf, Tr.ids] using hid
          omega
        · have : ((2 + k : Nat) : Int) = -1 := hx
          omega
        · have : id = ((2 + k : Nat) : Int) := by simpa [mkLeaf, Tr.ids] using hid
          rw [this]; exact he
    · rw [List.getElem?_eq_none (by omega)]
      exact h.free k (by omega) hk
  · rw [newParts_ids] at hid
    split at hid
    · have : id = ((2 + k : Nat) : Int) := by simpa using hid
      omega
    · cases hid
  · rw [newParts_ids] at hid hid'
    split at hid
    · split at hid'
      · have e1 : id = ((2 + j : Nat) : Int) := by simpa using hid
        have e2 : id = ((2 + k : Nat) : Int) := by simpa using hid'
        omega
      · cases hid'
    · cases hid
  · unfold newParts
    by_cases hl : k < ks.length
    · rw [List.getElem?_eq_getElem hl]
      by_cases e : ks[k] = 1
      · simp only [e, if_true]; trivial
      · simp only [e, if_false]
        have hp := h.pg k hl
        exact chained_one (show (stPg S ((2 + k : Nat) : Int)).n = 0 by rw [hp])
    · rw [List.getElem?_eq_none (by omega)]; trivial
theorem newReach (ks : List Int) (h6 : ks.length ≤ 6) : reach (newParts ks) = (List.range (2 + ks.length)).map fun i : Nat => (i : Int) := by
  have hi : ∀ i, i ≤ 6 → firstN (fun k => (newParts ks k).ids) i = (List.range (min i ks.length)).map fun k : Nat => ((2 + k : Nat) : Int) := fun i => by
    induction i with
    | zero => intro _; simp [firstN]
    | succ i ih =>
      intro hi
      rw [firstN_succ, ih (by omega), newParts_ids]
      by_cases h : i < ks.length
      · rw [if_pos h, Nat.min_eq_left (by omega), Nat.min_eq_left (by omega), List.range_succ, List.map_append]; rfl
      · rw [if_neg h, Nat.min_eq_right (by omega), Nat.min_eq_right (by omega), List.append_nil]
  unfold reach
  rw [hi 6 (by omega), Nat.min_eq_right h6, List.range_add, List.map_append, List.map_map]
  rfl
theorem usedTo_first {m : Pg} {n c : Nat} (hc : c ≤ n) (hb : ∀ j, j < n → bitAt m j = decide (j < c)) : usedTo m n = List.range c := by
  unfold usedTo
  obtain ⟨r, rfl⟩ : ∃ r, n = c + r := ⟨n - c, by omega⟩
  rw [List.range_add, List.filter_append]
  have h1 : (List.range c).filter (fun i => bitAt m i) = List.range c := List.filter_eq_self.2 fun i hi => by
    have : i < c := by simpa using hi
    rw [hb i (by omega)]; simpa using this
  have h2 : ((List.range r).map fun x => c + x).filter (fun i => bitAt m i) = [] := List.filter_eq_nil_iff.2 fun i hi => by
    obtain ⟨j, hj, rfl⟩ := List.mem_map.1 hi
    have : j < r := by simpa using hj
    rw [hb _ (by omega)]; simp
  rw [h1, h2, List.append_nil]
/-- what an audit says of a new volume -/
theorem newCheck {S : Vol} {d m : Pg} {n : Nat} {ks : List Int} {c : Nat} (h : NewVol S d m n ks c) {P : Nat → Prop} {w0 w : World} {b hb : Nat} (L : Lay P w0 w b hb S) :
    Calls Tryz.prog 10 #[.pointer (some ⟨b, 0, none⟩)] w fun e w' => e = .returned (.int .i64 (if c = 2 + ks.length then 0 else 40)) ∧ Lay P w0 w' b hb S := by
  obtain ⟨mb, pb, hs, -⟩ := L.at'
  obtain ⟨hA, hch⟩ := h.au
  refine (auCheck_any hA b mb hb pb w hs).mono ?_
  rintro e w' ⟨er, rfl, hb', h0, h40⟩
  have hx : ¬ (-1 : Int) ∈ reach (newParts ks) := by
    rw [newReach ks h.six]
    intro hm
    obtain ⟨i, -, e⟩ := List.mem_map.1 hm
    omega
  have hu := usedTo_first h.room h.bits
  have hlen : (reach (newParts ks)).length = 2 + ks.length := by rw [newReach ks h.six]; simp
  rw [hu] at h0
  refine ⟨?_, L.step hb'⟩
  by_cases e : c = 2 + ks.length
  · rw [if_pos e, h0.2 ⟨hx, hch, fun u hu => ?_, by rw [hlen]; simpa using e⟩]
    rw [newReach ks h.six, ← e]
    exact List.mem_map.2 ⟨u, hu, rfl⟩
  · rw [if_neg e]
    rcases h40 hx hch with e0 | e0
    · have := (h0.1 e0).2.2.2
      rw [hlen, List.length_range] at this
      exact absurd this e
    · rw [e0]
end Go.Proofs.YtljommhbhpappaaGreat
