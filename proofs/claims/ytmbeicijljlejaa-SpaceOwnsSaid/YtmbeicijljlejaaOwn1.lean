/-
  Layer 14 (space): who owns each page: plain laws for SpaceOwns; Make where no page is free.
-/
import Derived.Test.YtmbeicijljlejaaStores14
import Derived.Test.YtmbeicijljlejaaIntRange
namespace Go.Proofs.Ytmbeicijljlejaa
open Go.RowKit Go.Joins
set_option linter.unusedVariables false
set_option linter.unusedSimpArgs false

/-! the owners: pages and their stores -/
abbrev Owners := List (Int × Int)
def ownM (F : Owners) : List (Int × Value) := F.map fun x => (x.1, .int .i64 x.2)
theorem ownM_keys (F : Owners) : (ownM F).map (·.1) = F.map (·.1) := by simp [ownM]
theorem findI_own (F : Owners) (k : Int) (i : Nat) : (findI k (ownM F) i = none ↔ ¬ k ∈ F.map (·.1)) ∧ ∀ x, findI k (ownM F) i = some x → ∃ v, x.2 = .int .i64 v := by
  induction F generalizing i with
  | nil => simp [ownM, findI]
  | cons y r ih =>
    have h := ih (i + 1)
    simp only [ownM] at h
    simp only [ownM, List.map_cons, findI, List.mem_cons, not_or]
    by_cases e : k = y.1
    · rw [if_pos e]
      refine ⟨⟨fun h => (by cases h), fun h => absurd e h.1⟩, fun x hx => ?_⟩
      cases hx
      exact ⟨_, rfl⟩
    · rw [if_neg e]
      exact ⟨⟨fun h' => ⟨e, h.1.1 h'⟩, fun h' => h.1.2 h'.2⟩, h.2⟩
theorem updI_own {F : Owners} {k : Int} (v : Int) (h : ¬ k ∈ F.map (·.1)) : updI k (.int .i64 v) (ownM F) = ownM (F ++ [(k, v)]) := by
  rw [updI_none ((findI_own F k 0).1.2 h)]
  simp [ownM]
theorem delI_own {F : Owners} (k : Int) (h : (F.map (·.1)).Nodup) : delI k (ownM F) = ownM (F.filter (fun x => decide (x.1 ≠ k))) := by
  induction F with
  | nil => rfl
  | cons x r ih =>
    rw [List.map_cons, List.nodup_cons] at h
    have h0 := ih h.2
    simp only [ownM] at h0
    simp only [ownM, List.map_cons, delI]
    by_cases e : k = x.1
    · rw [if_pos e]
      have h1 : r.filter (fun y => decide (y.1 ≠ k)) = r := List.filter_eq_self.2 fun y hy => by
        have : y.1 ≠ k := fun e1 => h.1 (by rw [← e, ← e1]; exact List.mem_map.2 ⟨y, hy, rfl⟩)
        simp [this]
      rw [List.filter_cons_of_neg (by simp [e]), h1]
    · rw [if_neg e, h0, List.filter_cons_of_pos (by simp; exact fun e1 => e e1.symm)]
      rfl
theorem zeroInt (w : World) : (zeroValue 3).run Try.prog w = .ok (.int .i64 0) w := by kernel_rfl
theorem run_newOwn (w : World) : (Instr.makeMap 43 none).run Try.prog w = .ok (.map (some w.heap.size)) (w.alloc (.map #[] 0)) := by kernel_rfl
theorem lookup_own {w : World} {fb : Nat} {F : Owners} (h : IntMap w fb (ownM F)) (id : Int) :
    ∃ v, (Instr.lookup 43 (.map (some fb)) (.int .i64 id) true).run Try.prog w = .ok (.tuple #[.int .i64 v, .bool (decide (id ∈ F.map (·.1)))]) w := by
  rw [run_lookup_int Try.underlying43 Try.underlying3 _ fb _ id _ (zeroInt _) h]
  obtain ⟨h1, h2⟩ := findI_own F id 0
  cases hf : findI id (ownM F) 0 with
  | none =>
    have : ¬ id ∈ F.map (·.1) := h1.1 hf
    exact ⟨0, by simp [this]⟩
  | some x =>
    obtain ⟨v, hv⟩ := h2 x hf
    have : id ∈ F.map (·.1) := by
      by_cases hm : id ∈ F.map (·.1)
      · exact hm
      · rw [h1.2 hm] at hf; cases hf
    refine ⟨v, ?_⟩
    simp only [hv, this, decide_true]

/-- the volume and the owners -/
structure Owns (S : Vol) (d m : Pg) (n : Nat) (F : Owners) : Prop where
  vol : VolOk S d m n
  n64 : n ≤ 64
  fit : S.Fit 64
  none' : S.M = []
  keys : (F.map (·.1)).Nodup
  bits : ∀ i, i < n → bitAt m i = decide ((i : Int) ∈ F.map (·.1))
  range : ∀ x ∈ F, 0 ≤ x.1 ∧ x.1 < n
  low : ∀ x ∈ F, x.1 < 2 → x.2 = 0
  own : ∀ x ∈ F, 2 ≤ x.1 → 1 ≤ x.2 ∧ x.2 ≤ 6 ∧ (stPg S x.1).s = x.2
theorem Owns.free {S : Vol} {d m : Pg} {n : Nat} {F : Owners} (h : Owns S d m n F) {id : Nat} (hid : id < n) (hf : bitAt m id = false) : 2 ≤ id ∧ ¬ (id : Int) ∈ F.map (·.1) := by
  refine ⟨?_, ?_⟩
  · by_cases e0 : id = 0
    · subst e0; rw [h.vol.z0] at hf; cases hf
    by_cases e1 : id = 1
    · subst e1; rw [h.vol.z1] at hf; cases hf
    omega
  · have := h.bits id hid
    rw [hf] at this
    simpa using this.symm
theorem Owns.start (n : Nat) (h4 : 4 ≤ n) (h64 : n ≤ 64) : Owns (Vol.formed ⟨List.replicate 64 Pg.zero, []⟩ n).landed { k := 1 } (newMap n) n [(0, 0), (1, 0)] := by
  have f0 : VolOk (Vol.formed ⟨List.replicate 64 Pg.zero, []⟩ n) { k := 1 } (newMap n) n := vol_new 64 n h4 (by omega) h64
  have g0 : (Vol.formed ⟨List.replicate 64 Pg.zero, []⟩ n).Fit 64 := formed_fit (Vol.Fit.nil (List.replicate 64 Pg.zero) (by simp)) h4 h64
  refine ⟨f0.landed g0 h64, h64, landed_fit g0, rfl, by decide, fun i hi => ?_, ?_, ?_, ?_⟩
  · rw [newMap_bit _ _ (by omega)]
    by_cases h2 : i < 2
    · have : i = 0 ∨ i = 1 := by omega
      rcases this with rfl | rfl <;> rfl
    · have : ¬ ((i : Int) ∈ ([(0, 0), (1, 0)] : Owners).map (·.1)) := by simp; omega
      rw [decide_eq_false h2, decide_eq_false this]
  · intro x hx; simp at hx; rcases hx with rfl | rfl <;> simp <;> omega
  · intro x hx; simp at hx; rcases hx with rfl | rfl <;> simp
  · intro x hx; simp at hx; rcases hx with rfl | rfl <;> simp
/-- one more page has an owner -/
theorem Owns.more {S S' : Vol} {d d' m : Pg} {n : Nat} {F : Owners} (h : Owns S d m n F) {id : Nat} (hid : id < n) (hf : bitAt m id = false) (st : Int) (hst : 1 ≤ st ∧ st ≤ 6) (hV : VolOk S' d' (markPg m id true) n) (hF : S'.Fit 64)
    (hs : ∀ x : Int, 2 ≤ x → x < n → stPg S' x = if x = id then { stPg S' id with s := st } else stPg S x) : Owns S'.landed d' (markPg m id true) n (F ++ [((id : Int), st)]) := by
  obtain ⟨h2, hnot⟩ := h.free hid hf
  refine ⟨hV.landed hF h.n64, h.n64, landed_fit hF, rfl, ?_, fun i hi => ?_, fun x hx => ?_, fun x hx => ?_, fun x hx hx2 => ?_⟩
  · rw [List.map_append]
    refine List.nodup_append.2 ⟨h.keys, by simp, fun a ha b hb e => ?_⟩
    simp only [List.map_cons, List.map_nil, List.mem_cons, List.not_mem_nil, or_false] at hb
    subst hb e
    exact hnot ha
  · rw [bitAt_lt h.vol _ _ _ hi hid, h.bits i hi, List.map_append]
    by_cases e : i = id
    · subst e; simp
    · have e' : ¬ (i : Int) = (id : Int) := by omega
      simp [e, e']
  · rcases List.mem_append.1 hx with hx | hx
    · exact h.range x hx
    · simp at hx; subst hx; simp; omega
  · rcases List.mem_append.1 hx with hx | hx
    · exact h.low x hx
    · simp at hx; subst hx; simp; omega
  · have hr : 0 ≤ x.1 ∧ x.1 < n := by
      rcases List.mem_append.1 hx with hx | hx
      · exact h.range x hx
      · simp at hx; subst hx; simp; omega
    obtain ⟨i, hi⟩ := Int.eq_ofNat_of_zero_le hr.1
    have hl := landed_pg hF i (by have := h.n64; omega)
    rw [← hi] at hl
    rw [hl]
    have h0 := hs x.1 hx2 hr.2
    rcases List.mem_append.1 hx with hx | hx
    · have hne : ¬ x.1 = (id : Int) := fun e => hnot (by rw [← e]; exact List.mem_map.2 ⟨x, hx, rfl⟩)
      rw [if_neg hne] at h0
      rw [h0]
      exact h.own x hx hx2
    · simp at hx
      subst hx
      rw [if_pos rfl] at h0
      rw [h0]
      exact ⟨hst.1, hst.2, rfl⟩
theorem VolOk.put_far {S : Vol} {d m : Pg} {n : Nat} (h : VolOk S d m n) (id : Nat) (p : Pg) (h2 : 2 ≤ id) : VolOk (S.put id p) d m n := by
  refine ⟨⟨by rw [stE_put, if_neg (by omega)]; exact h.dir.e, by rw [stPg_put, if_neg (by omega)]; exact h.dir.p, h.dir.k⟩, h.dok, ⟨by rw [stE_put, if_neg (by omega)]; exact h.map.e, by rw [stPg_put, if_neg (by omega)]; exact h.map.p, h.map.k, h.map.cnt, h.map.lo, h.map.hi, h.map.sz, h.map.ok⟩, fun i hi => ?_, h.two, h.z0, h.z1⟩
  rw [stE_put]
  split
  · rfl
  · exact h.there i hi
theorem Owns.made {S : Vol} {d m : Pg} {n : Nat} {F : Owners} (h : Owns S d m n F) {id : Nat} (hid : id < n) (hf : bitAt m id = false) (k : Nat) (hk : k < 6) (kind : Int) :
    Owns (S.made d m k id kind).landed (d.setC k 1 (entryD kind id)) (markPg m id true) n (F ++ [((id : Int), (k : Int) + 1)]) := by
  obtain ⟨h2, hnot⟩ := h.free hid hf
  refine h.more hid hf _ ⟨by omega, by omega⟩ (h.vol.make k id kind hk h2 hid) (made_fit h.vol h.fit h.n64 k id kind hk h2 hid) fun x hx hxn => ?_
  by_cases e : x = (id : Int)
  · subst e
    rw [if_pos rfl]
    have : stPg (S.made d m k id kind) (id : Int) = { k := if kind = 1 then 3 else 4, s := (k : Int) + 1 } := by
      rw [Vol.made, stPg_put, if_neg (by omega), stPg_put, if_pos rfl]
    rw [this]
  · rw [if_neg e, Vol.made, stPg_put, if_neg (by omega), stPg_put, if_neg e, stPg_put, if_neg (by omega)]
theorem Owns.took {S : Vol} {d m : Pg} {n : Nat} {F : Owners} (h : Owns S d m n F) {id : Nat} (hid : id < n) (hf : bitAt m id = false) (st : Int) (hst : 1 ≤ st ∧ st ≤ 6) :
    ((S.put 1 (markPg m id true)).put (id : Int) { k := 3, s := st }).Fit 64 ∧ Owns ((S.put 1 (markPg m id true)).put (id : Int) { k := 3, s := st }).landed d (markPg m id true) n (F ++ [((id : Int), st)]) := by
  obtain ⟨h2, hnot⟩ := h.free hid hf
  have hn := h.n64
  have hp : okPg { k := 3, s := st } = true := by
    have := ok_root 3 (st - 1) (by omega) (by omega) (by omega) (by omega)
    rwa [show st - 1 + 1 = st from by omega] at this
  have hF := (mark_fit h.vol h.fit h.n64 id true hid).put (id : Int) { k := 3, s := st } (by omega) (by omega) hp
  refine ⟨hF, h.more hid hf st hst ((h.vol.mark id true h2 hid).put_far id _ h2) hF fun x hx hxn => ?_⟩
  by_cases e : x = (id : Int)
  · subst e
    rw [if_pos rfl]
    have : stPg ((S.put 1 (markPg m id true)).put (id : Int) { k := 3, s := st }) (id : Int) = { k := 3, s := st } := by rw [stPg_put, if_pos rfl]
    rw [this]
  · rw [if_neg e, stPg_put, if_neg e, stPg_put, if_neg (by omega)]
/-- a store is forgotten: what it had is nobody's -/
theorem Owns.forgot {S : Vol} {d m : Pg} {n : Nat} {F F1 : Owners} (h : Owns S d m n F) (k : Nat) (hk : k < 6) (hn1 : (F1.map (·.1)).Nodup) (h1 : ∀ x, x ∈ F1 ↔ x ∈ F ∧ x.2 ≠ (k : Int) + 1) :
    Owns (S.forgot d m n k).landed (d.setC k 0 ByteArray.empty) (m.forgot S n k) n F1 := by
  have hF := forgot_fit h.vol h.fit h.n64 k hk
  refine ⟨(h.vol.forget k hk).2.landed hF h.n64, h.n64, landed_fit hF, rfl, hn1, fun i hi => ?_, fun x hx => h.range x ((h1 x).1 hx).1, fun x hx => h.low x ((h1 x).1 hx).1, fun x hx hx2 => ?_⟩
  · rw [forgot_bit h.vol k i hi, h.bits i hi]
    by_cases hm : (i : Int) ∈ F.map (·.1)
    · obtain ⟨x, hx, e⟩ := List.mem_map.1 hm
      by_cases h2 : 2 ≤ i
      · have ho := (h.own x hx (by omega)).2.2
        rw [e] at ho
        rw [ho]
        by_cases hst : x.2 = (k : Int) + 1
        · have : ¬ (i : Int) ∈ F1.map (·.1) := by
            intro hm1
            obtain ⟨y, hy, ey⟩ := List.mem_map.1 hm1
            have hyF := ((h1 y).1 hy)
            have hoy := (h.own y hyF.1 (by omega)).2.2
            rw [ey, ho] at hoy
            exact hyF.2 (by rw [← hoy]; exact hst)
          simp [hm, h2, hst, this]
        · have : (i : Int) ∈ F1.map (·.1) := List.mem_map.2 ⟨x, (h1 x).2 ⟨hx, hst⟩, e⟩
          simp [hm, hst, this]
      · have hl := h.low x hx (by omega)
        have : (i : Int) ∈ F1.map (·.1) := List.mem_map.2 ⟨x, (h1 x).2 ⟨hx, by omega⟩, e⟩
        simp [hm, h2, this]
    · have : ¬ (i : Int) ∈ F1.map (·.1) := fun hm1 => by
        obtain ⟨y, hy, ey⟩ := List.mem_map.1 hm1
        exact hm (List.mem_map.2 ⟨y, ((h1 y).1 hy).1, ey⟩)
      simp [hm, this]
  · have hxF := ((h1 x).1 hx).1
    have hr := h.range x hxF
    obtain ⟨i, hi⟩ := Int.eq_ofNat_of_zero_le hr.1
    have hl := landed_pg hF i (by have := h.n64; omega)
    rw [← hi] at hl
    rw [hl, Vol.forgot, stPg_put, if_neg (by omega), frees_pg _ _ _ (by omega)]
    exact h.own x hxF hx2
theorem Owns.len {S : Vol} {d m : Pg} {n : Nat} {F : Owners} (h : Owns S d m n F) : F.length = (usedTo m n).length := by
  have h1 : ((usedTo m n).map (fun x : Nat => (x : Int))).Nodup := by
    refine List.Pairwise.map _ (fun a b hab e => hab ?_) h.vol.half.once
    exact Int.ofNat.inj e
  have := len_eq_of h.keys h1 fun x => by
    constructor
    · intro hx
      obtain ⟨y, hy, rfl⟩ := List.mem_map.1 hx
      have hr := h.range y hy
      obtain ⟨i, hi⟩ := Int.eq_ofNat_of_zero_le hr.1
      refine List.mem_map.2 ⟨i, (usedTo_mem m n i).2 ⟨by omega, ?_⟩, hi.symm⟩
      rw [h.bits i (by omega), ← hi]
      simpa using hx
    · intro hx
      obtain ⟨i, hi, rfl⟩ := List.mem_map.1 hx
      obtain ⟨h1, h2⟩ := (usedTo_mem m n i).1 hi
      rw [h.bits i h1] at h2
      simpa using h2
  simpa using this
theorem Owns.used {S : Vol} {d m : Pg} {n : Nat} {F : Owners} (h : Owns S d m n F) (j : Nat) (hj : j < (usedTo m n).length) : ((usedTo m n)[j] : Int) ∈ F.map (·.1) := by
  obtain ⟨h1, h2⟩ := (usedTo_mem m n _).1 (List.getElem_mem hj)
  rw [h.bits _ h1] at h2
  simpa using h2
/-- a place that is free, or none -/
theorem first_free {p : Nat → Bool} (n : Nat) : (∃ k, k < n ∧ p k = false ∧ ∀ j, j < k → p j = true) ∨ ∀ j, j < n → p j = true := by
  by_cases h : ∃ i, i < n ∧ p i = false
  · obtain ⟨i, hi, hp⟩ := h
    obtain ⟨k, h1, h2, h3⟩ := least i hp
    exact .inl ⟨k, by omega, h2, h3⟩
  · refine .inr fun j hj => ?_
    cases hp : p j with
    | true => rfl
    | false => exact absurd ⟨j, hj, hp⟩ h
/-- the round's key is struck out -/
theorem own_round {F0 F : Owners} {st : Int} {left : Int → Prop} (hk0 : (F0.map (·.1)).Nodup) (hF : ∀ x, x ∈ F ↔ x ∈ F0 ∧ (x.2 ≠ st ∨ left x.1)) {k v : Int} (hkv : (k, v) ∈ F) :
    (v = st → ∀ x, x ∈ F.filter (fun x => decide (x.1 ≠ k)) ↔ x ∈ F0 ∧ (x.2 ≠ st ∨ ((left x.1 ∧ x.1 ≠ k) ∧ x.1 ≠ k))) ∧ (v ≠ st → ∀ x, x ∈ F ↔ x ∈ F0 ∧ (x.2 ≠ st ∨ (left x.1 ∧ x.1 ≠ k))) := by
  have huniq : ∀ x ∈ F0, x.1 = k → x = (k, v) := fun x hx e => by
    have hk := ((hF _).1 hkv).1
    rw [List.nodup_iff_pairwise_ne, List.pairwise_map] at hk0
    obtain ⟨i, hi, ei⟩ := List.getElem_of_mem hx
    obtain ⟨j, hj, ej⟩ := List.getElem_of_mem hk
    have hij : i = j := by
      rcases Nat.lt_trichotomy i j with h | h | h
      · exact absurd (by rw [ei, ej]; exact e) (List.pairwise_iff_getElem.1 hk0 i j hi hj h)
      · exact h
      · exact absurd (by rw [ei, ej]; exact e.symm) (List.pairwise_iff_getElem.1 hk0 j i hj hi h)
    subst hij
    rw [← ei, ← ej]
  refine ⟨fun hv x => ?_, fun hv x => ?_⟩
  · rw [List.mem_filter, hF x]
    simp only [ne_eq, decide_eq_true_eq]
    constructor
    · rintro ⟨⟨h1, h2⟩, h3⟩
      exact ⟨h1, h2.imp id fun h => ⟨⟨h, h3⟩, h3⟩⟩
    · rintro ⟨h1, h2⟩
      have h3 : ¬ x.1 = k := fun e => by
        have := huniq x h1 e
        subst this
        rcases h2 with h2 | h2
        · exact h2 hv
        · exact h2.2 rfl
      exact ⟨⟨h1, h2.imp id fun h => h.1.1⟩, h3⟩
  · rw [hF x]
    constructor
    · rintro ⟨h1, h2⟩
      refine ⟨h1, ?_⟩
      by_cases e : x.1 = k
      · have := huniq x h1 e
        subst this
        exact .inl hv
      · exact h2.imp id fun h => ⟨h, e⟩
    · rintro ⟨h1, h2⟩
      exact ⟨h1, h2.imp id fun h => h.1⟩

/-! contracts that the law wants besides -/
theorem Lay.weaken {P Q : Nat → Prop} {w0 w : World} {b hb : Nat} {S : Vol} (h : Lay Q w0 w b hb S) (hPQ : ∀ k, P k → Q k) : Lay P w0 w b hb S := by
  obtain ⟨h1, h2, mb, pb, h3, h4⟩ := h
  exact ⟨⟨h1.os, h1.tape, h1.output, h1.size, fun k hk => h1.block k (hPQ k hk)⟩, fun k hk => h2 k (hPQ k hk), mb, pb, h3, fun h => h4.1 (hPQ _ h), fun h => h4.2.1 (hPQ _ h), fun h => h4.2.2.1 (hPQ _ h), fun h => h4.2.2.2 (hPQ _ h)⟩
theorem setOk_lay {P : Nat → Prop} {w0 w : World} {b hb : Nat} {S : Vol} (L : Lay P w0 w b hb S) (id : Nat) (p : Pg) (hp : okPg p = true) (hid : id < 1024) :
    Calls Try.prog 20 #[.pointer (some ⟨b, 0, none⟩), .int .i64 id, p.v] w fun e w' => e = .returned (.int .i64 0) ∧ Lay P w0 w' b hb (S.put id p) := by
  obtain ⟨mb, pb, hs, h4⟩ := L.at'
  refine (set_any S b mb hb pb id p w hs).mono ?_
  rintro e w' ⟨rfl, hg, hs'⟩
  rw [okSet_one hp id (by omega) (by omega)] at hs' ⊢
  exact ⟨rfl, Lay.write L.keep L.dom h4 hg hs'⟩

set_option maxHeartbeats 4000000 in
set_option maxRecDepth 100000 in
theorem make_full {P : Nat → Prop} {w0 w : World} {b hb : Nat} {S : Vol} {d m : Pg} {n : Nat} (L : Lay P w0 w b hb S) (h : VolOk S d m n) (k : Nat) (hk : k < 6) (ha : d.a k = 0) (hbef : ∀ j, j < k → d.a j ≠ 0) (hfull : ∀ j, j < n → bitAt m j = true) (kind : Int) (hkind : 1 ≤ kind ∧ kind ≤ 3) :
    Calls Try.prog 11 #[.pointer (some ⟨b, 0, none⟩), .int .i64 kind] w fun e w' => e = .returned (.tuple #[.int .i64 0, .int .i64 140]) ∧ Lay P w0 w' b hb S := by
  obtain ⟨mb, pb, hs, h4⟩ := L.at'
  obtain ⟨l1, l2, l3, l4⟩ := hs.lt
  have HD := Lib.hid (fun w' hh => dir_ok S b mb hb pb d w' hh h.dir)
  have HT := Lib.hid (fun w' hh => take_none S b mb hb pb m n w' hh h.map hfull)
  have HS := Lib.hid hs
  have HL := Lib.hid L
  have HBef := Lib.hid hbef
  have HA := Lib.hid ha
  obtain ⟨k1, k2⟩ := hkind
  clear hs h L hfull h4 hbef ha
  go_enter Try.func11, Try.ntmps11
  go_wp2_with fail
  refine (HD.out _ HS.out).mono ?_; rintro e w1 ⟨rfl, hb1⟩
  have hsz := hb1.size
  have HB1 := Lib.hid hb1
  clear hb1
  go_wp2_with fail
  go_loopw [30] (fun i wr => ∃ j : Nat, j ≤ k ∧ i = .int .i64 j ∧ Below (w1.heap.size + 1) (w1.alloc (.cells d.cs 50)) wr) (fun i _ => 6 - (intOf i).toNat)
  case atStart => exact ⟨0, by omega, rfl, (Below.refl _ _)⟩
  case round =>
    obtain ⟨j, hj, rfl, hbl⟩ := hrel
    have hz := hbl.size
    simp only [World.size_alloc] at hz
    have R1 : rowAt wr w1.heap.size = some d.cs := (rowAt_below hbl (by omega)).trans (rowAt_at w1 d.cs _ _ rfl)
    have HB3 := Lib.hid hbl
    clear hbl
    by_cases hlt : j < k
    · have hidx := index6 d j (by omega)
      have h0 : (d.a j == 0) = false := by simp [HBef.out j hlt]
      generalize d.a j = a at *
      generalize d.d j = x at *
      go_wp2_with fail
      go_roundw
      case rel => exact ⟨j + 1, by omega, by go_num, HB3.out.alloc (by omega) _⟩
      case measure => simp [intOf]; omega
    · have hje : j = k := by omega
      subst hje
      have hidx := index6 d j (by omega)
      rw [HA.out] at hidx
      generalize d.d j = x at *
      go_wp2_with fail
      have B1 : Below w.heap.size w (wr.alloc (.cells #[.int .i64 0, .string x] 47)) := ((HB1.out.alloc (by omega) (.cells d.cs 50)).trans (HB3.out.mono (by omega))).alloc (by omega) _
      have HB := Lib.hid B1
      refine (HT.out _ (HS.out.below B1 ⟨l1, l2, l3, l4⟩)).mono ?_; rintro e w2 ⟨rfl, hb2⟩
      have hz2 := hb2.size
      simp only [World.size_alloc] at hz2
      have HB2 := Lib.hid (HB.out.trans (hb2.mono (by go_size)))
      clear hb2 B1
      go_wp2_with fail
      go_ret2
      exact ⟨rfl, HL.out.step HB2.out⟩
end Go.Proofs.Ytmbeicijljlejaa
