/-
  Volumes with up to six stores, as values: heaps and trees side by side; what an audit says of them.
-/
import Derived.Test.YtljommhbhpappaaGreatAu12
import Derived.Test.YtljommhbhpappaaGreatGx1
namespace Go.Proofs.YtljommhbhpappaaGreat
open Go.RowKit Go.Joins
set_option linter.unusedVariables false
set_option linter.unusedSimpArgs false

/-- a heap's chain of pages -/
structure HpGood (S : Vol) (st : Int) (C : List Int) : Prop where
  pos : 0 < C.length
  ses : ∀ id ∈ C, stE S id = 0
  ok : ∀ i (h : i < C.length), (stPg S C[i]).s = st ∧ (stPg S C[i]).k = 3 ∧ (stPg S C[i]).n = (if h' : i + 1 < C.length then C[i + 1] else 0) ∧ (∀ j, j < 6 → ((stPg S C[i]).d j).size ≤ 32) ∧ okPg (stPg S C[i]) = true
def Part.Ok (S : Vol) (d : Pg) (k : Nat) : Part → Prop
  | .nil => d.a k = 0
  | .heap C => (d.a k = 1 ∨ d.a k = 2) ∧ (∃ r, C[0]? = some r ∧ d.d k = entryD 1 r) ∧ HpGood S ((k : Int) + 1) C
  | .tree kd N T => (d.a k = 1 ∨ d.a k = 2) ∧ (kd = 2 ∨ kd = 3) ∧ d.d k = entryD kd (Tr.id N T) ∧ TrAt S ((k : Int) + 1) N T ∧ Tr.Wide N T
/-- a volume with its stores -/
structure MVol (S : Vol) (d m : Pg) (n : Nat) (P : Nat → Part) : Prop where
  vol : VolOk S d m n
  part : ∀ k, k < 6 → (P k).Ok S d k
  own : ∀ k, k < 6 → ∀ id ∈ (P k).ids, 2 ≤ id ∧ id < n
  nodup : ∀ k, k < 6 → (P k).ids.Nodup
  apart : ∀ j, j < 6 → ∀ k, k < 6 → j ≠ k → ∀ id ∈ (P j).ids, ¬ id ∈ (P k).ids
  bits : ∀ i : Nat, i < n → (bitAt m i = true ↔ i < 2 ∨ ∃ k, k < 6 ∧ (i : Int) ∈ (P k).ids)
theorem HpGood.frame {S S' : Vol} {st : Int} {C : List Int} (h : HpGood S st C) (hp : ∀ id ∈ C, stPg S' id = stPg S id ∧ stE S' id = stE S id) : HpGood S' st C :=
  ⟨h.pos, fun id hid => by rw [(hp id hid).2]; exact h.ses id hid, fun i hi => by rw [(hp _ (List.getElem_mem hi)).1]; exact h.ok i hi⟩
theorem TrAt.frame22 {S S' : Vol} {st : Int} {N : Nat} {T : Tr N} (h : TrAt S st N T) (hp : ∀ id ∈ Tr.ids N T, stPg S' id = stPg S id ∧ stE S' id = stE S id) : TrAt S' st N T :=
  ⟨h.tin.frame hp, leafAll_frame (fun x hx => (hp _ (leaf_ids hx)).1) h.chain, h.nodup, h.ord⟩
theorem Part.Ok.frame {S S' : Vol} {d d' : Pg} {k : Nat} {p : Part} (h : p.Ok S d k) (hp : ∀ id ∈ p.ids, stPg S' id = stPg S id ∧ stE S' id = stE S id) (ha : d'.a k = d.a k) (hd : d'.d k = d.d k) : p.Ok S' d' k := by
  cases p with
  | nil => exact ha.trans h
  | heap C => exact ⟨by rw [ha]; exact h.1, by rw [hd]; exact h.2.1, h.2.2.frame hp⟩
  | tree kd N T => exact ⟨by rw [ha]; exact h.1, h.2.1, by rw [hd]; exact h.2.2.1, h.2.2.2.1.frame22 hp, h.2.2.2.2⟩

/-! ## what an audit says -/
theorem TrIn.au {S : Vol} {st x : Int} : ∀ {n : Nat} {t : Tr n}, TrIn S st n t → (¬ x ∈ Tr.ids n t) → Tr.Au S st x n t
  | 0, t, h, hx => by
    show AuN S st x 0 t.1 t.2
    unfold AuN
    have hid : t.1 ∈ Tr.ids 0 t := id_mem 0 t
    have hne : ¬ t.1 = x := fun e => hx (by rw [← e]; exact hid)
    rw [if_neg hne]
    obtain ⟨nx, -, hp⟩ := h.leaves (t.1, t.2) (List.mem_cons_self ..)
    exact ⟨(h.ids _ hid).1, nx, hp⟩
  | n + 1, t, h, hx => by
    have hid : t.1 ∈ Tr.ids (n + 1) t := id_mem (n + 1) t
    refine ⟨?_, fun y hy => (h.kid hy).au (fun e => hx (List.mem_cons_of_mem _ (List.mem_flatMap.2 ⟨y, hy, e⟩)))⟩
    unfold AuN
    have hne : ¬ t.1 = x := fun e => hx (by rw [← e]; exact hid)
    rw [if_neg hne]
    exact ⟨(h.ids _ hid).1, 0, h.inner.1⟩
theorem leafAll_chained {S : Vol} {st : Int} : ∀ {l : List (Int × List NC)}, LeafAll S st l 0 → Chained S (l.map (·.1))
  | [], _ => fun i hi => absurd hi (by simp)
  | x :: r, h => fun i hi => by
    rcases i with _ | i
    · have h1 := h.1
      show (stPg S x.1).n = _
      rw [h1]
      show nextOf r 0 = _
      cases r with
      | nil => rfl
      | cons y s => simp [nextOf]
    · have ih := leafAll_chained h.2 i (by simpa using hi)
      simp only [List.map_cons, List.getElem_cons_succ, List.length_cons] at ih ⊢
      rw [ih]
      by_cases e : i + 1 < (r.map (·.1)).length
      · rw [dif_pos e, dif_pos (by simpa using e)]
      · rw [dif_neg e, dif_neg (by simpa using e)]
theorem MVol.lt {S : Vol} {d m : Pg} {n : Nat} {P : Nat → Part} (h : MVol S d m n P) : n ≤ 1024 := h.vol.map.hi
theorem MVol.auPart {S : Vol} {d m : Pg} {n : Nat} {P : Nat → Part} (h : MVol S d m n P) (k : Nat) (hk : k < 6) : (P k).Au S d k (-1) := by
  have h1 := h.part k hk
  have h2 := h.own k hk
  have h3 := h.nodup k hk
  have hn := h.lt
  cases hp : P k with
  | nil => rw [hp] at h1; exact h1
  | heap C =>
    rw [hp] at h1 h2 h3
    obtain ⟨a1, ⟨r, a2, a3⟩, a4⟩ := h1
    have hr := h2 r (List.mem_of_getElem? a2)
    refine ⟨by omega, ⟨r, a2, a3, by omega, by omega⟩, a4.pos, h3, fun i hi _ => ?_, fun id hid => by have := h2 id hid; omega, fun hx => by have := h2 _ hx; omega⟩
    obtain ⟨b1, b2, b3, b4, -⟩ := a4.ok i hi
    exact ⟨a4.ses _ (List.getElem_mem hi), b1, b2, b3, b4⟩
  | tree kd N T =>
    rw [hp] at h1 h2 h3
    obtain ⟨a1, a2, a3, a4, a5⟩ := h1
    have hx : ¬ (-1 : Int) ∈ Tr.ids N T := fun hx => by have := h2 _ hx; omega
    exact ⟨by omega, a2, a3, a4.tin.au hx, a4.tin.good, a4.ord, a4.tin.low, h3, fun id hid => by have := h2 id hid; omega, fun e => absurd (e ▸ id_mem N T) hx, fun id hid => (a4.tin.ids id hid).1⟩
theorem MVol.chained {S : Vol} {d m : Pg} {n : Nat} {P : Nat → Part} (h : MVol S d m n P) (k : Nat) (hk : k < 6) : (P k).chained S := by
  have h1 := h.part k hk
  cases hp : P k with
  | nil => trivial
  | heap C => trivial
  | tree kd N T => rw [hp] at h1; exact leafAll_chained h1.2.2.2.1.chain
theorem MVol.au {S : Vol} {d m : Pg} {n : Nat} {P : Nat → Part} (h : MVol S d m n P) : AuVol S d m n P (-1) :=
  ⟨h.vol, h.auPart, fun k hk id hid => by have := h.own k hk id hid; omega, h.apart, by decide⟩
theorem sub_len22 : ∀ (a b : List Int), a.Nodup → (∀ x ∈ a, x ∈ b) → a.length ≤ b.length
  | [], b, _, _ => Nat.zero_le _
  | x :: a, b, hn, hs => by
    obtain ⟨h1, h2⟩ := List.nodup_cons.1 hn
    have hx := hs x (List.mem_cons_self ..)
    have ih := sub_len22 a (b.erase x) h2 (fun y hy => (List.mem_erase_of_ne (fun e => h1 (by rw [← e]; exact hy))).2 (hs y (List.mem_cons_of_mem _ hy)))
    rw [List.length_erase_of_mem hx] at ih
    have := List.length_pos_of_mem hx
    simp only [List.length_cons]; omega
theorem firstN_nodup {P : Nat → Part} {b : Nat} (h1 : ∀ k, k < b → (P k).ids.Nodup) (h2 : ∀ j, j < b → ∀ k, k < b → j ≠ k → ∀ id ∈ (P j).ids, ¬ id ∈ (P k).ids) : ∀ i, i ≤ b → (firstN (fun k => (P k).ids) i).Nodup
  | 0, _ => by simp [firstN]
  | i + 1, hi => by
    rw [firstN_succ]
    refine List.nodup_append.2 ⟨firstN_nodup h1 h2 i (by omega), h1 i (by omega), fun a ha c hc e => ?_⟩
    subst e
    obtain ⟨j, hj, ha⟩ := mem_firstN.1 ha
    exact h2 j (by omega) i (by omega) (by omega) a ha hc
theorem MVol.reach_mem {S : Vol} {d m : Pg} {n : Nat} {P : Nat → Part} (h : MVol S d m n P) (u : Nat) : (u : Int) ∈ reach P ↔ u < 2 ∨ ∃ k, k < 6 ∧ (u : Int) ∈ (P k).ids := by
  unfold reach
  rw [List.mem_cons, List.mem_cons, mem_firstN]
  constructor
  · rintro (e | e | e)
    · exact .inl (by omega)
    · exact .inl (by omega)
    · exact .inr e
  · rintro (e | e)
    · have : u = 0 ∨ u = 1 := by omega
      rcases this with rfl | rfl
      · exact .inl rfl
      · exact .inr (.inl rfl)
    · exact .inr (.inr e)
theorem MVol.used_mem {S : Vol} {d m : Pg} {n : Nat} {P : Nat → Part} (h : MVol S d m n P) (u : Nat) : u ∈ usedTo m n ↔ (u : Int) ∈ reach P := by
  rw [h.reach_mem, usedTo_mem]
  constructor
  · rintro ⟨h1, h2⟩; exact (h.bits u h1).1 h2
  · intro hr
    have hu : u < n := by
      rcases hr with e | ⟨k, hk, e⟩
      · have := h.vol.two; omega
      · have := (h.own k hk _ e).2; omega
    exact ⟨hu, (h.bits u hu).2 hr⟩
theorem MVol.reach_nodup {S : Vol} {d m : Pg} {n : Nat} {P : Nat → Part} (h : MVol S d m n P) : (reach P).Nodup := by
  have hf := firstN_nodup h.nodup h.apart 6 (Nat.le_refl _)
  unfold reach
  refine List.nodup_cons.2 ⟨fun hm => ?_, List.nodup_cons.2 ⟨fun hm => ?_, hf⟩⟩
  · rcases List.mem_cons.1 hm with e | hm
    · cases e
    · obtain ⟨k, hk, e⟩ := mem_firstN.1 hm
      have := h.own k hk _ e; omega
  · obtain ⟨k, hk, e⟩ := mem_firstN.1 hm
    have := h.own k hk _ e; omega
theorem MVol.reach_nat {S : Vol} {d m : Pg} {n : Nat} {P : Nat → Part} (h : MVol S d m n P) {x : Int} (hx : x ∈ reach P) : ∃ u : Nat, x = (u : Int) ∧ u < n := by
  have h2 := h.vol.two
  unfold reach at hx
  rcases List.mem_cons.1 hx with rfl | hx
  · exact ⟨0, rfl, by omega⟩
  · rcases List.mem_cons.1 hx with rfl | hx
    · exact ⟨1, rfl, by omega⟩
    · obtain ⟨k, hk, e⟩ := mem_firstN.1 hx
      have := h.own k hk _ e
      exact ⟨x.toNat, by omega, by omega⟩
theorem usedTo_nodup (m : Pg) (n : Nat) : (usedTo m n).Nodup := List.Pairwise.filter _ List.nodup_range
theorem cast_nodup {l : List Nat} (h : l.Nodup) : (l.map fun i : Nat => (i : Int)).Nodup := List.pairwise_map.2 (h.imp fun hab e => hab (by omega))
theorem MVol.count {S : Vol} {d m : Pg} {n : Nat} {P : Nat → Part} (h : MVol S d m n P) : (usedTo m n).length = (reach P).length := by
  have h1 := sub_len22 ((usedTo m n).map fun i : Nat => (i : Int)) (reach P) (cast_nodup (usedTo_nodup m n)) (fun x hx => by
    obtain ⟨u, hu, rfl⟩ := List.mem_map.1 hx
    exact (h.used_mem u).1 hu)
  have h2 := sub_len22 (reach P) ((usedTo m n).map fun i : Nat => (i : Int)) h.reach_nodup (fun x hx => by
    obtain ⟨u, rfl, -⟩ := h.reach_nat hx
    exact List.mem_map.2 ⟨u, (h.used_mem u).2 hx, rfl⟩)
  rw [List.length_map] at h1 h2
  omega
theorem MVol.neg {S : Vol} {d m : Pg} {n : Nat} {P : Nat → Part} (h : MVol S d m n P) : ¬ (-1 : Int) ∈ reach P := fun hm => by
  obtain ⟨u, e, -⟩ := h.reach_nat hm
  omega
/-- on a sound volume all hangs together -/
theorem mCheck {S : Vol} {d m : Pg} {n : Nat} {P : Nat → Part} (h : MVol S d m n P) {Q : Nat → Prop} {w0 w : World} {b hb : Nat} (L : Lay Q w0 w b hb S) :
    Calls Tryz.prog 10 #[.pointer (some ⟨b, 0, none⟩)] w fun e w' => e = .returned (.int .i64 0) ∧ Lay Q w0 w' b hb S := by
  obtain ⟨mb, pb, hs, -⟩ := L.at'
  refine (auCheck_any h.au b mb hb pb w hs).mono ?_
  rintro e w' ⟨er, rfl, hb', h0, -⟩
  rw [h0.2 ⟨h.neg, h.chained, fun u hu => (h.used_mem u).1 hu, h.count⟩]
  exact ⟨rfl, L.step hb'⟩

/-! ## a store that changes beside the others -/
def setP (P : Nat → Part) (k : Nat) (p : Part) (j : Nat) : Part := if j = k then p else P j
theorem setP_same (P : Nat → Part) (k : Nat) (p : Part) : setP P k p k = p := if_pos rfl
theorem setP_other (P : Nat → Part) (k : Nat) (p : Part) {j : Nat} (h : j ≠ k) : setP P k p j = P j := if_neg h
theorem MVol.change {S S' : Vol} {d m m' : Pg} {n : Nat} {P : Nat → Part} (h : MVol S d m n P) (k : Nat) (hk : k < 6) (p : Part) (hv : VolOk S' d m' n) (hp : p.Ok S' d k) (hnd : p.ids.Nodup) (hown : ∀ i ∈ p.ids, 2 ≤ i ∧ i < n ∧ bitAt m' i.toNat = true) (hf : Fr S m S' m' n (P k).ids p.ids) : MVol S' d m' n (setP P k p) := by
  have hbit : ∀ j, j < 6 → j ≠ k → ∀ i ∈ (P j).ids, ¬ i ∈ p.ids := fun j hj hjk i hi hip => by
    rcases hf.new i hip with e | e
    · exact h.apart j hj k hk hjk i hi e
    · have h1 := h.own j hj i hi
      have h2 := (h.bits i.toNat (by omega)).2 (.inr ⟨j, hj, by rw [Int.toNat_of_nonneg (by omega)]; exact hi⟩)
      rw [e] at h2; cases h2
  refine ⟨hv, fun j hj => ?_, fun j hj id hid => ?_, fun j hj => ?_, fun i hi j hj hij id hid hid' => ?_, fun i hi => ?_⟩
  · by_cases e : j = k
    · subst e; rw [setP_same]; exact hp
    · rw [setP_other _ _ _ e]
      refine (h.part j hj).frame (fun id hid => ?_) rfl rfl
      have h1 := h.own j hj id hid
      have h0 := h.vol.there id.toNat (by omega)
      rw [Int.toNat_of_nonneg (by omega)] at h0
      exact ⟨hf.page id (hbit j hj e id hid) (by omega), (hf.ses id h0).trans h0.symm⟩
  · by_cases e : j = k
    · subst e; rw [setP_same] at hid; have := hown id hid; exact ⟨this.1, this.2.1⟩
    · rw [setP_other _ _ _ e] at hid; exact h.own j hj id hid
  · by_cases e : j = k
    · subst e; rw [setP_same]; exact hnd
    · rw [setP_other _ _ _ e]; exact h.nodup j hj
  · by_cases e1 : i = k
    · have e2 : j ≠ k := fun e => hij (e1.trans e.symm)
      subst e1
      rw [setP_same] at hid
      rw [setP_other _ _ _ e2] at hid'
      exact hbit j hj e2 id hid' hid
    · rw [setP_other _ _ _ e1] at hid
      by_cases e2 : j = k
      · subst e2
        rw [setP_same] at hid'
        exact hbit i hi e1 id hid hid'
      · rw [setP_other _ _ _ e2] at hid'
        exact h.apart i hi j hj hij id hid hid'
  · constructor
    · intro hb
      rcases hf.bit i hi hb with e | e
      · rcases (h.bits i hi).1 e with e | ⟨j, hj, e⟩
        · exact .inl e
        · by_cases ejk : j = k
          · subst ejk; exact .inr ⟨j, hj, by rw [setP_same]; exact hf.old _ e⟩
          · exact .inr ⟨j, hj, by rw [setP_other _ _ _ ejk]; exact e⟩
      · exact .inr ⟨k, hk, by rw [setP_same]; exact e⟩
    · rintro (e | ⟨j, hj, e⟩)
      · exact hf.mono i hi ((h.bits i hi).2 (.inl e))
      · by_cases ejk : j = k
        · subst ejk
          rw [setP_same] at e
          have := (hown _ e).2.2
          rwa [Int.toNat_natCast] at this
        · rw [setP_other _ _ _ ejk] at e
          exact hf.mono i hi ((h.bits i hi).2 (.inr ⟨j, hj, e⟩))
/-- a live tree of a volume -/
theorem MVol.gx {S : Vol} {d m : Pg} {n : Nat} {P : Nat → Part} (h : MVol S d m n P) {k : Nat} (hk : k < 6) {kd : Int} {N : Nat} {T : Tr N} (hp : P k = .tree kd N T) (hl : d.a k = 1) : GxOk S d m n kd ((k : Int) + 1) N T := by
  have h1 := h.part k hk
  rw [hp] at h1
  obtain ⟨-, a2, a3, a4, a5⟩ := h1
  refine ⟨h.vol, ⟨k, hk, rfl, hl, a3⟩, a2, a4, fun i hi => ?_, a5⟩
  have hi' : i ∈ (P k).ids := by rw [hp]; exact hi
  have h2 := h.own k hk i hi'
  exact ⟨h2.1, h2.2, (h.bits i.toNat (by omega)).2 (.inr ⟨k, hk, by rw [Int.toNat_of_nonneg (by omega)]; exact hi'⟩)⟩
theorem MVol.treeTo {S S' : Vol} {d m m' : Pg} {n : Nat} {P : Nat → Part} (h : MVol S d m n P) {k : Nat} (hk : k < 6) {kd : Int} {N N' : Nat} {T : Tr N} {T' : Tr N'} (hp : P k = .tree kd N T) (hl : d.a k = 1) (hg : GxOk S' d m' n kd ((k : Int) + 1) N' T') (hf : Fr S m S' m' n (Tr.ids N T) (Tr.ids N' T')) : MVol S' d m' n (setP P k (.tree kd N' T')) := by
  have hent : d.d k = entryD kd (Tr.id N' T') := by
    obtain ⟨j, h1, h2, h3, h4⟩ := hg.slot
    obtain rfl : j = k := by omega
    exact h4
  refine h.change k hk (.tree kd N' T') hg.vol ⟨.inl hl, hg.kind, hent, hg.tree, hg.wide⟩ hg.tree.nodup hg.own ?_
  rw [hp]; exact hf
theorem MVol.moved {S S' : Vol} {d m : Pg} {n N : Nat} {P : Nat → Part} (h : MVol S d m n P) (hn : n ≤ N) (hp : ∀ i : Nat, i < N → stPg S' i = stPg S i ∧ stE S' i = 0) : MVol S' d m n P := by
  have h2 := h.vol.two
  have p0 := hp 0 (by omega)
  have p1 := hp 1 (by omega)
  have hv : VolOk S' d m n := ⟨⟨p0.2, p0.1.trans h.vol.dir.p, h.vol.dir.k⟩, h.vol.dok, ⟨p1.2, p1.1.trans h.vol.map.p, h.vol.map.k, h.vol.map.cnt, h.vol.map.lo, h.vol.map.hi, h.vol.map.sz, h.vol.map.ok⟩, fun i hi => (hp i (by omega)).2, h.vol.two, h.vol.z0, h.vol.z1⟩
  refine ⟨hv, fun k hk => (h.part k hk).frame (fun id hid => ?_) rfl rfl, h.own, h.nodup, h.apart, h.bits⟩
  have h1 := h.own k hk id hid
  have h3 := hp id.toNat (by omega)
  have h4 := h.vol.there id.toNat (by omega)
  rw [Int.toNat_of_nonneg (by omega)] at h3 h4
  exact ⟨h3.1, h3.2.trans h4.symm⟩
theorem MVol.landed {S : Vol} {d m : Pg} {n N : Nat} {P : Nat → Part} (h : MVol S d m n P) (hf : S.Fit N) (hn : n ≤ N) : MVol S.landed d m n P :=
  h.moved hn fun i hi => ⟨landed_pg hf i hi, stE_nil (landed_fit hf).len hi⟩
/-- a new volume -/
theorem NewVol.mvol {S : Vol} {d m : Pg} {n : Nat} {ks : List Int} (h : NewVol S d m n ks (2 + ks.length)) : MVol S d m n (newParts ks) := by
  have hn := h.vol.map.hi
  have hroom := h.room
  refine ⟨h.vol, fun k hk => ?_, fun k hk id hid => ?_, fun k hk => ?_, h.au.1.apart, fun i hi => ?_⟩
  · unfold newParts
    by_cases hl : k < ks.length
    · rw [List.getElem?_eq_getElem hl]
      obtain ⟨h1, h2⟩ := h.dir k hl
      have hp := h.pg k hl
      have he := h.vol.there (2 + k) (by omega)
      by_cases e : ks[k] = 1
      · simp only [e, if_true]
        rw [e] at h2 hp
        rw [if_pos rfl] at hp
        refine ⟨.inl h1, ⟨_, rfl, h2⟩, by simp, fun id hid => ?_, fun i hi => ?_⟩
        · obtain rfl : id = ((2 + k : Nat) : Int) := by simpa using hid
          exact he
        · obtain rfl : i = 0 := by simpa using hi
          simp only [List.getElem_cons_zero]
          rw [hp]
          exact ⟨rfl, rfl, by simp, fun j hj => okDatas _ _ j hj, ok_root 3 k (by omega) (by omega) (by omega) (by omega)⟩
      · simp only [e, if_false]
        rw [if_neg e] at hp
        have hkd := h.kind _ (List.getElem_mem hl)
        have hpn : stPg S ((2 + k : Nat) : Int) = ndPg 0 ((k : Int) + 1) 0 [] := hp.trans (emptyNd _)
        refine ⟨.inl h1, by omega, h2, ⟨⟨trivial, ⟨by simp [mkLeaf, Tr.cells], List.Pairwise.nil, fun _ c hc => (by cases hc), fun h => absurd rfl h⟩, fun x hx => ?_, fun id hid => ?_, by omega⟩, ⟨hpn, trivial⟩, by simp [mkLeaf, Tr.ids], fun c hc => (by cases hc)⟩, trivial⟩
        · obtain rfl : x = (((2 + k : Nat) : Int), ([] : List NC)) := by simpa [mkLeaf, Tr.leaves] using hx
          exact ⟨0, by omega, hpn⟩
        · obtain rfl : id = ((2 + k : Nat) : Int) := by simpa [mkLeaf, Tr.ids] using hid
          exact ⟨he, by omega, by omega⟩
    · rw [List.getElem?_eq_none (by omega)]
      exact h.free k (by omega) hk
  · rw [newParts_ids] at hid
    split at hid
    · have : id = ((2 + k : Nat) : Int) := by simpa using hid
      omega
    · cases hid
  · rw [newParts_ids]; split
    · simp
    · simp
  · rw [h.bits i hi, decide_eq_true_eq]
    constructor
    · intro hlt
      by_cases e : i < 2
      · exact .inl e
      · refine .inr ⟨i - 2, by have := h.six; omega, ?_⟩
        rw [newParts_ids, if_pos (by omega)]
        have : i = 2 + (i - 2) := by omega
        rw [← this]; simp
    · rintro (e | ⟨k, hk, e⟩)
      · omega
      · rw [newParts_ids] at e
        split at e
        · have : (i : Int) = ((2 + k : Nat) : Int) := by simpa using e
          omega
        · cases e
end Go.Proofs.YtljommhbhpappaaGreat
