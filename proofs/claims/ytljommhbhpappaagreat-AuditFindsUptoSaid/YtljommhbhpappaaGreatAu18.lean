/-
  Layer 22 (audit): a sound volume with one leaf spoilt is found out.
-/
import Derived.Test.YtljommhbhpappaaGreatAu17
namespace Go.Proofs.YtljommhbhpappaaGreat
open Go.RowKit Go.Joins
set_option linter.unusedVariables false
set_option linter.unusedSimpArgs false

theorem TrIn.auPut {S S' : Vol} {st x : Int} (hl : (stPg S x).l = 0) (hS : ∀ i, i ≠ x → stPg S' i = stPg S i ∧ stE S' i = stE S i) (hb : BadNode S' st 0 x) : ∀ {n : Nat} {t : Tr n}, TrIn S st n t → Tr.Au S' st x n t
  | 0, t, h => by
    show AuN S' st x 0 t.1 t.2
    unfold AuN
    by_cases e : t.1 = x
    · rw [if_pos e]; exact hb
    · rw [if_neg e]
      obtain ⟨nx, -, hp⟩ := h.leaves (t.1, t.2) (List.mem_cons_self ..)
      exact ⟨(hS _ e).2.trans (h.ids _ (id_mem 0 t)).1, nx, (hS _ e).1.trans hp⟩
  | n + 1, t, h => by
    refine ⟨?_, fun y hy => (h.kid hy).auPut hl hS hb⟩
    unfold AuN
    have hne : ¬ t.1 = x := fun e => by
      have h1 := h.inner.1
      rw [e] at h1
      rw [h1] at hl
      have : ((n + 1 : Nat) : Int) = 0 := hl
      omega
    rw [if_neg hne]
    exact ⟨(hS _ hne).2.trans (h.ids _ (id_mem (n + 1) t)).1, 0, (hS _ hne).1.trans h.inner.1⟩
theorem TrIn.auNext {S S' : Vol} {st x : Int} (hl : (stPg S x).l = 0) (hS : ∀ i, i ≠ x → stPg S' i = stPg S i ∧ stE S' i = stE S i) (hx : stE S' x = 0 ∧ ∀ nx L, stPg S x = ndPg 0 st nx L → ∃ nx', stPg S' x = ndPg 0 st nx' L) : ∀ {n : Nat} {t : Tr n}, TrIn S st n t → Tr.Au S' st (-1) n t
  | 0, t, h => by
    show AuN S' st (-1) 0 t.1 t.2
    unfold AuN
    have h1 := h.ids _ (id_mem 0 t)
    have h1' : stE S t.1 = 0 ∧ 1 ≤ t.1 ∧ t.1 < 1024 := h1
    rw [if_neg (by omega)]
    obtain ⟨nx, -, hp⟩ := h.leaves (t.1, t.2) (List.mem_cons_self ..)
    by_cases e : t.1 = x
    · have hp' : stPg S x = ndPg 0 st nx t.2 := by rw [← e]; exact hp
      rw [e]
      exact ⟨hx.1, hx.2 nx t.2 hp'⟩
    · exact ⟨(hS _ e).2.trans h1'.1, nx, (hS _ e).1.trans hp⟩
  | n + 1, t, h => by
    refine ⟨?_, fun y hy => (h.kid hy).auNext hl hS hx⟩
    unfold AuN
    have h1 : stE S t.1 = 0 ∧ 1 ≤ t.1 ∧ t.1 < 1024 := h.ids _ (id_mem (n + 1) t)
    rw [if_neg (by omega)]
    have hne : ¬ t.1 = x := fun e => by
      have h1 := h.inner.1
      rw [e] at h1
      rw [h1] at hl
      have : ((n + 1 : Nat) : Int) = 0 := hl
      omega
    exact ⟨(hS _ hne).2.trans h1.1, 0, (hS _ hne).1.trans h.inner.1⟩
/-- the other stores do not see what becomes of a page of one of them -/
theorem MVol.auOther {S : Vol} {d m : Pg} {n : Nat} {P : Nat → Part} (h : MVol S d m n P) {k : Nat} (hk : k < 6) {x : Int} (hx : x ∈ (P k).ids) (p : Pg) (j : Nat) (hj : j < 6) (hjk : j ≠ k) (y : Int) (hy : y = x ∨ y = -1) : (P j).Au (S.put x p) d j y := by
  have h1 := h.part j hj
  have h2 := h.own j hj
  have h3 := h.nodup j hj
  have hn := h.lt
  have hxj : ¬ x ∈ (P j).ids := h.apart k hk j hj (fun e => hjk e.symm) x hx
  have hyj : ¬ y ∈ (P j).ids := fun hm => by
    rcases hy with e | e
    · rw [e] at hm; exact hxj hm
    · have := h2 y hm; omega
  have hfr : (P j).Ok (S.put x p) d j := h1.frame (fun id hid => by
    have e : id ≠ x := fun e => hxj (e ▸ hid)
    rw [stPg_put, stE_put, if_neg e, if_neg e]
    exact ⟨rfl, rfl⟩) rfl rfl
  cases hp : P j with
  | nil => rw [hp] at hfr; exact hfr
  | heap C =>
    rw [hp] at hfr h2 h3 hyj
    obtain ⟨a1, ⟨r, a2, a3⟩, a4⟩ := hfr
    have hr := h2 r (List.mem_of_getElem? a2)
    refine ⟨by omega, ⟨r, a2, a3, by omega, by omega⟩, a4.pos, h3, fun i hi _ => ?_, fun id hid => by have := h2 id hid; omega, fun hm => absurd hm hyj⟩
    obtain ⟨b1, b2, b3, b4, -⟩ := a4.ok i hi
    exact ⟨a4.ses _ (List.getElem_mem hi), b1, b2, b3, b4⟩
  | tree kd N T =>
    rw [hp] at hfr h2 h3 hyj
    obtain ⟨a1, a2, a3, a4, a5⟩ := hfr
    exact ⟨by omega, a2, a3, a4.tin.au hyj, a4.tin.good, a4.ord, a4.tin.low, h3, fun id hid => by have := h2 id hid; omega, fun e => absurd (e ▸ id_mem N T) hyj, fun id hid => (a4.tin.ids id hid).1⟩
theorem leaf_of_level {S : Vol} {st x : Int} : ∀ {n : Nat} {t : Tr n}, TrIn S st n t → x ∈ Tr.ids n t → (stPg S x).l = 0 → ∃ y ∈ Tr.leaves n t, y.1 = x
  | 0, t, h, hx, _ => by
    have : x = t.1 := by simpa [Tr.ids] using hx
    exact ⟨(t.1, t.2), List.mem_cons_self .., this.symm⟩
  | n + 1, t, h, hx, hl => by
    rcases List.mem_cons.1 hx with e | hx
    · have h1 := h.inner.1
      rw [← e] at h1
      rw [h1] at hl
      have : ((n + 1 : Nat) : Int) = 0 := hl
      omega
    · obtain ⟨z, hz, hx⟩ := List.mem_flatMap.1 hx
      obtain ⟨y, hy, e⟩ := leaf_of_level (h.kid hz) hx hl
      exact ⟨y, List.mem_flatMap.2 ⟨z, hz, hy⟩, e⟩
/-- a leaf of a tree with more levels than one -/
theorem leaf_page {S : Vol} {st : Int} {N : Nat} {T : Tr N} (h : TrIn S st N T) {x : Int × List NC} (hx : x ∈ Tr.leaves N T) : ∃ nx, (0 ≤ nx ∧ nx < 1024) ∧ stPg S x.1 = ndPg 0 st nx x.2 := h.leaves x hx
/-- one page of a tree is no node any more -/
theorem MVol.bad {S : Vol} {d m : Pg} {n : Nat} {P : Nat → Part} (h : MVol S d m n P) {k : Nat} (hk : k < 6) {kd : Int} {N : Nat} {T : Tr N} (hp : P k = .tree kd N T) (hN : N ≠ 0) {y : Int × List NC} (hy : y ∈ Tr.leaves N T) (p : Pg) (hb : BadNode (S.put y.1 p) ((k : Int) + 1) 0 y.1) : AuVol (S.put y.1 p) d m n P y.1 ∧ y.1 ∈ reach P := by
  have h1 := h.part k hk
  have hn := h.lt
  rw [hp] at h1
  obtain ⟨a1, a2, a3, a4, a5⟩ := h1
  have hid := leaf_ids hy
  have hxk : y.1 ∈ (P k).ids := by rw [hp]; exact hid
  have hown := h.own k hk _ hxk
  obtain ⟨nx, hnx, hpg⟩ := a4.tin.leaves y hy
  have hl : (stPg S y.1).l = 0 := by rw [hpg]; rfl
  have hS : ∀ i, i ≠ y.1 → stPg (S.put y.1 p) i = stPg S i ∧ stE (S.put y.1 p) i = stE S i := fun i hi => by
    rw [stPg_put, stE_put, if_neg hi, if_neg hi]; exact ⟨rfl, rfl⟩
  have hroot : Tr.id N T ≠ y.1 := fun e => by
    obtain ⟨nx2, hpg2⟩ := a4.tin.page
    rw [e] at hpg2
    rw [hpg2] at hl
    have : (N : Int) = 0 := hl
    omega
  refine ⟨⟨VolOk.put h.vol _ _ hown.1, fun j hj => ?_, fun j hj id hd => by have := h.own j hj id hd; omega, h.apart, by omega⟩, ?_⟩
  · by_cases e : j = k
    · subst e
      rw [hp]
      refine ⟨by omega, a2, a3, a4.tin.auPut hl hS hb, a4.tin.good, a4.ord, a4.tin.low, a4.nodup, fun id hd => ?_, fun e => absurd e hroot, fun id hd => ?_⟩
      · have := h.own j hj id (by rw [hp]; exact hd); omega
      · rw [stE_put]; split
        · rfl
        · exact (a4.tin.ids id hd).1
    · exact h.auOther hk hxk p j hj e y.1 (.inl rfl)
  · exact List.mem_cons_of_mem _ (List.mem_cons_of_mem _ (mem_firstN.2 ⟨k, hk, hxk⟩))
/-- a leaf that is not chained -/
theorem MVol.loose {S : Vol} {d m : Pg} {n : Nat} {P : Nat → Part} (h : MVol S d m n P) {k : Nat} (hk : k < 6) {kd : Int} {N : Nat} {T : Tr N} (hp : P k = .tree kd N T) {y : Int × List NC} (hy : y ∈ Tr.leaves N T) (nx' : Int) (hnx : nx' = y.1) : AuVol (S.put y.1 { stPg S y.1 with n := nx' }) d m n P (-1) ∧ ¬ (P k).chained (S.put y.1 { stPg S y.1 with n := nx' }) := by
  have h1 := h.part k hk
  have hn := h.lt
  rw [hp] at h1
  obtain ⟨a1, a2, a3, a4, a5⟩ := h1
  have hid := leaf_ids hy
  have hxk : y.1 ∈ (P k).ids := by rw [hp]; exact hid
  have hown := h.own k hk _ hxk
  obtain ⟨nx, -, hpg⟩ := a4.tin.leaves y hy
  have hl : (stPg S y.1).l = 0 := by rw [hpg]; rfl
  have hS : ∀ i, i ≠ y.1 → stPg (S.put y.1 { stPg S y.1 with n := nx' }) i = stPg S i ∧ stE (S.put y.1 { stPg S y.1 with n := nx' }) i = stE S i := fun i hi => by
    rw [stPg_put, stE_put, if_neg hi, if_neg hi]; exact ⟨rfl, rfl⟩
  have hneg : ¬ (-1 : Int) ∈ Tr.ids N T := fun hm => by
    have := h.own k hk (-1) (by rw [hp]; exact hm); omega
  refine ⟨⟨VolOk.put h.vol _ _ hown.1, fun j hj => ?_, fun j hj id hd => by have := h.own j hj id hd; omega, h.apart, by decide⟩, ?_⟩
  · by_cases e : j = k
    · subst e
      rw [hp]
      refine ⟨by omega, a2, a3, a4.tin.auNext hl hS ⟨by rw [stE_put, if_pos rfl], fun nx2 L hL => ⟨nx', ?_⟩⟩, a4.tin.good, a4.ord, a4.tin.low, a4.nodup, fun id hd => ?_, fun e => absurd (e ▸ id_mem N T) hneg, fun id hd => ?_⟩
      · rw [stPg_put, if_pos rfl, hL]; rfl
      · have := h.own j hj id (by rw [hp]; exact hd); omega
      · rw [stE_put]; split
        · rfl
        · exact (a4.tin.ids id hd).1
    · exact h.auOther hk hxk _ j hj e (-1) (.inr rfl)
  · rw [hp]
    intro hc
    obtain ⟨i, hi, hie⟩ := List.mem_iff_getElem.1 hy
    have hi' : i < ((Tr.leaves N T).map (·.1)).length := by simpa using hi
    have e1 : ((Tr.leaves N T).map (·.1))[i] = y.1 := by rw [List.getElem_map, hie]
    have h2 := hc i hi'
    rw [e1, stPg_put, if_pos rfl] at h2
    have h3 : nx' = _ := h2
    rw [hnx] at h3
    have hnd := a4.nodup.sublist (leaves_sub N T)
    by_cases e : i + 1 < ((Tr.leaves N T).map (·.1)).length
    · rw [dif_pos e] at h3
      have := List.pairwise_iff_getElem.1 hnd i (i + 1) hi' e (by omega)
      rw [e1] at this
      exact this h3
    · rw [dif_neg e] at h3
      omega
/-- what an audit says then -/
theorem mSpoilt {S : Vol} {d m : Pg} {n : Nat} {P : Nat → Part} {x : Int} (h : AuVol S d m n P x) (hbad : x ∈ reach P ∨ ∃ k, k < 6 ∧ ¬ (P k).chained S) {Q : Nat → Prop} {w0 w : World} {b hb : Nat} (L : Lay Q w0 w b hb S) :
    Calls Tryz.prog 10 #[.pointer (some ⟨b, 0, none⟩)] w fun e w' => ∃ er, er ≠ 0 ∧ e = .returned (.int .i64 er) ∧ Lay Q w0 w' b hb S := by
  obtain ⟨mb, pb, hs, -⟩ := L.at'
  refine (auCheck_any h b mb hb pb w hs).mono ?_
  rintro e w' ⟨er, rfl, hb', h0, -⟩
  refine ⟨er, fun e0 => ?_, rfl, L.step hb'⟩
  obtain ⟨q1, q2, -⟩ := h0.1 e0
  rcases hbad with hb2 | ⟨k, hk, hb2⟩
  · exact q1 hb2
  · exact hb2 (q2 k hk)
end Go.Proofs.YtljommhbhpappaaGreat
