/-
  Layer 14 (space): what is set lands on the shelf below; Take, Give, Used in the form of the laws; what is refused.
-/
import Derived.Test.YtmbeicijljlejaaApply
namespace Go.Proofs.Ytmbeicijljlejaa
open Go.RowKit Go.Joins
set_option linter.unusedVariables false
set_option linter.unusedSimpArgs false

/-- a stage whose pages fit the shelf below -/
structure Vol.Fit (S : Vol) (N : Nat) : Prop where
  once : (S.M.map (·.1)).Nodup
  fit : ∀ x ∈ S.M, 0 ≤ x.1 ∧ x.1 < N ∧ okPg x.2 = true
  len : S.base.length = N
  hi : N ≤ 1024

theorem Vol.Fit.ok {S : Vol} {N : Nat} (h : S.Fit N) : S.Ok := ⟨h.once, fun x hx => ⟨(h.fit x hx).1, by have := (h.fit x hx).2.1; have := h.hi; omega⟩⟩
theorem fit_updM {N : Nat} {k : Int} {p : Pg} {M : List (Int × Pg)} (hk : 0 ≤ k ∧ k < N ∧ okPg p = true) (h : ∀ x ∈ M, 0 ≤ x.1 ∧ x.1 < N ∧ okPg x.2 = true) : ∀ x ∈ updM k p M, 0 ≤ x.1 ∧ x.1 < N ∧ okPg x.2 = true := by
  induction M with
  | nil => intro x hx; simp [updM] at hx; subst hx; exact hk
  | cons y r ih =>
    unfold updM
    split
    · intro x hx
      rcases List.mem_cons.1 hx with rfl | hx
      · exact hk
      · exact h x (List.mem_cons_of_mem _ hx)
    · intro x hx
      rcases List.mem_cons.1 hx with rfl | hx
      · exact h _ (List.mem_cons_self ..)
      · exact ih (fun z hz => h z (List.mem_cons_of_mem _ hz)) x hx
theorem Vol.Fit.put {S : Vol} {N : Nat} (h : S.Fit N) (id : Int) (p : Pg) (h0 : 0 ≤ id) (h1 : id < N) (hp : okPg p = true) : (S.put id p).Fit N :=
  ⟨once_updM h.once, fit_updM ⟨h0, h1, hp⟩ h.fit, h.len, h.hi⟩
theorem Vol.Fit.nil (l : List Pg) (h : l.length ≤ 1024) : Vol.Fit ⟨l, []⟩ l.length := ⟨by simp, by simp, rfl, h⟩
theorem getM_of_mem {S : Vol} (h : (S.M.map (·.1)).Nodup) {x : Int × Pg} (hx : x ∈ S.M) : getM S x.1 = some x.2 := by
  obtain ⟨base, M⟩ := S
  simp only [getM] at *
  induction M with
  | nil => cases hx
  | cons y r ih =>
    simp only [List.find?_cons]
    have hn := List.nodup_cons.1 h
    by_cases hy : (y.1 == x.1) = true
    · rw [hy]
      rcases List.mem_cons.1 hx with e | e
      · subst e; rfl
      · exfalso
        have : y.1 = x.1 := by simpa using hy
        exact hn.1 (List.mem_map.2 ⟨x, e, this.symm⟩)
    · simp only [Bool.not_eq_true] at hy
      rw [hy]
      rcases List.mem_cons.1 hx with e | e
      · subst e; simp at hy
      · exact ih hn.2 e
theorem imgs_fit {S : Vol} {N : Nat} (h : S.Fit N) : Fits S.base (imgs S S.keys) := by
  intro x hx
  unfold imgs at hx
  obtain ⟨id, hid, rfl⟩ := List.mem_map.1 hx
  have hk := (Vol.mem_keys S id).1 (List.mem_filter.1 hid).1
  obtain ⟨y, hy, rfl⟩ := List.mem_map.1 hk
  have hf := h.fit y hy
  have hg := getM_of_mem h.once hy
  have e : stPg S y.1 = y.2 := by unfold stPg; rw [hg]
  simp only [e]
  rw [h.len]
  exact hf

theorem appl_get (l : List Pg) (I : List (Int × Pg)) (f : Int → Pg) (hI : ∀ x ∈ I, 0 ≤ x.1 ∧ x.2 = f x.1) (i : Nat) (hi : i < l.length) : (appl l I).getD i Pg.zero = if (i : Int) ∈ I.map (·.1) then f i else l.getD i Pg.zero := by
  induction I generalizing l with
  | nil => simp [appl]
  | cons x r ih =>
    have e : appl l (x :: r) = appl (l.set x.1.toNat x.2) r := rfl
    have hx := hI x (List.mem_cons_self ..)
    rw [e, ih _ (fun y hy => hI y (List.mem_cons_of_mem _ hy)) (by simpa using hi)]
    simp only [List.map_cons, List.mem_cons]
    by_cases h1 : (i : Int) ∈ r.map (·.1)
    · rw [if_pos h1, if_pos (Or.inr h1)]
    · rw [if_neg h1]
      by_cases h2 : (i : Int) = x.1
      · rw [if_pos (Or.inl h2)]
        have h3 : x.1.toNat = i := by omega
        rw [h3, hx.2, ← h2]
        simp [List.getD, hi]
      · rw [if_neg (by simp [h1, h2])]
        have h3 : ¬ x.1.toNat = i := by have := hx.1; omega
        simp [List.getD, List.getElem?_set, h3]

/-- the stage behind its landing -/
def Vol.landed (S : Vol) : Vol := ⟨appl S.base (imgs S S.keys), []⟩
theorem landed_pg {S : Vol} {N : Nat} (h : S.Fit N) (i : Nat) (hi : i < N) : stPg S.landed i = stPg S i := by
  have e1 : stPg S.landed i = (appl S.base (imgs S S.keys)).getD i Pg.zero := by
    show shelfPg (appl S.base (imgs S S.keys)) i = _
    unfold shelfPg
    rw [if_pos (by omega), Int.toNat_natCast]
  rw [e1, appl_get S.base (imgs S S.keys) (fun k => stPg S k) (fun x hx => ⟨(imgs_fit h x hx).1, by
    unfold imgs at hx
    obtain ⟨id, hid, rfl⟩ := List.mem_map.1 hx
    rfl⟩) i (by rw [h.len]; exact hi)]
  split
  · rfl
  · rename_i hn
    have e2 : S.base.getD i Pg.zero = shelfPg S.base i := by
      unfold shelfPg
      rw [if_pos (by omega), Int.toNat_natCast]
    rw [e2]
    cases hg : getM S i with
    | none => unfold stPg; rw [hg]
    | some p =>
      have hm : (i : Int) ∈ S.keys := by
        rw [Vol.mem_keys]
        unfold getM at hg
        cases hf : S.M.find? (fun x => x.1 == (i : Int)) with
        | none => rw [hf] at hg; cases hg
        | some x =>
          have h1 := List.mem_of_find?_eq_some hf
          have h2 := List.find?_some hf
          exact List.mem_map.2 ⟨x, h1, by simpa using h2⟩
      by_cases he : pgEq (shelfPg S.base i) (stPg S i) = true
      · exact (pgEq_iff _ _).1 he
      · exfalso
        refine hn (List.mem_map.2 ⟨((i : Int), stPg S i), ?_, rfl⟩)
        unfold imgs
        exact List.mem_map.2 ⟨(i : Int), List.mem_filter.2 ⟨hm, by simp [he]⟩, rfl⟩
theorem landed_fit {S : Vol} {N : Nat} (h : S.Fit N) : S.landed.Fit N :=
  ⟨by simp [Vol.landed], by simp [Vol.landed], by simp [Vol.landed, appl_length, h.len], h.hi⟩
theorem dropped_fit {S : Vol} {N : Nat} (h : S.Fit N) : Vol.Fit ⟨S.base, []⟩ N := ⟨by simp, by simp, h.len, h.hi⟩
theorem stE_nil {l : List Pg} {i N : Nat} (h : l.length = N) (hi : i < N) : stE ⟨l, []⟩ i = 0 := by
  show shelfE l i = 0
  exact if_pos ⟨by omega, by omega⟩
theorem VolOk.landed {S : Vol} {d m : Pg} {n N : Nat} (h : VolOk S d m n) (hf : S.Fit N) (hn : n ≤ N) : VolOk S.landed d m n := by
  have h2 := h.two
  have p0 := landed_pg hf 0 (by omega)
  have p1 := landed_pg hf 1 (by omega)
  have hl : (appl S.base (imgs S S.keys)).length = N := by rw [appl_length, hf.len]
  exact ⟨⟨stE_nil hl (i := 0) (by omega), p0.trans h.dir.p, h.dir.k⟩, h.dok, ⟨stE_nil hl (i := 1) (by omega), p1.trans h.map.p, h.map.k, h.map.cnt, h.map.lo, h.map.hi, h.map.sz, h.map.ok⟩, fun i hi => stE_nil hl (by omega), h.two, h.z0, h.z1⟩

theorem made_fit {S : Vol} {d m : Pg} {n N : Nat} (h : VolOk S d m n) (hf : S.Fit N) (hn : n ≤ N) (k id : Nat) (kind : Int) (hk : k < 6) (h2 : 2 ≤ id) (hid : id < n) : (S.made d m k id kind).Fit N := by
  have hn4 := h.map.hi
  have hok := ok_setC h.dok k hk 1 (entryD kind id) (okC_full (.inl rfl) (by rw [entry_size]; omega) (by rw [entry_size]; omega))
  refine ((hf.put 1 _ (by omega) (by omega) (mark_ok m id true (by omega) h.map.sz h.map.ok)).put id _ (by omega) (by omega) ?_).put 0 _ (by omega) (by omega) hok
  split
  · exact ok_root 3 k (by omega) (by omega) (by omega) (by omega)
  · exact ok_root 4 k (by omega) (by omega) (by omega) (by omega)
theorem frees_fit {S : Vol} {m : Pg} {n N : Nat} {l : List Nat} (st : Int) (h : Half S m n l) (hf : S.Fit N) (hN : 2 ≤ N) : (frees st l S m).1.Fit N := by
  induction l generalizing S m with
  | nil => exact hf
  | cons id r ih =>
    have hid := h.had id (List.mem_cons_self ..)
    have hn := h.map.hi
    unfold frees
    split
    · exact ih h.give (hf.put 1 _ (by omega) (by omega) (mark_ok m id false (by omega) h.map.sz h.map.ok))
    · exact ih h.skip hf
theorem forgot_fit {S : Vol} {d m : Pg} {n N : Nat} (h : VolOk S d m n) (hf : S.Fit N) (hn : n ≤ N) (k : Nat) (hk : k < 6) : (S.forgot d m n k).Fit N := by
  have h2 := h.two
  exact (frees_fit _ h.half hf (by omega)).put 0 _ (by omega) (by omega) (h.forget k hk).1
theorem formed_fit {S : Vol} {N n : Nat} (hf : S.Fit N) (h4 : 4 ≤ n) (hn : n ≤ N) : (S.formed n).Fit N := by
  have hh := hf.hi
  have z1 : ∀ i, i < 6 → ((markPg (mapPg ((n : Int) - 1)) 0 true).d i).size = 34 := fun j hj => mark_sz _ _ _ (by omega) (mapPg_sz _) j hj
  exact (hf.put 0 _ (by omega) (by omega) okDir).put 1 _ (by omega) (by omega) (mark_ok _ _ _ (by omega) z1 (mark_ok _ _ _ (by omega) (mapPg_sz _) (mapPg_ok _ (by omega) (by omega))))

/-- a page marked -/
theorem VolOk.mark {S : Vol} {d m : Pg} {n : Nat} (h : VolOk S d m n) (id : Nat) (y : Bool) (h2 : 2 ≤ id) (hid : id < n) : VolOk (S.put 1 (markPg m id y)) d (markPg m id y) n := by
  have hn := h.map.hi
  refine ⟨⟨by rw [stE_put, if_neg (by omega)]; exact h.dir.e, by rw [stPg_put, if_neg (by omega)]; exact h.dir.p, h.dir.k⟩, h.dok, h.map.mark id y (by omega), fun i hi => ?_, h.two, ?_, ?_⟩
  · rw [stE_put]
    split
    · rfl
    · exact h.there i hi
  · rw [bitAt_lt h _ _ _ (by have := h.two; omega) hid, if_neg (by omega)]; exact h.z0
  · rw [bitAt_lt h _ _ _ (by have := h.two; omega) hid, if_neg (by omega)]; exact h.z1
theorem mark_fit {S : Vol} {d m : Pg} {n N : Nat} (h : VolOk S d m n) (hf : S.Fit N) (hn : n ≤ N) (id : Nat) (y : Bool) (hid : id < n) : (S.put 1 (markPg m id y)).Fit N := by
  have := h.map.hi
  have := h.two
  exact hf.put 1 _ (by omega) (by omega) (mark_ok m id y (by omega) h.map.sz h.map.ok)

section
variable {P : Nat → Prop} {w0 w : World} {b hb : Nat} {S : Vol} {d m : Pg} {n : Nat}
theorem take_lay (L : Lay P w0 w b hb S) (h : VolOk S d m n) (id : Nat) (hid : id < n) (hf : bitAt m id = false) (hbelow : ∀ j, j < id → bitAt m j = true) :
    Calls Try.prog 15 #[.pointer (some ⟨b, 0, none⟩)] w fun e w' => e = .returned (.tuple #[.int .i64 id, .int .i64 0]) ∧ Lay P w0 w' b hb (S.put 1 (markPg m id true)) := by
  obtain ⟨mb, pb, hs, h4⟩ := L.at'
  exact (take_some S b mb hb pb m n w hs h.map id hid hf hbelow).mono fun e w' ⟨he, hg, hs'⟩ => ⟨he, Lay.write L.keep L.dom h4 hg hs'⟩
theorem takeNone_lay (L : Lay P w0 w b hb S) (h : VolOk S d m n) (hbelow : ∀ j, j < n → bitAt m j = true) :
    Calls Try.prog 15 #[.pointer (some ⟨b, 0, none⟩)] w fun e w' => e = .returned (.tuple #[.int .i64 0, .int .i64 140]) ∧ Lay P w0 w' b hb S := by
  obtain ⟨mb, pb, hs, h4⟩ := L.at'
  exact (take_none S b mb hb pb m n w hs h.map hbelow).mono fun e w' ⟨he, hbl⟩ => ⟨he, L.step hbl⟩
theorem give_lay (L : Lay P w0 w b hb S) (h : VolOk S d m n) (id : Nat) (h2 : 2 ≤ id) (hid : id < n) (hf : bitAt m id = true) :
    Calls Try.prog 18 #[.pointer (some ⟨b, 0, none⟩), .int .i64 id] w fun e w' => e = .returned (.int .i64 0) ∧ Lay P w0 w' b hb (S.put 1 (markPg m id false)) := by
  obtain ⟨mb, pb, hs, h4⟩ := L.at'
  exact (give_ok S b mb hb pb m n w hs h.map id h2 hid hf).mono fun e w' ⟨he, hg, hs'⟩ => ⟨he, Lay.write L.keep L.dom h4 hg hs'⟩
theorem giveBad_lay (L : Lay P w0 w b hb S) (h : VolOk S d m n) (id : Int) (hbad : id < 2 ∨ (n : Int) ≤ id ∨ bitAt m id.toNat = false) :
    Calls Try.prog 18 #[.pointer (some ⟨b, 0, none⟩), .int .i64 id] w fun e w' => e = .returned (.int .i64 1) ∧ Lay P w0 w' b hb S := by
  obtain ⟨mb, pb, hs, h4⟩ := L.at'
  exact (give_bad S b mb hb pb m n w hs h.map id hbad).mono fun e w' ⟨he, hbl⟩ => ⟨he, L.step hbl⟩
theorem used_lay (L : Lay P w0 w b hb S) (h : VolOk S d m n) :
    Calls Try.prog 19 #[.pointer (some ⟨b, 0, none⟩)] w fun e w' => ∃ v, e = .returned (.tuple #[v, .int .i64 n, .int .i64 0]) ∧ Lay P w0 w' b hb S ∧ Below w.heap.size w w' ∧ w'.ownsRow w.heap.size 3 1 v (usedTo m n).length (idVals (usedTo m n)) := by
  obtain ⟨mb, pb, hs, h4⟩ := L.at'
  exact (used_any S b mb hb pb m n w hs h.map).mono fun e w' ⟨v, he, hbl, ho⟩ => ⟨v, he, L.step hbl, hbl, ho⟩
theorem images_lay {N : Nat} (L : Lay P w0 w b hb S) (hf : S.Fit N) :
    Calls Try.prog 31 #[.pointer (some ⟨b, 0, none⟩)] w fun e w' => ∃ v, e = .returned (.tuple #[v, .int .i64 0]) ∧ Lay P w0 w' b hb S ∧ Below w.heap.size w w' ∧ w'.ownsRow w.heap.size 93 17 v (imgs S S.keys).length (imgRow (imgs S S.keys)) := by
  obtain ⟨mb, pb, hs, h4⟩ := L.at'
  refine (images_ok S b mb hb pb w hs hf.ok (fun x hx => ?_)).mono fun e w' ⟨v, he, hbl, ho⟩ => ⟨v, he, L.step hbl, hbl, ho⟩
  have hx' := hf.fit x hx
  exact if_pos ⟨hx'.1, by rw [hf.len]; exact hx'.2.1⟩
theorem apply_lay {N : Nat} (L : Lay P w0 w b hb S) (hf : S.Fit N) (v : Value) (B' : Nat) (hv : w.ownsRow B' 93 17 v (imgs S S.keys).length (imgRow (imgs S S.keys))) :
    Calls Try.prog 32 #[.pointer (some ⟨hb, 0, none⟩), v] w fun e w' => e = .returned (.int .i64 0) ∧ Lay P w0 w' b hb ⟨appl S.base (imgs S S.keys), S.M⟩ := by
  obtain ⟨mb, pb, hs, h4⟩ := L.at'
  have hl : (imgs S S.keys).length ≤ 2000 := by
    have h1 := imgs_len S S.keys
    have h2 := Vol.keys_len S
    have h3 := hf.ok.len
    omega
  refine (apply_ok hb pb S.base (imgs S S.keys) v B' w hs.2.2.1 (imgs_fit hf) hv hl).mono fun e w' ⟨he, hg, hs'⟩ => ⟨he, ?_⟩
  obtain ⟨q1, q2, q3, q4⟩ := hs.lt
  refine ⟨L.keep.trans ⟨hg.os, hg.tape, hg.output, hg.size, fun k hk => hg.block k (Nat.lt_of_lt_of_le (L.dom k hk) L.keep.size) (fun e => h4.2.2.2 (by cases e; exact hk))⟩, L.dom, mb, pb, ⟨?_, ?_, hs', hs.2.2.2⟩, h4⟩
  · exact (hg.block b q1 (by have := hs.2.2.2.2.2.2.2; simpa using this)).trans hs.1
  · obtain ⟨es, c, h1, h2⟩ := hs.2.1
    exact ⟨es, c, (hg.block mb q2 (by have := hs.2.2.2.2.2.1; simpa using this)).trans h1, h2⟩
end
end Go.Proofs.Ytmbeicijljlejaa
