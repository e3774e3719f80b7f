/-
  Layer 16 (tree), plain law: a put beside other stores; leaves stay full.
-/
import Derived.Test.YtljommhbhpappaaGreatAu15
import Derived.Test.YtljommhbhpappaaGreatGt11
namespace Go.Proofs.YtljommhbhpappaaGreat
open Go.RowKit Go.Joins
set_option linter.unusedVariables false
set_option linter.unusedSimpArgs false

/-- no leaf is empty -/
def Full (l : List (Int × List NC)) : Prop := ∀ x ∈ l, x.2 ≠ []
def FullK {n : Nat} (K : List (ByteArray × Tr n)) : Prop := ∀ y ∈ K, Full (Tr.leaves n y.2)
theorem full_mk {n : Nat} (id : Int) (K : List (ByteArray × Tr n)) : Full (Tr.leaves (n + 1) (mkNode id K)) ↔ FullK K := by
  constructor
  · exact fun h y hy x hx => h x (List.mem_flatMap.2 ⟨y, hy, hx⟩)
  · intro h x hx
    obtain ⟨y, hy, hx⟩ := List.mem_flatMap.1 hx
    exact h y hy x hx
theorem full_leaf (id : Int) (L : List NC) : Full (Tr.leaves 0 (mkLeaf id L)) ↔ L ≠ [] := by
  constructor
  · exact fun h => h (id, L) (List.mem_cons_self ..)
  · intro h x hx
    obtain rfl : x = (id, L) := by simpa [mkLeaf, Tr.leaves] using hx
    exact h
theorem insC_ne (L : List NC) (c : NC) : insC L c ≠ [] := by
  unfold insC insL
  simp
theorem fullK_ins {n : Nat} {K : List (ByteArray × Tr n)} {sep : ByteArray} {b : Tr n} (h : FullK K) (hb : Full (Tr.leaves n b)) : FullK (insK K sep b) := fun y hy => by
  unfold insK at hy
  rcases List.mem_append.1 hy with e | e
  · exact h y (List.mem_of_mem_take e)
  · rcases List.mem_cons.1 e with rfl | e
    · exact hb
    · exact h y (List.mem_of_mem_drop e)
theorem fullK_noKey {n : Nat} {K : List (ByteArray × Tr n)} (h : FullK K) : FullK (noKey K) := by
  cases K with
  | nil => exact h
  | cons x r =>
    intro y hy
    rcases List.mem_cons.1 hy with rfl | e
    · exact h x (List.mem_cons_self ..)
    · exact h y (List.mem_cons_of_mem _ e)
theorem fullK_take {n : Nat} {K : List (ByteArray × Tr n)} (h : FullK K) (i : Nat) : FullK (K.take i) := fun y hy => h y (List.mem_of_mem_take hy)
theorem fullK_drop {n : Nat} {K : List (ByteArray × Tr n)} (h : FullK K) (i : Nat) : FullK (K.drop i) := fun y hy => h y (List.mem_of_mem_drop hy)
def FullR {n : Nat} : PR n → Prop
  | .bad => True
  | .one t => Full (Tr.leaves n t)
  | .two a _ b => Full (Tr.leaves n a) ∧ Full (Tr.leaves n b)
theorem putLeaf_full (st : Int) (nn : Nat) (kp : List ByteArray) (c : NC) (t : Tr 0) (S : Vol) (m : Pg) : FullR (putLeaf st nn kp c t S m).1 := by
  unfold putLeaf
  by_cases h : (if t.2.length = 6 then cleanL kp t.2 else t.2).length < 6
  · simp only [h, if_true]
    exact (full_leaf _ _).2 (insC_ne _ _)
  · simp only [h, if_false]
    generalize (if t.2.length = 6 then cleanL kp t.2 else t.2) = L0 at *
    cases ht : takeV nn S m with
    | none => trivial
    | some y =>
      obtain ⟨r, S1, m1⟩ := y
      have h3 : L0.take 3 ≠ [] := fun e => by have := congrArg List.length e; simp at this; subst this; simp at h
      have h4 : L0.drop 3 ≠ [] := fun e => by have := congrArg List.length e; rw [List.length_drop] at this; simp at this; omega
      refine ⟨(full_leaf _ _).2 ?_, (full_leaf _ _).2 ?_⟩
      · split
        · exact insC_ne _ _
        · exact h3
      · split
        · exact h4
        · exact insC_ne _ _
theorem putNode_full {n : Nat} (st : Int) (nn : Nat) (id : Int) (K : List (ByteArray × Tr n)) (j : Nat) (k : ByteArray) (hK : FullK K) : ∀ q : PR n × Vol × Pg, FullR q.1 → FullR (putNode st nn id K j k q).1
  | (.bad, S, m), _ => trivial
  | (.one t', S, m), h => by
    refine (full_mk _ _).2 fun y hy => ?_
    rcases List.mem_or_eq_of_mem_set hy with e | e
    · exact hK y e
    · subst e; exact h
  | (.two a sep b, S, m), h => by
    have hK1 : FullK (K.set j (k, a)) := fun y hy => by
      rcases List.mem_or_eq_of_mem_set hy with e | e
      · exact hK y e
      · subst e; exact h.1
    unfold putNode
    by_cases h6 : (K.set j (k, a)).length < 6
    · simp only [h6, if_true]
      exact (full_mk _ _).2 (fullK_ins hK1 h.2)
    · simp only [h6, if_false]
      cases ht : takeV nn S m with
      | none => trivial
      | some y =>
        obtain ⟨r, S1, m1⟩ := y
        refine ⟨(full_mk _ _).2 ?_, (full_mk _ _).2 ?_⟩
        · split
          · exact fullK_ins (fullK_take hK1 3) h.2
          · exact fullK_take hK1 3
        · split
          · exact fullK_noKey (fullK_drop hK1 3)
          · exact fullK_ins (fullK_noKey (fullK_drop hK1 3)) h.2
theorem putV_full {st : Int} {nn : Nat} {kp : List ByteArray} {c : NC} : ∀ (n : Nat) (t : Tr n) (S : Vol) (m : Pg), (n = 0 ∨ Full (Tr.leaves n t)) → FullR (putV st nn kp c n t S m).1
  | 0, t, S, m, _ => putLeaf_full st nn kp c t S m
  | n + 1, (id, K), S, m, h => by
    have hf : FullK K := (full_mk id K).1 (h.resolve_left (by omega))
    show FullR (match K[downL c.key (kidC K)]? with | none => _ | some x => putNode st nn id K (downL c.key (kidC K)) x.1 (putV st nn kp c n x.2 S m)).1
    cases hx : K[downL c.key (kidC K)]? with
    | none => trivial
    | some x =>
      exact putNode_full st nn id K _ _ hf _ (putV_full n x.2 S m (.inr (hf x (List.mem_of_getElem? hx))))
theorem moveT_full {n : Nat} {t : Tr n} {r : Int} (h : Full (Tr.leaves n t)) : Full (Tr.leaves n (moveT n t r)) := by
  rcases moveT_leaves n t r with ⟨-, L, e1, e2⟩ | ⟨e1, -⟩
  · rw [e1] at h
    rw [e2]
    intro x hx
    obtain rfl : x = (r, L) := by simpa using hx
    exact h (Tr.id n t, L) (List.mem_cons_self ..)
  · rw [e1]; exact h
theorem setT_full {c : NC} {n : Nat} {t : Tr n} (h : Full (Tr.leaves n t)) : Full (Tr.leaves n (setT c n t)) := by
  rw [setT_leaves]
  intro x hx
  obtain ⟨y, hy, rfl⟩ := List.mem_map.1 hx
  intro e
  have h1 : (setC c y.2).length = y.2.length := setC_len c y.2
  have h2 : setC c y.2 = [] := e
  rw [h2] at h1
  exact h y hy (List.length_eq_zero_iff.1 h1.symm)

/-- what is set keeps a volume fit -/
theorem inv_fit22 {S S' : Vol} {nn : Nat} (h : ∀ Q : Vol → Prop, (∀ (V : Vol) (id : Int) (p : Pg), Q V → 1 ≤ id → id < (nn : Int) → okPg p = true → Q (V.put id p)) → Q S → Q S') (hf : S.Fit nn) : S'.Fit nn ∧ S'.base = S.base :=
  h (fun V => V.Fit nn ∧ V.base = S.base) (fun V id p hV h1 h2 hp => ⟨hV.1.put id p (by omega) h2 hp, hV.2⟩) ⟨hf, rfl⟩
theorem Fr.refl (S : Vol) (m : Pg) (nn : Nat) (I : List Int) : Fr S m S m nn I I := ⟨fun _ h => h, fun _ h => .inl h, fun _ _ _ => rfl, fun _ h => h, fun _ _ h => .inl h, fun _ _ h => h⟩
theorem Fr.put (S : Vol) (m : Pg) (nn : Nat) (I : List Int) {id : Int} (hid : id ∈ I) (p : Pg) : Fr S m (S.put id p) m nn I I := by
  refine ⟨fun _ h => h, fun _ h => .inl h, fun i hi _ => ?_, fun i h => ?_, fun _ _ h => .inl h, fun _ _ h => h⟩
  · rw [stPg_put, if_neg (fun e => hi (by rw [e]; exact hid))]
  · rw [stE_put]
    split
    · rfl
    · exact h
/-- a put, done or refused -/
theorem gput_step {S S' : Vol} {d m : Pg} {nn : Nat} {kd st : Int} {N : Nat} {T : Tr N} (h : GxOk S d m nn kd st N T) (hf : S.Fit nn) {c : NC} (hc : c.leaf) {kp : List ByteArray} {u : Un} {er : Int} (ho : GPutOut st nn N T c kp S m u er S') :
    S'.Fit nn ∧ S'.base = S.base ∧ (er = 0 → ∃ m' N', ∃ T' : Tr N', GxOk S' d m' nn kd st N' T' ∧ Fr S m S' m' nn (Tr.ids N T) (Tr.ids N' T') ∧ ((N = 0 ∨ Full (Tr.leaves N T)) → (N' = 0 ∨ Full (Tr.leaves N' T')))) := by
  rcases ho with ⟨rfl, rfl, rfl, -⟩ | ⟨x, hx, hxk, hxs, rfl, rfl, rfl⟩ | ⟨hno, hn⟩
  · exact ⟨hf, rfl, fun e => by cases e⟩
  · have hset := gsetT_ok h hc
    have hid : (Tr.leaf c.key N T).1 ∈ Tr.ids N T := by
      obtain ⟨pre, post, h1, -⟩ := gleaf_in h c.key
      exact leaf_ids (x := Tr.leaf c.key N T) (by rw [h1]; simp)
    refine ⟨hf.put _ _ (by have := hset.id2; omega) hset.idn hset.ok, rfl, fun _ => ⟨m, N, _, hset.idx, ?_, fun hh => hh.imp id setT_full⟩⟩
    rw [setT_ids]
    exact Fr.put S m nn _ hid _
  · have hfr : ∀ x ∈ flat (Tr.leaves N T), x.key ≠ c.key := fun x hx e => hno x (gleaf_there h hx e) e
    have hpre := h.pre hc hfr
    have hpo := putV_ok kp N T S m _ _ hpre
    unfold GPutNew at hn
    obtain ⟨res, hres⟩ : ∃ res, putV st nn kp c N T S m = res := ⟨_, rfl⟩
    have hfull : (N = 0 ∨ Full (Tr.leaves N T)) → FullR res.1 := fun hh => by rw [← hres]; exact putV_full N T S m hh
    rw [hres] at hpo hn
    obtain ⟨q, S1, m1⟩ := res
    cases q with
    | bad =>
      obtain ⟨rfl, rfl, rfl⟩ := hn
      obtain ⟨h1, h2⟩ := inv_fit22 hpo.1 hf
      exact ⟨h1, h2, fun e => by cases e⟩
    | one t' =>
      obtain ⟨rfl, rfl, rfl⟩ := hn
      obtain ⟨h1, h2⟩ := inv_fit22 hpo.1.inv hf
      obtain ⟨h3, h4, -⟩ := gx_one h hpo.1 hpo.2.1 hpo.2.2
      exact ⟨h1, h2, fun _ => ⟨m1, N, t', h3, h4, fun hh => .inr (hfull hh)⟩⟩
    | two a sep b =>
      obtain ⟨hp, hid, hoa, hob, hls, -, hs8⟩ := hpo
      obtain ⟨h1, h2⟩ := inv_fit22 hp.inv hf
      simp only at hn
      cases hg : growV st nn (Tr.id N T) a sep b S1 m1 with
      | none =>
        rw [hg] at hn
        obtain ⟨rfl, rfl, rfl⟩ := hn
        exact ⟨h1, h2, fun e => by cases e⟩
      | some y =>
        obtain ⟨T2, S2, m2⟩ := y
        rw [hg] at hn
        obtain ⟨rfl, rfl, rfl⟩ := hn
        obtain ⟨h3, h4, -, h5, h6⟩ := gx_grow h hp hid hoa hob hls hs8 hg
        obtain ⟨h7, h8⟩ := inv_fit22 h6 h1
        refine ⟨h7, h8.trans h2, fun _ => ⟨m2, N + 1, T2, h3, h4, fun hh => .inr ?_⟩⟩
        obtain ⟨fa, fb⟩ := hfull hh
        unfold growV at hg
        cases ht : takeV nn S1 m1 with
        | none => rw [ht] at hg; cases hg
        | some z =>
          obtain ⟨r, Sr, mr⟩ := z
          rw [ht] at hg
          simp only [Option.some.injEq, Prod.mk.injEq] at hg
          obtain ⟨rfl, -, -⟩ := hg
          refine (full_mk _ _).2 fun y hy => ?_
          rcases List.mem_cons.1 hy with rfl | hy
          · exact moveT_full fa
          · obtain rfl : y = (sep, b) := by simpa using hy
            exact fb
end Go.Proofs.YtljommhbhpappaaGreat
