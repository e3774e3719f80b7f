/-
  Layer 9 (locks), plain: Ask and Release keep what holds of every queue; of the whole table.
-/
import Derived.Test.YtileamjmhhifaaaLp1
namespace Go.Proofs.Ytileamjmhhifaaa
set_option linter.unusedVariables false
set_option linter.unusedSimpArgs false

theorem ask_okQ {Q : Qu} {x m t : Int} (h : Ok Q) (hx : ¬ waitsIn x Q) (hm : IsM m) : Ok (askQ Q x m t).1 ∧ ∀ k, waitsIn k (askQ Q x m t).1 ↔ waitsIn k Q ∨ ((askQ Q x m t).2.1 = false ∧ k = x) := by
  have hp := h.pre
  rcases atL_cases x Q.H with ⟨he, hno⟩ | ⟨i, hi, he, hxi, -⟩
  · rw [askQ_new he]
    have hW : ∀ y ∈ Q.W, y.x ≠ x := fun y hy e => hx (.inr ⟨y, hy, e⟩)
    by_cases hg : (Q.W.isEmpty && !wantL Q.H && freeL x m Q.H) = true
    · rw [if_pos hg]
      simp only [Bool.and_eq_true, Bool.not_eq_true', List.isEmpty_iff] at hg
      obtain ⟨⟨hw0, hnw⟩, hf⟩ := hg
      have hfr := free_iff.1 hf
      have hnw' := want_false.1 hnw
      have hmem : ∀ g, g ∈ Q.H ++ [(⟨x, m, 0, 0⟩ : Hd)] ↔ g ∈ Q.H ∨ g = ⟨x, m, 0, 0⟩ := fun g => by rw [List.mem_append, List.mem_singleton]
      have hz : ∀ g ∈ Q.H ++ [(⟨x, m, 0, 0⟩ : Hd)], g.w = 0 := fun g hg => by
        rcases (hmem g).1 hg with h1 | rfl
        · exact hnw' g h1
        · rfl
      refine ⟨⟨⟨?_, fun g hg => ?_, hp.wish, fun a ha b hb hab => ?_⟩, fun g hg hgw => absurd (hz g hg) hgw, fun y r hy => ?_⟩, fun k => ⟨?_, ?_⟩⟩
      · show ((Q.H ++ [(⟨x, m, 0, 0⟩ : Hd)]).map (·.x) ++ Q.W.map (·.x)).Nodup
        rw [hw0, List.map_nil, List.append_nil, List.map_append, List.map_singleton]
        refine List.nodup_append.2 ⟨hp.hnd, by simp, fun a ha b hb => ?_⟩
        obtain ⟨g, hg, rfl⟩ := List.mem_map.1 ha
        rw [List.mem_singleton.1 hb]
        exact hno g hg
      · rcases (hmem g).1 hg with h1 | rfl
        · exact hp.mode g h1
        · exact ⟨hm, fun h => absurd rfl h⟩
      · rcases (hmem a).1 ha with h1 | rfl
        · rcases (hmem b).1 hb with h2 | rfl
          · exact hp.tog a h1 b h2 hab
          · show compatL a.m m = true
            rw [compat_symm (hp.mode a h1).1 hm]
            exact (hfr a h1).resolve_left hab
        · rcases (hmem b).1 hb with h2 | rfl
          · exact (hfr b h2).resolve_left fun e => hab e.symm
          · exact absurd rfl hab
      · rw [show (⟨Q.H ++ [⟨x, m, 0, 0⟩], Q.W⟩ : Qu).W = Q.W from rfl, hw0] at hy; cases hy
      · rintro (⟨g, hg, rfl, hgw⟩ | ⟨y, hy, rfl⟩)
        · exact absurd (hz g hg) hgw
        · exact .inl (.inr ⟨y, hy, rfl⟩)
      · rintro ((⟨g, hg, rfl, hgw⟩ | ⟨y, hy, rfl⟩) | ⟨h1, -⟩)
        · exact absurd (hnw' g hg) hgw
        · exact .inr ⟨y, hy, rfl⟩
        · cases h1
    · rw [if_neg hg]
      have hmem : ∀ y, y ∈ Q.W ++ [(⟨x, m⟩ : Ws)] ↔ y ∈ Q.W ∨ y = ⟨x, m⟩ := fun g => by rw [List.mem_append, List.mem_singleton]
      refine ⟨⟨⟨?_, hp.mode, fun y hy => ?_, hp.tog⟩, h.stuckH, fun y r hy => ?_⟩, fun k => ⟨?_, ?_⟩⟩
      · show (Q.H.map (·.x) ++ (Q.W ++ [(⟨x, m⟩ : Ws)]).map (·.x)).Nodup
        rw [List.map_append, List.map_singleton, ← List.append_assoc]
        refine List.nodup_append.2 ⟨hp.ids, by simp, fun a ha b hb => ?_⟩
        rw [List.mem_singleton.1 hb]
        rcases List.mem_append.1 ha with ha | ha
        · obtain ⟨g, hg, rfl⟩ := List.mem_map.1 ha
          exact hno g hg
        · obtain ⟨y, hy, rfl⟩ := List.mem_map.1 ha
          exact hW y hy
      · rcases (hmem y).1 hy with h1 | rfl
        · exact hp.wish y h1
        · exact hm
      · replace hy : Q.W ++ [(⟨x, m⟩ : Ws)] = y :: r := hy
        show wantL Q.H = true ∨ freeL y.x y.m Q.H = false
        cases hQ : Q.W with
        | nil =>
          rw [hQ] at hy hg
          simp only [List.nil_append, List.cons.injEq] at hy
          obtain ⟨rfl, -⟩ := hy
          cases hw : wantL Q.H with
          | true => exact .inl rfl
          | false =>
            right
            cases hf : freeL x m Q.H with
            | false => rfl
            | true => rw [hw, hf] at hg; exact absurd rfl hg
        | cons z s =>
          rw [hQ] at hy
          simp only [List.cons_append, List.cons.injEq] at hy
          obtain ⟨rfl, -⟩ := hy
          exact h.stuckW z s hQ
      · rintro (⟨g, hg, rfl, hgw⟩ | ⟨y, hy, rfl⟩)
        · exact .inl (.inl ⟨g, hg, rfl, hgw⟩)
        · rcases (hmem y).1 hy with h1 | rfl
          · exact .inl (.inr ⟨y, h1, rfl⟩)
          · exact .inr ⟨rfl, rfl⟩
      · rintro ((⟨g, hg, rfl, hgw⟩ | ⟨y, hy, rfl⟩) | ⟨-, rfl⟩)
        · exact .inl ⟨g, hg, rfl, hgw⟩
        · exact .inr ⟨y, (hmem y).2 (.inl hy), rfl⟩
        · exact .inr ⟨_, (hmem _).2 (.inr rfl), rfl⟩
  · rw [askQ_at he hi]
    have hme := List.getElem_mem hi
    have ha := (hp.mode _ hme).1
    have hw0 : Q.H[i].w = 0 := Classical.byContradiction fun hc => hx (.inl ⟨_, hme, hxi, hc⟩)
    by_cases hj : joinL Q.H[i].m m = Q.H[i].m
    · rw [if_pos hj]
      exact ⟨h, fun k => ⟨.inl, fun h => h.elim id fun h => (by cases h.1)⟩⟩
    rw [if_neg hj]
    have hjm := join_isM ha hm
    by_cases hf : freeL x (joinL Q.H[i].m m) Q.H = true
    · rw [if_pos hf]
      have hfr := free_iff.1 hf
      obtain ⟨j, hje⟩ : ∃ j, joinL Q.H[i].m m = j := ⟨_, rfl⟩
      have hcj : ∀ w, IsM w → compatL w Q.H[i].m = false → compatL w j = false := fun w hw hc => by
        cases hq : compatL w j with
        | false => rfl
        | true =>
          rw [← hje] at hq
          rw [compat_join hw ha hm hq] at hc; cases hc
      rw [hje] at hfr hjm ⊢
      have hfar : ∀ {y : Int} {w : Int}, IsM w → y ≠ x → freeL y w Q.H = false → freeL y w (Q.H.set i ⟨Q.H[i].x, j, Q.H[i].w, Q.H[i].t⟩) = false := fun {y w} hw hy hff => by
        obtain ⟨b, hb, hby, hbc⟩ := free_false.1 hff
        obtain ⟨ib, hib, rfl⟩ := List.mem_iff_getElem.1 hb
        by_cases e : ib = i
        · subst e
          exact free_false.2 ⟨_, set_at hi _, hby, hcj w hw hbc⟩
        · exact free_false.2 ⟨_, set_far hib e _, hby, hbc⟩
      have hwl : wantL Q.H = true → wantL (Q.H.set i ⟨Q.H[i].x, j, Q.H[i].w, Q.H[i].t⟩) = true := fun hw => by
        obtain ⟨g, hg, hgw⟩ := want_iff.1 hw
        obtain ⟨ig, hig, rfl⟩ := List.mem_iff_getElem.1 hg
        exact want_iff.2 ⟨_, set_far hig (fun e => hgw (by subst e; exact hw0)) _, hgw⟩
      refine ⟨⟨⟨?_, fun g hg => ?_, hp.wish, fun a ha2 b hb hab => ?_⟩, fun g hg hgw => ?_, fun y r hy => ?_⟩, fun k => ⟨?_, ?_⟩⟩
      · show (((Q.H.set i _).map (·.x)) ++ Q.W.map (·.x)).Nodup
        rw [ids_set hi (y := ⟨Q.H[i].x, j, Q.H[i].w, Q.H[i].t⟩) rfl]; exact hp.ids
      · rcases mem_set hi hg with rfl | ⟨i', hi', -, rfl⟩
        · exact ⟨hjm, fun h => absurd hw0 h⟩
        · exact hp.mode _ (List.getElem_mem hi')
      · rcases mem_set hi ha2 with rfl | ⟨i1, hi1, hik, rfl⟩
        · rcases mem_set hi hb with rfl | ⟨i', hi', hik', rfl⟩
          · exact absurd rfl hab
          · exact (hfr _ (List.getElem_mem hi')).resolve_left fun e => hab (by rw [e, ← hxi])
        · rcases mem_set hi hb with rfl | ⟨i', hi', hik', rfl⟩
          · show compatL Q.H[i1].m j = true
            rw [compat_symm (hp.mode _ (List.getElem_mem hi1)).1 hjm]
            exact (hfr _ (List.getElem_mem hi1)).resolve_left fun e => hab (by rw [e, ← hxi])
          · exact hp.tog _ (List.getElem_mem hi1) _ (List.getElem_mem hi') hab
      · rcases mem_set hi hg with rfl | ⟨i', hi', hik, rfl⟩
        · exact absurd hw0 hgw
        · have hm2 := List.getElem_mem hi'
          exact hfar ((hp.mode _ hm2).2 hgw) (fun e => ids_ne hp.hnd hi' hi hik (by rw [e, hxi])) (h.stuckH _ hm2 hgw)
      · have hyW : y ∈ Q.W := by
          have : Q.W = y :: r := hy
          rw [this]; exact List.mem_cons_self ..
        rcases h.stuckW y r hy with h1 | h1
        · exact .inl (hwl h1)
        · exact .inr (hfar (hp.wish y hyW) (fun e => hx (.inr ⟨y, hyW, e⟩)) h1)
      · rintro (⟨g, hg, rfl, hgw⟩ | ⟨y, hy, rfl⟩)
        · rcases mem_set hi hg with rfl | ⟨i', hi', hik, rfl⟩
          · exact absurd hw0 hgw
          · exact .inl (.inl ⟨_, List.getElem_mem hi', rfl, hgw⟩)
        · exact .inl (.inr ⟨y, hy, rfl⟩)
      · rintro ((⟨g, hg, rfl, hgw⟩ | ⟨y, hy, rfl⟩) | h1)
        · obtain ⟨ig, hig, rfl⟩ := List.mem_iff_getElem.1 hg
          exact .inl ⟨_, set_far hig (fun e => hgw (by subst e; exact hw0)) _, rfl, hgw⟩
        · exact .inr ⟨y, hy, rfl⟩
        · cases h1.1
    · rw [if_neg hf]
      have hf' : freeL x (joinL Q.H[i].m m) Q.H = false := by simpa using hf
      obtain ⟨j, hje⟩ : ∃ j, joinL Q.H[i].m m = j := ⟨_, rfl⟩
      rw [hje] at hf' hjm ⊢
      have hj0 : j ≠ 0 := by obtain ⟨h1, h2⟩ := hjm; omega
      have hfar : ∀ {y : Int} {w : Int}, freeL y w Q.H = false → freeL y w (Q.H.set i ⟨Q.H[i].x, Q.H[i].m, j, t + 1⟩) = false := fun {y w} hff => by
        obtain ⟨b, hb, hby, hbc⟩ := free_false.1 hff
        obtain ⟨ib, hib, rfl⟩ := List.mem_iff_getElem.1 hb
        by_cases e : ib = i
        · subst e
          exact free_false.2 ⟨_, set_at hi _, hby, hbc⟩
        · exact free_false.2 ⟨_, set_far hib e _, hby, hbc⟩
      have hmm : ∀ g ∈ Q.H.set i ⟨Q.H[i].x, Q.H[i].m, j, t + 1⟩, ∃ b ∈ Q.H, b.x = g.x ∧ b.m = g.m := fun g hg => by
        rcases mem_set hi hg with rfl | ⟨i', hi', -, rfl⟩
        · exact ⟨_, hme, rfl, rfl⟩
        · exact ⟨_, List.getElem_mem hi', rfl, rfl⟩
      refine ⟨⟨⟨?_, fun g hg => ?_, hp.wish, fun a ha2 b hb hab => ?_⟩, fun g hg hgw => ?_, fun y r hy => .inl (want_iff.2 ⟨_, set_at hi _, hj0⟩)⟩, fun k => ⟨?_, ?_⟩⟩
      · show (((Q.H.set i _).map (·.x)) ++ Q.W.map (·.x)).Nodup
        rw [ids_set hi (y := ⟨Q.H[i].x, Q.H[i].m, j, t + 1⟩) rfl]; exact hp.ids
      · rcases mem_set hi hg with rfl | ⟨i', hi', -, rfl⟩
        · exact ⟨ha, fun _ => hjm⟩
        · exact hp.mode _ (List.getElem_mem hi')
      · obtain ⟨a', ha', e1, e2⟩ := hmm a ha2
        obtain ⟨b', hb', e3, e4⟩ := hmm b hb
        rw [← e2, ← e4]
        exact hp.tog a' ha' b' hb' (by rw [e1, e3]; exact hab)
      · rcases mem_set hi hg with rfl | ⟨i', hi', hik, rfl⟩
        · have h9 := hfar hf'
          rw [← hxi] at h9 
          exact h9
        · exact hfar (h.stuckH _ (List.getElem_mem hi') hgw)
      · rintro (⟨g, hg, rfl, hgw⟩ | ⟨y, hy, rfl⟩)
        · rcases mem_set hi hg with rfl | ⟨i', hi', hik, rfl⟩
          · exact .inr ⟨rfl, hxi⟩
          · exact .inl (.inl ⟨_, List.getElem_mem hi', rfl, hgw⟩)
        · exact .inl (.inr ⟨y, hy, rfl⟩)
      · rintro ((⟨g, hg, rfl, hgw⟩ | ⟨y, hy, rfl⟩) | h1)
        · obtain ⟨ig, hig, rfl⟩ := List.mem_iff_getElem.1 hg
          exact .inl ⟨_, set_far hig (fun e => hgw (by subst e; exact hw0)) _, rfl, hgw⟩
        · exact .inr ⟨y, hy, rfl⟩
        · exact .inl ⟨_, set_at hi _, by rw [h1.2]; exact hxi, hj0⟩

/-- of the whole table -/
structure OkS (S : LS) : Prop where
  ok : ∀ n, Ok (S.q n)
  wait : ∀ k, S.wt k = true ↔ ∃ n, waitsIn k (S.q n)
  once : ∀ k n n', waitsIn k (S.q n) → waitsIn k (S.q n') → n = n'
theorem OkS.empty : OkS LS.empty := ⟨fun _ => Ok.empty, fun k => ⟨fun h => (by cases h), fun ⟨n, h⟩ => (by rcases h with ⟨g, hg, -⟩ | ⟨y, hy, -⟩; cases hg; cases hy)⟩, fun k n n' h => (by rcases h with ⟨g, hg, -⟩ | ⟨y, hy, -⟩; cases hg; cases hy)⟩
theorem OkS.ask {S : LS} (h : OkS S) {x : Int} (n : Nm) {m : Int} (hx : S.wt x = false) (hm : IsM m) : OkS (askS S x n m) := by
  have hno : ∀ k, ¬ waitsIn x (S.q k) := fun k hk => by
    have := (h.wait x).2 ⟨k, hk⟩
    rw [hx] at this; cases this
  obtain ⟨h1, h2⟩ := ask_okQ (t := S.turn) (h.ok n) (hno n) hm
  have hw : ∀ j k, waitsIn k ((askS S x n m).q j) ↔ waitsIn k (S.q j) ∨ (j = n ∧ (askQ (S.q n) x m S.turn).2.1 = false ∧ k = x) := fun j k => by
    by_cases e : j = n
    · subst e
      simp only [askS, if_true]
      rw [h2 k]; simp
    · simp only [askS, if_neg e]
      constructor
      · exact .inl
      · rintro (h | h)
        · exact h
        · exact absurd h.1 e
  refine ⟨fun j => ?_, fun k => ?_, fun k j j' hj hj' => ?_⟩
  · by_cases e : j = n
    · simp only [askS, if_pos e]; exact h1
    · simp only [askS, if_neg e]; exact h.ok j
  · have hwt : (askS S x n m).wt k = true ↔ S.wt k = true ∨ ((askQ (S.q n) x m S.turn).2.1 = false ∧ k = x) := by simp [askS]
    rw [hwt, h.wait k]
    constructor
    · rintro (⟨j, hj⟩ | h3)
      · exact ⟨j, (hw j k).2 (.inl hj)⟩
      · exact ⟨n, (hw n k).2 (.inr ⟨rfl, h3⟩)⟩
    · rintro ⟨j, hj⟩
      rcases (hw j k).1 hj with h3 | ⟨-, h3⟩
      · exact .inl ⟨j, h3⟩
      · exact .inr h3
  · rcases (hw j k).1 hj with h3 | ⟨rfl, -, h3⟩
    · rcases (hw j' k).1 hj' with h4 | ⟨rfl, -, h4⟩
      · exact h.once k j j' h3 h4
      · rw [h4] at h3; exact absurd h3 (hno j)
    · rcases (hw j' k).1 hj' with h4 | ⟨rfl, -, h4⟩
      · rw [h3] at h4; exact absurd h4 (hno j')
      · rfl
theorem OkS.rel {S S' : LS} (h : OkS S) {x : Int} (hr : RelS x S S') : OkS S' := by
  obtain ⟨-, ys, h1, h2, h3⟩ := hr
  have key : ∀ n, ∃ xs, RelQ x (S.q n) xs (S'.q n) ∧ (∀ y ∈ xs, waitsIn y (S.q n)) ∧ (∀ k, waitsIn k (S'.q n) ↔ waitsIn k (S.q n) ∧ k ≠ x ∧ k ∉ xs) ∧ Ok (S'.q n) ∧ ∀ k ∈ xs, k ∈ ys := fun n => by
    obtain ⟨xs, hx, hy⟩ := h1 n
    obtain ⟨a, b, c⟩ := hx.ok (h.ok n)
    exact ⟨xs, hx, b, c, a, hy⟩
  have hgiven : ∀ k n, waitsIn k (S.q n) → (k ∈ ys ↔ ∃ xs, RelQ x (S.q n) xs (S'.q n) ∧ k ∈ xs) := fun k n hk => by
    constructor
    · intro hy
      obtain ⟨j, xs, hx, hm⟩ := h2 k hy
      have hwj : waitsIn k (S.q j) := (hx.ok (h.ok j)).2.1 k hm
      have := h.once k n j hk hwj
      subst this
      exact ⟨xs, hx, hm⟩
    · rintro ⟨xs, hx, hm⟩
      obtain ⟨zs, hz, -, -, -, hy⟩ := key n
      rw [(hx.det hz).1] at hm
      exact hy k hm
  have hwn : ∀ k n, waitsIn k (S'.q n) ↔ waitsIn k (S.q n) ∧ k ≠ x ∧ k ∉ ys := fun k n => by
    obtain ⟨xs, hx, -, hc, -, hy⟩ := key n
    rw [hc k]
    constructor
    · rintro ⟨a, b, c⟩
      refine ⟨a, b, fun hk => ?_⟩
      obtain ⟨zs, hz, hm⟩ := (hgiven k n a).1 hk
      rw [(hz.det hx).1] at hm
      exact c hm
    · rintro ⟨a, b, c⟩
      exact ⟨a, b, fun hm => c (hy k hm)⟩
  refine ⟨fun n => by obtain ⟨xs, -, -, -, ho, -⟩ := key n; exact ho, fun k => ?_, fun k n n' hn hn' => h.once k n n' ((hwn k n).1 hn).1 ((hwn k n').1 hn').1⟩
  rw [h3 k, h.wait k]
  constructor
  · rintro ⟨⟨n, hn⟩, b, c⟩
    exact ⟨n, (hwn k n).2 ⟨hn, b, c⟩⟩
  · rintro ⟨n, hn⟩
    obtain ⟨a, b, c⟩ := (hwn k n).1 hn
    exact ⟨⟨n, a⟩, b, c⟩
end Go.Proofs.Ytileamjmhhifaaa
