/-
  Layer 9 (locks): one queue of the table changes; what Ask computes, plain.
-/
import Derived.Test.YtileamjmhhifaaaGreatLk8
namespace Go.Proofs.YtileamjmhhifaaaGreat
open Go.RowKit Go.Joins Go.Sort
set_option linter.unusedVariables false
set_option linter.unusedSimpArgs false

theorem keys_upd {K : Type} [DecidableEq K] {k : K} {v : Value} : ∀ {M : List (K × Value)} (j : K), j ∈ keysM (updK k v M) ↔ j = k ∨ j ∈ keysM M
  | [], j => by simp [updK, keysM]
  | x :: r, j => by
    have ih := keys_upd (k := k) (v := v) (M := r) j
    unfold updK
    by_cases e : k = x.1
    · rw [if_pos e]
      simp only [keysM, List.map_cons, List.mem_cons, ← e]
      constructor
      · rintro (h | h)
        · exact .inl h
        · exact .inr (.inr h)
      · rintro (h | h | h)
        · exact .inl h
        · exact .inl h
        · exact .inr h
    · rw [if_neg e]
      simp only [keysM, List.map_cons, List.mem_cons] at ih ⊢
      rw [ih]
      constructor
      · rintro (h | h | h)
        · exact .inr (.inl h)
        · exact .inl h
        · exact .inr (.inr h)
      · rintro (h | h | h)
        · exact .inr (.inl h)
        · exact .inl h
        · exact .inr (.inr h)
theorem mem_upd {K : Type} [DecidableEq K] {k : K} {v : Value} : ∀ {M : List (K × Value)} {y : K × Value}, y ∈ updK k v M → y = (k, v) ∨ y ∈ M
  | [], y, h => by simp [updK] at h; exact .inl h
  | x :: r, y, h => by
    unfold updK at h
    by_cases e : k = x.1
    · rw [if_pos e] at h
      rcases List.mem_cons.1 h with h | h
      · exact .inl h
      · exact .inr (List.mem_cons_of_mem _ h)
    · rw [if_neg e] at h
      rcases List.mem_cons.1 h with h | h
      · exact .inr (by rw [h]; exact List.mem_cons_self ..)
      · exact (mem_upd h).imp id (List.mem_cons_of_mem _)
theorem len_upd {K : Type} [DecidableEq K] {k : K} {v : Value} : ∀ (M : List (K × Value)), (updK k v M).length ≤ M.length + 1
  | [] => by simp [updK]
  | x :: r => by
    have := len_upd (k := k) (v := v) r
    unfold updK
    split
    · simp
    · simpa using this
def updE (E : Nm → Ent) (n : Nm) (e : Ent) (k : Nm) : Ent := if k = n then e else E k
theorem updE_same (E : Nm → Ent) (n : Nm) (e : Ent) : updE E n e n = e := if_pos rfl
theorem updE_ne {E : Nm → Ent} {n k : Nm} {e : Ent} (h : k ≠ n) : updE E n e k = E k := if_neg h
theorem qOf_upd {M : List (Nm × Value)} {E : Nm → Ent} {n : Nm} {e : Ent} (hn : n ∈ keysM M) : qOf M (updE E n e) n = e.Q ∧ ∀ k, k ≠ n → qOf M (updE E n e) k = qOf M E k := by
  refine ⟨by rw [qOf_in hn, updE_same], fun k hk => ?_⟩
  unfold qOf
  rw [updE_ne hk]
section
variable {w w' : World} {B t nb wb : Nat} {turn turn' : Int} {M : List (Nm × Value)} {E : Nm → Ent} {Wt Wt' : List (Int × Value)}
theorem QAt.ty {w : World} {B qb : Nat} {hv wv : Value} {Q : Qu} (h : QAt w B qb hv wv Q) {i : Nat} (hi : qBlk qb hv wv i) : ∃ c t, w.heap[i]? = some (.cells c t) ∧ t ≠ 52 ∧ t ≠ 31 := by
  rcases hi with rfl | hi | hi
  · exact ⟨_, _, h.blk, by decide, by decide⟩
  · obtain ⟨c, hc⟩ := own_blkv h.held hi
    exact ⟨c, _, hc, by decide, by decide⟩
  · obtain ⟨c, hc⟩ := own_blkv h.wish hi
    exact ⟨c, _, hc, by decide, by decide⟩
theorem TabAt.own_ne (h : TabAt w B t nb wb turn M E Wt) {n : Nm} (hn : n ∈ keysM M) {i : Nat} (hi : (E n).own i) : i ≠ t ∧ i ≠ nb ∧ i ≠ wb := by
  obtain ⟨c, ty, hc, h1, h2⟩ := (h.qat n hn).ty hi
  refine ⟨heap_ne_ty hc h.wait.tab h1, fun e => ?_, fun e => ?_⟩
  · obtain ⟨es, clk, hm, -⟩ := h.names
    rw [← e, hc] at hm; cases hm
  · obtain ⟨es, clk, hm, -⟩ := h.wait.map
    rw [← e, hc] at hm; cases hm
theorem TabAt.t_ne (h : TabAt w B t nb wb turn M E Wt) : t ≠ nb ∧ t ≠ wb := by
  refine ⟨fun e => ?_, fun e => ?_⟩
  · obtain ⟨es, clk, hm, -⟩ := h.names
    rw [← e, h.wait.tab] at hm; cases hm
  · obtain ⟨es, clk, hm, -⟩ := h.wait.map
    rw [← e, h.wait.tab] at hm; cases hm
/-- one queue changes, and the table's own block and the map of those that wait -/
theorem TabAt.upd (h : TabAt w B t nb wb turn M E Wt) {n : Nm} (hn : n ∈ keysM M) {hv' wv' : Value} {Q' : Qu} (hm : Moved (fun i => i = t ∨ i = wb ∨ (E n).own i) w w') (hq : QAt w' B (E n).qb hv' wv' Q') (hT : WaitAt w' t nb wb turn' Wt') (hv : ∀ x ∈ Wt', ∃ k : Nm, x.2 = k.v) (hown : ∀ i, qBlk (E n).qb hv' wv' i → (E n).own i ∨ w.heap.size ≤ i) :
    TabAt w' B t nb wb turn' M (updE E n ⟨(E n).qb, hv', wv', Q'⟩) Wt' := by
  have hoth : ∀ m ∈ keysM M, m ≠ n → ∀ i, (E m).own i → w'.heap[i]? = w.heap[i]? := fun m hmm hne i hi => by
    obtain ⟨e1, e2, e3⟩ := h.own_ne hmm hi
    refine hm.block i (h.lt (.inr (.inr (.inr ⟨m, hmm, hi⟩)))).2 fun e => ?_
    rcases e with e | e | e
    · exact e1 e
    · exact e3 e
    · exact h.apart m hmm n hn hne i hi e
  refine ⟨hT, h.names.kept (hm.block nb h.names.lt fun e => ?_), fun y hy => ?_, fun m hmm => ?_, fun m hmm k hk hmk i hi hi2 => ?_, hv, h.leT, h.leN, h.leW, h.ne⟩
  · rcases e with e | e | e
    · exact h.t_ne.1 e.symm
    · exact h.ne e
    · exact (h.own_ne hn e).2.1 rfl
  · have := h.ptr y hy
    by_cases e : y.1 = n
    · rw [e, updE_same, this, e]
    · rw [updE_ne e]; exact this
  · by_cases e : m = n
    · rw [e, updE_same]; exact hq
    · rw [updE_ne e]; exact (h.qat m hmm).keep fun i hi => hoth m hmm e i hi
  · by_cases e : m = n
    · subst e
      rw [updE_same] at hi
      rw [updE_ne (Ne.symm hmk)] at hi2
      rcases hown i hi with h1 | h1
      · exact h.apart m hmm k hk hmk i h1 hi2
      · have := (h.lt (.inr (.inr (.inr ⟨k, hk, hi2⟩)))).2; omega
    · rw [updE_ne e] at hi
      by_cases e2 : k = n
      · subst e2
        rw [updE_same] at hi2
        rcases hown i hi2 with h1 | h1
        · exact h.apart m hmm k hk hmk i hi h1
        · have := (h.lt (.inr (.inr (.inr ⟨m, hmm, hi⟩)))).2; omega
      · rw [updE_ne e2] at hi2
        exact h.apart m hmm k hk hmk i hi hi2
/-- what is owned behind it -/
theorem own_upd {n : Nm} (hn : n ∈ keysM M) {hv' wv' : Value} {Q' : Qu} {s : Nat} (hown : ∀ i, qBlk (E n).qb hv' wv' i → (E n).own i ∨ s ≤ i) : ∀ i, Own t nb wb M (updE E n ⟨(E n).qb, hv', wv', Q'⟩) i → Own t nb wb M E i ∨ s ≤ i := by
  rintro i (h | h | h | ⟨m, hm, h⟩)
  · exact .inl (.inl h)
  · exact .inl (.inr (.inl h))
  · exact .inl (.inr (.inr (.inl h)))
  · by_cases e : m = n
    · subst e
      rw [updE_same] at h
      exact (hown i h).imp (fun h => .inr (.inr (.inr ⟨m, hm, h⟩))) id
    · rw [updE_ne e] at h
      exact .inl (.inr (.inr (.inr ⟨m, hm, h⟩)))
/-- what moves of one queue is the table's -/
theorem Moved.tab {n : Nm} (hn : n ∈ keysM M) (hm : Moved (fun i => i = t ∨ i = wb ∨ (E n).own i) w w') : Moved (Own t nb wb M E) w w' :=
  hm.mono fun i _ h => by
    rcases h with h | h | h
    · exact .inl h
    · exact .inr (.inr (.inl h))
    · exact .inr (.inr (.inr ⟨n, hn, h⟩))
end
/-! ## what Ask does with a queue -/
/-- the queue, given?, the turn -/
def askQ (Q : Qu) (x m t : Int) : Qu × Bool × Int :=
  if 0 ≤ atL x Q.H 0 then
    let k := (atL x Q.H 0).toNat
    let h := Q.H.getD k default
    let j := joinL h.m m
    if j = h.m then (Q, true, t)
    else if freeL x j Q.H then (⟨Q.H.set k ⟨h.x, j, h.w, h.t⟩, Q.W⟩, true, t)
    else (⟨Q.H.set k ⟨h.x, h.m, j, t + 1⟩, Q.W⟩, false, t + 1)
  else if Q.W.isEmpty && !wantL Q.H && freeL x m Q.H then (⟨Q.H ++ [⟨x, m, 0, 0⟩], Q.W⟩, true, t)
  else (⟨Q.H, Q.W ++ [⟨x, m⟩]⟩, false, t)
theorem askQ_at {Q : Qu} {x m t : Int} {k : Nat} (hk : atL x Q.H 0 = (k : Int)) (hl : k < Q.H.length) :
    askQ Q x m t = if joinL Q.H[k].m m = Q.H[k].m then (Q, true, t) else if freeL x (joinL Q.H[k].m m) Q.H then (⟨Q.H.set k ⟨Q.H[k].x, joinL Q.H[k].m m, Q.H[k].w, Q.H[k].t⟩, Q.W⟩, true, t) else (⟨Q.H.set k ⟨Q.H[k].x, Q.H[k].m, joinL Q.H[k].m m, t + 1⟩, Q.W⟩, false, t + 1) := by
  have e : Q.H.getD k default = Q.H[k] := by rw [List.getD_eq_getElem?_getD, List.getElem?_eq_getElem hl]; rfl
  unfold askQ
  rw [hk, if_pos (by omega)]
  simp only [Int.toNat_natCast, e]
theorem askQ_new {Q : Qu} {x m t : Int} (hk : atL x Q.H 0 = -1) :
    askQ Q x m t = if Q.W.isEmpty && !wantL Q.H && freeL x m Q.H then (⟨Q.H ++ [⟨x, m, 0, 0⟩], Q.W⟩, true, t) else (⟨Q.H, Q.W ++ [⟨x, m⟩]⟩, false, t) := by
  unfold askQ
  rw [hk]; rfl
theorem hdRow_m : ∀ (L : List Hd) (i : Nat) (hi : i < L.length) (j : Int), hdRow (L.set i ⟨L[i].x, j, L[i].w, L[i].t⟩) = (hdRow L).set (i * 4 + 1) (.int .i64 j)
  | [], i, hi, _ => by simp at hi
  | x :: r, 0, _, j => by simp [hdRow, Hd.l]
  | x :: r, i + 1, hi, j => by
    have ih := hdRow_m r i (by simpa using hi) j
    have e : ∀ (l : List Value) (k : Nat) (v : Value), (x.l ++ l).set (4 + k) v = x.l ++ l.set k v := fun l k v => by
      rw [List.set_append_right _ _ (by rw [Hd.l_len]; omega), Hd.l_len, show 4 + k - 4 = k from by omega]
    simp only [List.getElem_cons_succ, List.set_cons_succ]
    rw [show ∀ l : List Hd, hdRow (x :: l) = x.l ++ hdRow l from fun _ => rfl, ih, show ∀ l : List Hd, hdRow (x :: l) = x.l ++ hdRow l from fun _ => rfl, show (i + 1) * 4 + 1 = 4 + (i * 4 + 1) from by omega, e]
theorem hdRow_wt : ∀ (L : List Hd) (i : Nat) (hi : i < L.length) (j u : Int), hdRow (L.set i ⟨L[i].x, L[i].m, j, u⟩) = ((hdRow L).set (i * 4 + 2) (.int .i64 j)).set (i * 4 + 3) (.int .i64 u)
  | [], i, hi, _, _ => by simp at hi
  | x :: r, 0, _, j, u => by simp [hdRow, Hd.l]
  | x :: r, i + 1, hi, j, u => by
    have ih := hdRow_wt r i (by simpa using hi) j u
    have e : ∀ (l : List Value) (k : Nat) (v : Value), (x.l ++ l).set (4 + k) v = x.l ++ l.set k v := fun l k v => by
      rw [List.set_append_right _ _ (by rw [Hd.l_len]; omega), Hd.l_len, show 4 + k - 4 = k from by omega]
    simp only [List.getElem_cons_succ, List.set_cons_succ]
    rw [show ∀ l : List Hd, hdRow (x :: l) = x.l ++ hdRow l from fun _ => rfl, ih, show ∀ l : List Hd, hdRow (x :: l) = x.l ++ hdRow l from fun _ => rfl, show (i + 1) * 4 + 2 = 4 + (i * 4 + 2) from by omega, show (i + 1) * 4 + 3 = 4 + (i * 4 + 3) from by omega, e, e]
end Go.Proofs.YtileamjmhhifaaaGreat
