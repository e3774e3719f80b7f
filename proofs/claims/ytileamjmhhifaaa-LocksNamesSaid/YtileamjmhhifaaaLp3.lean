/-
  Layer 9 (locks), plain: what All and Arcs tell of a table of which all that holds.
-/
import Derived.Test.YtileamjmhhifaaaLp2
import Derived.Test.YtileamjmhhifaaaLk24
namespace Go.Proofs.Ytileamjmhhifaaa
open Go.RowKit Go.Joins Go.Sort Go.Shelf
set_option linter.unusedVariables false
set_option linter.unusedSimpArgs false

theorem hArcs_in (Q : Qu) : ∀ (k i : Nat) (hi : i < Q.H.length), i < k → Q.H[i].w ≠ 0 → ∀ p ∈ agL Q.H[i].x Q.H[i].w Q.H, p ∈ hArcs Q k
  | 0, _, _, h, _, _, _ => by omega
  | k + 1, i, hi, h, hw, p, hp => by
    rw [hArcs, List.mem_append]
    by_cases e : i = k
    · subst e
      right
      rw [List.getElem?_eq_getElem hi]
      simp only
      rw [if_pos (by simpa using hw)]
      exact hp
    · exact .inl (hArcs_in Q k i hi (by omega) hw p hp)
theorem wArcs_in (Q : Qu) : ∀ (k i : Nat) (hi : i < Q.W.length), i < k → ∀ p ∈ (agL Q.W[i].x Q.W[i].m Q.H ++ wantX Q.W[i].x Q.H) ++ prevX Q.W[i].x (Q.W.take i), p ∈ wArcs Q k
  | 0, _, _, h, _, _ => by omega
  | k + 1, i, hi, h, p, hp => by
    rw [wArcs, List.mem_append]
    by_cases e : i = k
    · subst e
      right
      rw [List.getElem?_eq_getElem hi]
      exact hp
    · exact .inl (wArcs_in Q k i hi (by omega) p hp)
theorem ag_in {x m : Int} {H : List Hd} (h : freeL x m H = false) : ∃ p ∈ agL x m H, p.1 = x ∧ ∃ g ∈ H, g.x = p.2 := by
  obtain ⟨g, hg, h1, h2⟩ := free_false.1 h
  refine ⟨(x, g.x), ?_, rfl, g, hg, rfl⟩
  unfold agL
  exact List.mem_map.2 ⟨g, List.mem_filter.2 ⟨hg, by simp [h1, h2]⟩, rfl⟩
theorem cons_of : ∀ (L : List Ws) (h : 0 < L.length), L = L[0] :: L.tail
  | [], h => by simp at h
  | _ :: _, _ => rfl
/-- who waits has an arc to somebody of the queue -/
theorem Ok.arc {Q : Qu} (h : Ok Q) {k : Int} (hk : waitsIn k Q) : ∃ p ∈ arcsQ Q, p.1 = k ∧ ((∃ g ∈ Q.H, g.x = p.2) ∨ ∃ y ∈ Q.W, y.x = p.2) := by
  rcases hk with ⟨g, hg, rfl, hw⟩ | ⟨y, hy, rfl⟩
  · obtain ⟨p, hp, h1, h2⟩ := ag_in (h.stuckH g hg hw)
    obtain ⟨i, hi, rfl⟩ := List.mem_iff_getElem.1 hg
    exact ⟨p, List.mem_append.2 (.inl (hArcs_in Q _ i hi hi hw p hp)), h1, .inl h2⟩
  · obtain ⟨i, hi, rfl⟩ := List.mem_iff_getElem.1 hy
    have hin := wArcs_in Q Q.W.length i hi hi
    by_cases e : i = 0
    · subst e
      have hW : Q.W = Q.W[0] :: Q.W.tail := cons_of Q.W hi
      rcases h.stuckW _ _ hW with h1 | h1
      · obtain ⟨g, hg, hgw⟩ := want_iff.1 h1
        refine ⟨(Q.W[0].x, g.x), List.mem_append.2 (.inr (hin _ (List.mem_append.2 (.inl (List.mem_append.2 (.inr ?_)))))), rfl, .inl ⟨g, hg, rfl⟩⟩
        exact List.mem_map.2 ⟨g, List.mem_filter.2 ⟨hg, by simpa using hgw⟩, rfl⟩
      · obtain ⟨p, hp, h2, h3⟩ := ag_in h1
        exact ⟨p, List.mem_append.2 (.inr (hin _ (List.mem_append.2 (.inl (List.mem_append.2 (.inl hp)))))), h2, .inl h3⟩
    · have h0 : 0 < Q.W.length := by omega
      refine ⟨(Q.W[i].x, Q.W[0].x), List.mem_append.2 (.inr (hin _ (List.mem_append.2 (.inr ?_)))), rfl, .inr ⟨_, List.getElem_mem h0, rfl⟩⟩
      exact List.mem_map.2 ⟨Q.W[0], List.mem_take_iff_getElem.2 ⟨0, by omega, rfl⟩, rfl⟩
theorem AllOf.mem {q : Nm → Qu} {Ns : List Nm} {A : List Ho} (h : AllOf q Ns A) (r : Ho) : r ∈ A ↔ r.n ∈ Ns ∧ (r ∈ hoQ r.n (q r.n).H ∨ r ∈ wsQ r.n (q r.n).W) := by
  have hn : ∀ n H, r ∈ hoQ n H → r.n = n := fun n H hr => by
    obtain ⟨g, -, rfl⟩ := List.mem_map.1 hr; rfl
  have wn : ∀ n W, r ∈ wsQ n W → r.n = n := fun n W hr => by
    obtain ⟨g, -, rfl⟩ := List.mem_map.1 hr; rfl
  induction h with
  | nil => simp
  | @snoc Ns L R n h hp hs ih =>
    obtain ⟨ih1, ih2⟩ := ih
    rw [List.mem_append, List.mem_append, hp.mem_iff, List.mem_append, List.mem_singleton]
    constructor
    · rintro ((h1 | h1) | h1)
      · exact ⟨.inl (ih1 h1).1, (ih1 h1).2⟩
      · have e := hn _ _ h1
        exact ⟨.inr e, .inl (by rw [e]; exact h1)⟩
      · have e := wn _ _ h1
        exact ⟨.inr e, .inr (by rw [e]; exact h1)⟩
    · rintro ⟨h1 | h1, h2⟩
      · exact .inl (.inl (ih2 ⟨h1, h2⟩))
      · rw [h1] at h2
        rcases h2 with h2 | h2
        · exact .inl (.inr h2)
        · exact .inr h2
/-- what waits in All waits -/
theorem AllOf.waits {q : Nm → Qu} {Ns : List Nm} {A : List Ho} (h : AllOf q Ns A) {r : Ho} (hr : r ∈ A) (hw : r.w ≠ 0) : waitsIn r.x (q r.n) := by
  rcases ((h.mem r).1 hr).2 with h1 | h1
  · obtain ⟨g, hg, he⟩ := List.mem_map.1 h1
    refine .inl ⟨g, hg, by rw [← he], fun e => hw (by rw [← he]; exact e)⟩
  · obtain ⟨y, hy, he⟩ := List.mem_map.1 h1
    exact .inr ⟨y, hy, by rw [← he]⟩
/-- holds of one name go together, wherever they stand -/
theorem AllOf.tog {q : Nm → Qu} (hq : ∀ n, Ok (q n)) {Ns : List Nm} {A : List Ho} (h : AllOf q Ns A) (hN : Ns.Pairwise ltN) : A.Pairwise (fun a b => a.n = b.n → a.m ≠ 0 → b.m ≠ 0 → compatL a.m b.m = true) := by
  induction h with
  | nil => exact List.Pairwise.nil
  | @snoc Ns L R n h hp hs ih =>
    obtain ⟨hN1, -, hN2⟩ := List.pairwise_append.1 hN
    have hnn : n ∉ Ns := fun hm => ltN.irrefl n (hN2 n hm n (List.mem_singleton.2 rfl))
    have hR : ∀ r ∈ R, r.n = n ∧ ∃ g ∈ (q n).H, r = ⟨n, g.x, g.m, g.w⟩ := fun r hr => by
      obtain ⟨g, hg, he⟩ := List.mem_map.1 (hp.mem_iff.1 hr)
      exact ⟨by rw [← he], g, hg, he.symm⟩
    have hW : ∀ r ∈ wsQ n (q n).W, r.m = 0 := fun r hr => by
      obtain ⟨y, hy, he⟩ := List.mem_map.1 hr
      rw [← he]
    have hL : ∀ r ∈ L, r.n ∈ Ns := fun r hr => ((h.mem r).1 hr).1
    refine List.pairwise_append.2 ⟨List.pairwise_append.2 ⟨ih hN1, ?_, fun a ha b hb e _ _ => ?_⟩, List.Pairwise.imp_of_mem (fun {a b} ha hb _ _ hm _ => absurd (hW a ha) hm) (List.pairwise_of_forall (R := fun _ _ => True) fun _ _ => trivial), fun a ha b hb _ _ hm => absurd (hW b hb) hm⟩
    · have hnd : (R.map (·.x)).Nodup := by
        have h1 : (R.map (·.x)).Perm ((hoQ n (q n).H).map (·.x)) := hp.map _
        rw [h1.nodup_iff]
        have h2 : (hoQ n (q n).H).map (·.x) = (q n).H.map (·.x) := by simp [hoQ]
        rw [h2]; exact (hq n).pre.hnd
      have h3 : R.Pairwise (fun a b => a.x ≠ b.x) := List.pairwise_map.1 hnd
      refine h3.imp_of_mem fun {a b} ha hb hab _ _ _ => ?_
      obtain ⟨-, g, hg, rfl⟩ := hR a ha
      obtain ⟨-, g', hg', rfl⟩ := hR b hb
      exact (hq n).pre.tog g hg g' hg' hab
    · exact absurd (by rw [← (hR b hb).1, ← e]; exact hL a ha) hnn
/-! ## a call of Ask, whatever it says -/
theorem la_any {w0 w : World} {t : Nat} {O : Nat → Prop} {S : LS} {N : Nat} (h : LA w0 w t O S N) (hN : N ≤ 1000) (x m : Int) (n : Nm) (hok : OkS S) : Calls Try.prog 11 #[.pointer (some ⟨t, 0, none⟩), .int .i64 x, .agg #[.int .i64 n.s, .string n.i], .int .i64 m] w fun e w' => ∃ r er O' S', e = .returned (.tuple #[.bool r, .int .i64 er]) ∧ LA w0 w' t O' S' (N + 1) ∧ Kept O O' w w' ∧ OkS S' := by
  have hkb : ∀ {w' : World}, Below w.heap.size w w' → Kept O O w w' := fun hb => ⟨.of_below hb, fun i hi => .inl hi⟩
  by_cases hm : m ≤ 0 ∨ 6 < m
  · refine (ask_bad t x m n w hm).mono ?_
    rintro e w' ⟨rfl, hb⟩
    exact ⟨_, _, O, S, rfl, ⟨(h.below hb).lt.mono (by omega), (h.below hb).low⟩, hkb hb, hok⟩
  · cases hx : S.wt x with
    | true =>
      refine (lt_busy h.lt x m n (by omega) (by omega) hx).mono ?_
      rintro e w' ⟨rfl, hb⟩
      exact ⟨_, _, O, S, rfl, ⟨(h.below hb).lt.mono (by omega), (h.below hb).low⟩, hkb hb, hok⟩
    | false =>
      refine (la_ask h hN x m n (by omega) (by omega) hx).mono ?_
      rintro e w' ⟨rfl, O', h1, h2⟩
      exact ⟨_, _, O', _, rfl, h1, h2, hok.ask n hx ⟨by omega, by omega⟩⟩
end Go.Proofs.Ytileamjmhhifaaa
