/-
  Several texts in one: Lk24, Lp3.
-/
import Derived.Test.YtileamjmhhifaaaGreatPkB
import Derived.Test.YtileamjmhhifaaaGreatPkC
namespace Go.Proofs.YtileamjmhhifaaaGreat
/-!
  Layer 9 (locks): All in terms of values; the walk of LocksFirst.
-/
section
open Go.RowKit Go.Joins Go.Sort Go.Shelf
set_option linter.unusedVariables false
set_option linter.unusedSimpArgs false

theorem lt_all {w : World} {B t : Nat} {O : Nat → Prop} {S : LS} {N : Nat} (h : LT w B t O S N) (hN : N ≤ 1000) : Calls Tryz.prog 15 #[.pointer (some ⟨t, 0, none⟩)] w fun e w' => ∃ (v : Value) (Ns : List Nm) (A : List Ho), e = .returned v ∧ w'.ownsRow w.heap.size 80 5 v A.length (A.flatMap hoL) ∧ Ns.Pairwise ltN ∧ (∀ n, sizeQ (S.q n) ≠ 0 → n ∈ Ns) ∧ AllOf S.q Ns A ∧ Below w.heap.size w w' := by
  obtain ⟨nb, wb, M, E, Wt, h1, h2, h3, h4, h5, ho, h7, h8⟩ := h
  have hq : qOf M E = S.q := funext h2
  refine (all_any h1 (by omega) fun n => by rw [h2 n]; exact Nat.le_trans (h5 n) hN).mono ?_
  rintro e w' ⟨v, Ns, A, rfl, k1, k2, k3, k4, k5⟩
  rw [hq] at k4
  refine ⟨v, Ns, A, rfl, k1, k2, fun n hn => (k3 n).2 ?_, k4, k5⟩
  by_cases h : n ∈ keysM M
  · exact h
  · rw [← h2 n, qOf_out h] at hn
    exact absurd rfl hn
theorem AllOf.empty {q : Nm → Qu} (hq : ∀ n, q n = ⟨[], []⟩) {Ns : List Nm} {A : List Ho} (h : AllOf q Ns A) : A = [] := by
  induction h with
  | nil => rfl
  | @snoc Ns L R n h hp hs ih =>
    rw [hq n] at hp
    have : R = [] := by simpa [hoQ] using hp
    rw [ih, this, hq n]; rfl

/-- those that wait, one behind the other -/
def wl : Nat → Nat → List Ws
  | _, 0 => []
  | a, k + 1 => ⟨(a : Int) + 1, 6⟩ :: wl (a + 1) k
theorem wl_snoc : ∀ (k a : Nat), wl a (k + 1) = wl a k ++ [⟨((a + k : Nat) : Int) + 1, 6⟩]
  | 0, a => by simp [wl]
  | k + 1, a => by
    rw [wl, wl_snoc k (a + 1), wl]
    simp only [List.cons_append]
    congr 3
    have : a + 1 + k = a + (k + 1) := by omega
    rw [this]
theorem wl_len : ∀ (k a : Nat), (wl a k).length = k
  | 0, _ => rfl
  | k + 1, a => by rw [wl, List.length_cons, wl_len k]
theorem wl_gt : ∀ (k a : Nat), ∀ y ∈ wl a k, (a : Int) < y.x
  | 0, _, y, h => by cases h
  | k + 1, a, y, h => by
    rcases List.mem_cons.1 h with rfl | h
    · show (a : Int) < (a : Int) + 1; omega
    · have := wl_gt k (a + 1) y h
      omega
/-- one has the name, so many wait behind it -/
def fq (a k : Nat) : Qu := ⟨[⟨(a : Int), 6, 0, 0⟩], wl a k⟩
theorem fq_ask (k : Nat) (t : Int) : askQ (fq 0 k) ((k : Int) + 1) 6 t = (fq 0 (k + 1), false, t) := by
  have h0 : atL ((k : Int) + 1) (fq 0 k).H 0 = -1 := by
    simp only [fq, atL]
    rw [if_neg (by show ((0 : Nat) : Int) ≠ (k : Int) + 1; omega)]
  rw [askQ_new h0]
  have h1 : ((fq 0 k).W.isEmpty && !wantL (fq 0 k).H && freeL ((k : Int) + 1) 6 (fq 0 k).H) = false := by
    have : freeL ((k : Int) + 1) 6 (fq 0 k).H = false := by
      simp only [fq, freeL, List.all_cons, List.all_nil, Bool.and_true]
      have e1 : (((0 : Nat) : Int) == (k : Int) + 1) = false := by simp; omega
      rw [e1]; decide
    rw [this, Bool.and_false]
  rw [h1]
  simp only [fq, wl_snoc, Nat.zero_add]
  rfl
theorem fq_rem (a k : Nat) : remQ (a : Int) (fq a k) = ⟨[], wl a k⟩ := by
  unfold remQ fq
  simp only [List.filter_cons, List.filter_nil, beq_self_eq_true, Bool.not_true]
  congr 1
  rw [List.filter_eq_self]
  intro y hy
  have := wl_gt k a y hy
  simp; omega
theorem fq_rel (a k : Nat) : RelQ (a : Int) (fq a (k + 1)) [(a : Int) + 1] (fq (a + 1) k) := by
  refine .inl ⟨by simp [hasQ, fq], ?_⟩
  rw [fq_rem]
  refine ⟨[], [(a : Int) + 1], _, .stop (by simp [stepA, bestQ, bestTo]), .step (Q1 := fq (a + 1) k) ?_ (.stop ?_), rfl⟩
  · simp [stepB, wl, wantL, freeL, fq]
  · cases k with
    | zero => rfl
    | succ k =>
      have e1 : (((a + 1 : Nat) : Int) == ((a + 1 : Nat) : Int) + 1) = false := by simp; omega
      have e2 : compatL 6 6 = false := by decide
      simp only [stepB, fq, wl, freeL, List.all_cons, List.all_nil, e1, e2]
      simp
theorem fq_last (a : Nat) : RelQ (a : Int) (fq a 0) [] ⟨[], []⟩ := by
  refine .inl ⟨by simp [hasQ, fq], ?_⟩
  rw [fq_rem]
  exact ⟨[], [], _, .stop (by simp [stepA, bestQ, bestTo]), .stop rfl, rfl⟩
theorem fq_mode (a k : Nat) : modeL (a : Int) (fq a k).H = 6 := by
  rw [modeL_some (i := 0) (by simp [atL, fq]) (by simp [fq])]; rfl
theorem fq_none (a k : Nat) : modeL ((a : Int) + 1) (fq a k).H = 0 :=
  modeL_none (by simp only [fq, atL]; rw [if_neg (by omega)])

theorem wrap64_id {x : Int} (h1 : -9223372036854775808 ≤ x) (h2 : x ≤ 9223372036854775807) : wrap64 x = x := by unfold wrap64; omega
theorem first_n (k0 : Int) : ∃ m : Nat, m < 40 ∧ (wrap64 (k0.tmod 40 + 40)).tmod 40 = (m : Int) := by
  have a1 := Int.tmod_lt_of_pos k0 (show (0 : Int) < 40 by omega)
  have a2 := Int.lt_tmod_of_pos k0 (show (0 : Int) < 40 by omega)
  generalize k0.tmod 40 = u at *
  rw [wrap64_id (by omega) (by omega), Int.tmod_eq_emod_of_nonneg (by omega)]
  exact ⟨((u + 40) % 40).toNat, by omega, by omega⟩

end

/-!
  Layer 9 (locks), plain: what All and Arcs tell of a table of which all that holds.
-/
section
open Go.RowKit Go.Joins Go.Sort Go.Shelf
set_option linter.unusedVariables false
set_option linter.unusedSimpArgs false

theorem hArcs_in (Q : Qu) : ∀ (k i : Nat) (hi : i < Q.H.length), i < k → Q.H[i].w ≠ 0 → ∀ p ∈ agL Q.H[i].x Q.H[i].w Q.H, p ∈ hArcs Q k
  | 0, _, _, h, _, _, _ => by omega
  | k + 1, i, hi, h, hw, p, hp => by
    rw [hArcs, List.mem_append]
    by_cases e : i = k
    · subst e
      right
      rw [List.getElem?_eq_getElem hi]
      simp only
      rw [if_pos (by simpa using hw)]
      exact hp
    · exact .inl (hArcs_in Q k i hi (by omega) hw p hp)
theorem wArcs_in (Q : Qu) : ∀ (k i : Nat) (hi : i < Q.W.length), i < k → ∀ p ∈ (agL Q.W[i].x Q.W[i].m Q.H ++ wantX Q.W[i].x Q.H) ++ prevX Q.W[i].x (Q.W.take i), p ∈ wArcs Q k
  | 0, _, _, h, _, _ => by omega
  | k + 1, i, hi, h, p, hp => by
    rw [wArcs, List.mem_append]
    by_cases e : i = k
    · subst e
      right
      rw [List.getElem?_eq_getElem hi]
      exact hp
    · exact .inl (wArcs_in Q k i hi (by omega) p hp)
theorem ag_in {x m : Int} {H : List Hd} (h : freeL x m H = false) : ∃ p ∈ agL x m H, p.1 = x ∧ ∃ g ∈ H, g.x = p.2 := by
  obtain ⟨g, hg, h1, h2⟩ := free_false.1 h
  refine ⟨(x, g.x), ?_, rfl, g, hg, rfl⟩
  unfold agL
  exact List.mem_map.2 ⟨g, List.mem_filter.2 ⟨hg, by simp [h1, h2]⟩, rfl⟩
theorem cons_of : ∀ (L : List Ws) (h : 0 < L.length), L = L[0] :: L.tail
  | [], h => by simp at h
  | _ :: _, _ => rfl
/-- who waits has an arc to somebody of the queue -/
theorem Ok.arc {Q : Qu} (h : Ok Q) {k : Int} (hk : waitsIn k Q) : ∃ p ∈ arcsQ Q, p.1 = k ∧ ((∃ g ∈ Q.H, g.x = p.2) ∨ ∃ y ∈ Q.W, y.x = p.2) := by
  rcases hk with ⟨g, hg, rfl, hw⟩ | ⟨y, hy, rfl⟩
  · obtain ⟨p, hp, h1, h2⟩ := ag_in (h.stuckH g hg hw)
    obtain ⟨i, hi, rfl⟩ := List.mem_iff_getElem.1 hg
    exact ⟨p, List.mem_append.2 (.inl (hArcs_in Q _ i hi hi hw p hp)), h1, .inl h2⟩
  · obtain ⟨i, hi, rfl⟩ := List.mem_iff_getElem.1 hy
    have hin := wArcs_in Q Q.W.length i hi hi
    by_cases e : i = 0
    · subst e
      have hW : Q.W = Q.W[0] :: Q.W.tail := cons_of Q.W hi
      rcases h.stuckW _ _ hW with h1 | h1
      · obtain ⟨g, hg, hgw⟩ := want_iff.1 h1
        refine ⟨(Q.W[0].x, g.x), List.mem_append.2 (.inr (hin _ (List.mem_append.2 (.inl (List.mem_append.2 (.inr ?_)))))), rfl, .inl ⟨g, hg, rfl⟩⟩
        exact List.mem_map.2 ⟨g, List.mem_filter.2 ⟨hg, by simpa using hgw⟩, rfl⟩
      · obtain ⟨p, hp, h2, h3⟩ := ag_in h1
        exact ⟨p, List.mem_append.2 (.inr (hin _ (List.mem_append.2 (.inl (List.mem_append.2 (.inl hp)))))), h2, .inl h3⟩
    · have h0 : 0 < Q.W.length := by omega
      refine ⟨(Q.W[i].x, Q.W[0].x), List.mem_append.2 (.inr (hin _ (List.mem_append.2 (.inr ?_)))), rfl, .inr ⟨_, List.getElem_mem h0, rfl⟩⟩
      exact List.mem_map.2 ⟨Q.W[0], List.mem_take_iff_getElem.2 ⟨0, by omega, rfl⟩, rfl⟩
theorem AllOf.mem {q : Nm → Qu} {Ns : List Nm} {A : List Ho} (h : AllOf q Ns A) (r : Ho) : r ∈ A ↔ r.n ∈ Ns ∧ (r ∈ hoQ r.n (q r.n).H ∨ r ∈ wsQ r.n (q r.n).W) := by
  have hn : ∀ n H, r ∈ hoQ n H → r.n = n := fun n H hr => by
    obtain ⟨g, -, rfl⟩ := List.mem_map.1 hr; rfl
  have wn : ∀ n W, r ∈ wsQ n W → r.n = n := fun n W hr => by
    obtain ⟨g, -, rfl⟩ := List.mem_map.1 hr; rfl
  induction h with
  | nil => simp
  | @snoc Ns L R n h hp hs ih =>
    obtain ⟨ih1, ih2⟩ := ih
    rw [List.mem_append, List.mem_append, hp.mem_iff, List.mem_append, List.mem_singleton]
    constructor
    · rintro ((h1 | h1) | h1)
      · exact ⟨.inl (ih1 h1).1, (ih1 h1).2⟩
      · have e := hn _ _ h1
        exact ⟨.inr e, .inl (by rw [e]; exact h1)⟩
      · have e := wn _ _ h1
        exact ⟨.inr e, .inr (by rw [e]; exact h1)⟩
    · rintro ⟨h1 | h1, h2⟩
      · exact .inl (.inl (ih2 ⟨h1, h2⟩))
      · rw [h1] at h2
        rcases h2 with h2 | h2
        · exact .inl (.inr h2)
        · exact .inr h2
/-- what waits in All waits -/
theorem AllOf.waits {q : Nm → Qu} {Ns : List Nm} {A : List Ho} (h : AllOf q Ns A) {r : Ho} (hr : r ∈ A) (hw : r.w ≠ 0) : waitsIn r.x (q r.n) := by
  rcases ((h.mem r).1 hr).2 with h1 | h1
  · obtain ⟨g, hg, he⟩ := List.mem_map.1 h1
    refine .inl ⟨g, hg, by rw [← he], fun e => hw (by rw [← he]; exact e)⟩
  · obtain ⟨y, hy, he⟩ := List.mem_map.1 h1
    exact .inr ⟨y, hy, by rw [← he]⟩
/-- holds of one name go together, wherever they stand -/
theorem AllOf.tog {q : Nm → Qu} (hq : ∀ n, Ok (q n)) {Ns : List Nm} {A : List Ho} (h : AllOf q Ns A) (hN : Ns.Pairwise ltN) : A.Pairwise (fun a b => a.n = b.n → a.m ≠ 0 → b.m ≠ 0 → compatL a.m b.m = true) := by
  induction h with
  | nil => exact List.Pairwise.nil
  | @snoc Ns L R n h hp hs ih =>
    obtain ⟨hN1, -, hN2⟩ := List.pairwise_append.1 hN
    have hnn : n ∉ Ns := fun hm => ltN.irrefl n (hN2 n hm n (List.mem_singleton.2 rfl))
    have hR : ∀ r ∈ R, r.n = n ∧ ∃ g ∈ (q n).H, r = ⟨n, g.x, g.m, g.w⟩ := fun r hr => by
      obtain ⟨g, hg, he⟩ := List.mem_map.1 (hp.mem_iff.1 hr)
      exact ⟨by rw [← he], g, hg, he.symm⟩
    have hW : ∀ r ∈ wsQ n (q n).W, r.m = 0 := fun r hr => by
      obtain ⟨y, hy, he⟩ := List.mem_map.1 hr
      rw [← he]
    have hL : ∀ r ∈ L, r.n ∈ Ns := fun r hr => ((h.mem r).1 hr).1
    refine List.pairwise_append.2 ⟨List.pairwise_append.2 ⟨ih hN1, ?_, fun a ha b hb e _ _ => ?_⟩, List.Pairwise.imp_of_mem (fun {a b} ha hb _ _ hm _ => absurd (hW a ha) hm) (List.pairwise_of_forall (R := fun _ _ => True) fun _ _ => trivial), fun a ha b hb _ _ hm => absurd (hW b hb) hm⟩
    · have hnd : (R.map (·.x)).Nodup := by
        have h1 : (R.map (·.x)).Perm ((hoQ n (q n).H).map (·.x)) := hp.map _
        rw [h1.nodup_iff]
        have h2 : (hoQ n (q n).H).map (·.x) = (q n).H.map (·.x) := by simp [hoQ]
        rw [h2]; exact (hq n).pre.hnd
      have h3 : R.Pairwise (fun a b => a.x ≠ b.x) := List.pairwise_map.1 hnd
      refine h3.imp_of_mem fun {a b} ha hb hab _ _ _ => ?_
      obtain ⟨-, g, hg, rfl⟩ := hR a ha
      obtain ⟨-, g', hg', rfl⟩ := hR b hb
      exact (hq n).pre.tog g hg g' hg' hab
    · exact absurd (by rw [← (hR b hb).1, ← e]; exact hL a ha) hnn
/-! ## a call of Ask, whatever it says -/
theorem la_any {w0 w : World} {t : Nat} {O : Nat → Prop} {S : LS} {N : Nat} (h : LA w0 w t O S N) (hN : N ≤ 1000) (x m : Int) (n : Nm) (hok : OkS S) : Calls Tryz.prog 8 #[.pointer (some ⟨t, 0, none⟩), .int .i64 x, .agg #[.int .i64 n.s, .string n.i], .int .i64 m] w fun e w' => ∃ r er O' S', e = .returned (.tuple #[.bool r, .int .i64 er]) ∧ LA w0 w' t O' S' (N + 1) ∧ Kept O O' w w' ∧ OkS S' := by
  have hkb : ∀ {w' : World}, Below w.heap.size w w' → Kept O O w w' := fun hb => ⟨.of_below hb, fun i hi => .inl hi⟩
  by_cases hm : m ≤ 0 ∨ 6 < m
  · refine (ask_bad t x m n w hm).mono ?_
    rintro e w' ⟨rfl, hb⟩
    exact ⟨_, _, O, S, rfl, ⟨(h.below hb).lt.mono (by omega), (h.below hb).low⟩, hkb hb, hok⟩
  · cases hx : S.wt x with
    | true =>
      refine (lt_busy h.lt x m n (by omega) (by omega) hx).mono ?_
      rintro e w' ⟨rfl, hb⟩
      exact ⟨_, _, O, S, rfl, ⟨(h.below hb).lt.mono (by omega), (h.below hb).low⟩, hkb hb, hok⟩
    | false =>
      refine (la_ask h hN x m n (by omega) (by omega) hx).mono ?_
      rintro e w' ⟨rfl, O', h1, h2⟩
      exact ⟨_, _, O', _, rfl, h1, h2, hok.ask n hx ⟨by omega, by omega⟩⟩
end
end Go.Proofs.YtileamjmhhifaaaGreat
