/-
  Layer 9 (locks): a law's own table; awake.
-/
import Derived.Test.YtileamjmhhifaaaLk19
namespace Go.Proofs.Ytileamjmhhifaaa
open Go.RowKit Go.Joins Go.Sort Go.Shelf
set_option linter.unusedVariables false
set_option linter.unusedSimpArgs false

/-- a table of the law's own -/
structure LA (w0 w : World) (t : Nat) (O : Nat → Prop) (S : LS) (N : Nat) : Prop where
  lt : LT w w0.heap.size t O S N
  low : Below w0.heap.size w0 w
section
variable {w0 w w' : World} {t : Nat} {O O' : Nat → Prop} {S : LS} {N : Nat}
theorem LA.below (h : LA w0 w t O S N) (hb : Below w.heap.size w w') : LA w0 w' t O S N := ⟨h.lt.below hb, h.low.trans (hb.mono h.low.size)⟩
theorem LA.alloc (h : LA w0 w t O S N) (o : Obj) : LA w0 (w.alloc o) t O S N := h.below ((Below.refl _ _).alloc (Nat.le_refl _) o)
theorem LA.kept (h : LA w0 w t O S N) {S' : LS} {N' : Nat} (h2 : LT w' w0.heap.size t O' S' N') (hk : Kept O O' w w') : LA w0 w' t O' S' N' :=
  ⟨h2, h.low.trans (hk.low (fun i hi => (h.lt.lt hi).1) h.low.size)⟩
theorem Kept.block (h : Kept O O' w w') {i : Nat} (hl : i < w.heap.size) (hn : ¬ O i) : w'.heap[i]? = w.heap[i]? := h.1.block i hl hn
theorem Kept.not (h : Kept O O' w w') {i : Nat} (hl : i < w.heap.size) (hn : ¬ O i) : ¬ O' i := fun hi => (h.2 i hi).elim hn fun h => by omega
/-- a block of the law's own beside the table -/
structure Mine (w : World) (O : Nat → Prop) (i : Nat) (o : Obj) : Prop where
  at' : w.heap[i]? = some o
  out : ¬ O i
theorem Mine.lt {i : Nat} {o : Obj} (h : Mine w O i o) : i < w.heap.size := (Array.getElem?_eq_some_iff.1 h.at').1
theorem Mine.kept {i : Nat} {o : Obj} (h : Mine w O i o) (hk : Kept O O' w w') : Mine w' O' i o := ⟨(hk.block h.lt h.out).trans h.at', hk.not h.lt h.out⟩
theorem Mine.below {i : Nat} {o : Obj} (h : Mine w O i o) (hb : Below w.heap.size w w') : Mine w' O i o := ⟨(hb.block i h.lt).trans h.at', h.out⟩
theorem LA.mine (h : LA w0 w t O S N) (o : Obj) : Mine (w.alloc o) O w.heap.size o := ⟨heap_alloc_new w o, fun hi => by have := (h.lt.lt hi).2; omega⟩
theorem la_new {w0 w : World} (h : Below w0.heap.size w0 w) : Calls Try.prog 10 #[] w fun e w' => ∃ t O, e = .returned (.pointer (some ⟨t, 0, none⟩)) ∧ LA w0 w' t O LS.empty 0 ∧ Below w.heap.size w w' ∧ ∀ i, O i → w.heap.size ≤ i := by
  refine (new_any w).mono ?_
  rintro e w' ⟨rfl, h1, h2⟩
  have hz := h.size
  refine ⟨_, _, rfl, ⟨⟨_, _, _, _, _, ⟨h1.wait, h1.names, h1.ptr, fun n hn => (by cases hn), fun n hn => (by cases hn), h1.vals, by omega, by omega, by omega, h1.ne⟩, fun n => rfl, fun k => by simp [keysM, LS.empty], Nat.le_refl _, fun n => Nat.le_refl _, fun i => Iff.rfl, by simp [LS.empty], by simp [LS.empty]⟩, h.trans (h2.mono hz)⟩, h2, fun i hi => (h1.lt hi).1⟩
theorem la_ask (h : LA w0 w t O S N) (hN : N ≤ 1000) (x m : Int) (n : Nm) (h0 : 0 < m) (h6 : m ≤ 6) (hx : S.wt x = false) : Calls Try.prog 11 #[.pointer (some ⟨t, 0, none⟩), .int .i64 x, .agg #[.int .i64 n.s, .string n.i], .int .i64 m] w fun e w' => e = .returned (.tuple #[.bool (askQ (S.q n) x m S.turn).2.1, .int .i64 0]) ∧ ∃ O', LA w0 w' t O' (askS S x n m) (N + 1) ∧ Kept O O' w w' := by
  refine Calls.mono (lt_ask h.lt hN x m n h0 h6 hx) ?_
  rintro e w' ⟨rfl, O', h1, h2⟩
  exact ⟨rfl, O', h.kept h1 h2, h2⟩
theorem la_release (h : LA w0 w t O S N) (hN : N ≤ 1000) (x : Int) : Calls Try.prog 12 #[.pointer (some ⟨t, 0, none⟩), .int .i64 x] w fun e w' => e = .returned (.tuple #[]) ∧ ∃ S' O', RelS x S S' ∧ LA w0 w' t O' S' N ∧ Kept O O' w w' := by
  refine (lt_release h.lt hN x).mono ?_
  rintro e w' ⟨rfl, S', O', h0, h1, h2⟩
  exact ⟨rfl, S', O', h0, h.kept h1 h2, h2⟩
theorem la_mode (h : LA w0 w t O S N) (x : Int) (n : Nm) : Calls Try.prog 13 #[.pointer (some ⟨t, 0, none⟩), .int .i64 x, .agg #[.int .i64 n.s, .string n.i]] w fun e w' => e = .returned (.int .i64 (modeL x (S.q n).H)) ∧ Below w.heap.size w w' := lt_mode h.lt x n
end

/-! ## awake -/
def n1 : Nm := ⟨1, ⟨#[]⟩⟩
def q3 : Qu := ⟨[⟨1, 3, 0, 0⟩], [⟨2, 6⟩, ⟨3, 3⟩]⟩
def s3 : LS := askS (askS (askS LS.empty 1 n1 3) 2 n1 6) 3 n1 3
theorem s3_q (n : Nm) : s3.q n = if n = n1 then q3 else ⟨[], []⟩ := by
  by_cases h : n = n1
  · subst h; rw [if_pos rfl]; decide
  · rw [if_neg h]
    simp only [s3, askS, if_neg h]
    rfl
theorem s3_wt : s3.wt 3 = true := by decide
theorem q3_arcs : arcsQ q3 = [(2, 1), (3, 2)] := by decide
theorem q3_gives : Gives (remQ 1 q3) [2] ⟨[⟨2, 6, 0, 0⟩], [⟨3, 3⟩]⟩ :=
  ⟨[], [2], _, .stop (by decide), .step (Q1 := ⟨[⟨2, 6, 0, 0⟩], [⟨3, 3⟩]⟩) (by decide) (.stop (by decide)), rfl⟩
theorem q3_rel {xs : List Int} {Q' : Qu} (h : RelQ 1 q3 xs Q') : xs = [2] ∧ Q' = ⟨[⟨2, 6, 0, 0⟩], [⟨3, 3⟩]⟩ :=
  h.det (.inl ⟨by decide, q3_gives⟩)
theorem RelQ.nil {x : Int} {xs : List Int} {Q' : Qu} (h : RelQ x ⟨[], []⟩ xs Q') : xs = [] ∧ Q' = ⟨[], []⟩ := h.det (RelQ.empty x)
theorem s3_rel {S' : LS} (h : RelS 1 s3 S') : (S'.q n1).H = [⟨2, 6, 0, 0⟩] ∧ S'.wt 3 = true := by
  obtain ⟨-, ys, h1, h2, h3⟩ := h
  have hn : ∀ n xs, RelQ 1 (s3.q n) xs (S'.q n) → ∀ k ∈ xs, k = 2 := fun n xs hr k hk => by
    rw [s3_q] at hr
    by_cases e : n = n1
    · rw [if_pos e] at hr
      rw [(q3_rel hr).1] at hk
      exact List.mem_singleton.1 hk
    · rw [if_neg e] at hr
      rw [hr.nil.1] at hk; cases hk
  obtain ⟨xs, hr, -⟩ := h1 n1
  rw [s3_q, if_pos rfl] at hr
  refine ⟨by rw [(q3_rel hr).2], (h3 3).2 ⟨s3_wt, by decide, fun hk => ?_⟩⟩
  obtain ⟨n, zs, hr2, hm⟩ := h2 3 hk
  have := hn n zs hr2 3 hm
  omega

set_option maxHeartbeats 2000000 in
set_option maxRecDepth 100000 in
theorem awake9 (w : World) : Calls Try.prog 9 #[] w fun e w' => e = .returned (.bool true) ∧ Below w.heap.size w w' := by
  have HNew := Lib.hid (la_new (Below.refl w.heap.size w))
  go_enter Try.func9, Try.ntmps9
  go_wp2_with fail
  refine HNew.out.mono ?_
  rintro e w1 ⟨t, O1, rfl, l1, -, -⟩
  have HL2 := Lib.hid (l1.alloc (.cells #[.int .i64 1, .string ⟨#[]⟩] 24))
  have HM2 := Lib.hid (l1.mine (.cells #[.int .i64 1, .string ⟨#[]⟩] 24))
  clear l1 HNew
  go_upto_region 3 with fail
  generalize w1.heap.size = nx at *
  generalize w1.alloc (.cells #[.int .i64 1, .string ⟨#[]⟩] 24) = w2 at *
  have c0 : w2.cell? ⟨nx, 0, none⟩ = some (.int .i64 1) := (cell_of_block HM2.out.at' 0).trans rfl
  have c1 : w2.cell? ⟨nx, 1, none⟩ = some (.string ⟨#[]⟩) := (cell_of_block HM2.out.at' 1).trans rfl
  have hl2 := HM2.out.lt
  have HA : Hid (Calls Try.prog 11 #[.pointer (some ⟨t, 0, none⟩), .int .i64 1, .agg #[.int .i64 1, .string ⟨#[]⟩], .int .i64 3] w2 fun e w' => e = .returned (.tuple #[.bool true, .int .i64 0]) ∧ ∃ O', LA w w' t O' (askS LS.empty 1 n1 3) 1 ∧ Kept O1 O' w2 w') := Lib.hid (la_ask HL2.out (by omega) 1 3 n1 (by omega) (by omega) rfl)
  go_wp2_with fail
  refine HA.out.mono ?_
  rintro e w3 ⟨rfl, O3, l3, k3⟩
  have HL3 := Lib.hid l3
  have HM3 := Lib.hid (HM2.out.kept k3)
  clear c0 c1 hl2 HL2 HM2 l3 k3 HA
  have c0 : w3.cell? ⟨nx, 0, none⟩ = some (.int .i64 1) := (cell_of_block HM3.out.at' 0).trans rfl
  have c1 : w3.cell? ⟨nx, 1, none⟩ = some (.string ⟨#[]⟩) := (cell_of_block HM3.out.at' 1).trans rfl
  have hl2 := HM3.out.lt
  have HA : Hid (Calls Try.prog 11 #[.pointer (some ⟨t, 0, none⟩), .int .i64 2, .agg #[.int .i64 1, .string ⟨#[]⟩], .int .i64 6] w3 fun e w' => e = .returned (.tuple #[.bool false, .int .i64 0]) ∧ ∃ O', LA w w' t O' (askS (askS LS.empty 1 n1 3) 2 n1 6) 2 ∧ Kept O3 O' w3 w') := Lib.hid (la_ask HL3.out (by omega) 2 6 n1 (by omega) (by omega) rfl)
  go_wp2_with fail
  refine HA.out.mono ?_
  rintro e w4 ⟨rfl, O4, l4, k4⟩
  have HL4 := Lib.hid l4
  have HM4 := Lib.hid (HM3.out.kept k4)
  clear c0 c1 hl2 HL3 HM3 l4 k4 HA
  have c0 : w4.cell? ⟨nx, 0, none⟩ = some (.int .i64 1) := (cell_of_block HM4.out.at' 0).trans rfl
  have c1 : w4.cell? ⟨nx, 1, none⟩ = some (.string ⟨#[]⟩) := (cell_of_block HM4.out.at' 1).trans rfl
  have hl2 := HM4.out.lt
  have HA : Hid (Calls Try.prog 11 #[.pointer (some ⟨t, 0, none⟩), .int .i64 3, .agg #[.int .i64 1, .string ⟨#[]⟩], .int .i64 3] w4 fun e w' => e = .returned (.tuple #[.bool false, .int .i64 0]) ∧ ∃ O', LA w w' t O' s3 3 ∧ Kept O4 O' w4 w') := Lib.hid (la_ask HL4.out (by omega) 3 3 n1 (by omega) (by omega) rfl)
  go_wp2_with fail
  refine HA.out.mono ?_
  rintro e w5 ⟨rfl, O5, l5, k5⟩
  have HL5 := Lib.hid l5
  have HM5 := Lib.hid (HM4.out.kept k5)
  clear c0 c1 hl2 HL4 HM4 k5 HA
  have HAr := Lib.hid (lt_arcs l5.lt (by omega))
  clear l5
  go_wp2_with fail
  refine HAr.out.mono ?_
  rintro e w6 ⟨v6, A, rfl, ho6, hs6, hm6, hb6⟩
  have hA2 : A = [(2, 1), (3, 2)] := rising_ext hs6 (by simp [ltP]) fun p => by
    rw [hm6 p]
    constructor
    · rintro ⟨n, hn⟩
      rw [s3_q] at hn
      by_cases e : n = n1
      · rw [if_pos e, q3_arcs] at hn; exact hn
      · rw [if_neg e] at hn; cases hn
    · intro hp
      exact ⟨n1, by rw [s3_q, if_pos rfl, q3_arcs]; exact hp⟩
  subst hA2
  obtain ⟨a6, c6, rfl, -, -, -⟩ := own_cap ho6
  have HL6 := Lib.hid (HL5.out.below hb6)
  have HM6 := Lib.hid (HM5.out.below hb6)
  have HRl := Lib.hid (la_release HL6.out (by omega) 1)
  clear HL5 HM5 ho6 hs6 hm6 hb6 HAr
  go_wp2_with fail
  refine HRl.out.mono ?_
  rintro e w7 ⟨rfl, S7, O7, hr, l7, k7⟩
  obtain ⟨e1, e2⟩ := s3_rel hr
  have HL7 := Lib.hid l7
  have HM7 := Lib.hid (HM6.out.kept k7)
  have HE1 := Lib.hid e1
  have HE2 := Lib.hid e2
  clear hr l7 k7 e1 e2 HL6 HM6 HRl
  have c0 : w7.cell? ⟨nx, 0, none⟩ = some (.int .i64 1) := (cell_of_block HM7.out.at' 0).trans rfl
  have c1 : w7.cell? ⟨nx, 1, none⟩ = some (.string ⟨#[]⟩) := (cell_of_block HM7.out.at' 1).trans rfl
  have hl2 := HM7.out.lt
  have HMo : Hid (Calls Try.prog 13 #[.pointer (some ⟨t, 0, none⟩), .int .i64 2, .agg #[.int .i64 1, .string ⟨#[]⟩]] w7 fun e w' => e = .returned (.int .i64 6) ∧ Below w7.heap.size w7 w') := Lib.hid (by
    have h := la_mode HL7.out 2 n1
    rw [HE1.out] at h
    exact h)
  go_wp2_with fail
  refine HMo.out.mono ?_
  rintro e w8 ⟨rfl, hb8⟩
  have HL8 := Lib.hid (HL7.out.below hb8)
  have HWa : Hid (Calls Try.prog 14 #[.pointer (some ⟨t, 0, none⟩), .int .i64 3] w8 fun e w' => e = .returned (.bool true) ∧ Below w8.heap.size w8 w') := Lib.hid (by
    have h := lt_waiting HL8.out.lt 3
    rw [HE2.out] at h
    exact h)
  clear hb8 c0 c1 hl2 HMo HL7 HM7
  go_wp2_with fail
  refine HWa.out.mono ?_
  rintro e w9 ⟨rfl, hb9⟩
  have HL9 := Lib.hid (HL8.out.below hb9)
  clear hb9
  go_wp2_with fail
  go_ret
  exact ⟨rfl, HL9.out.low⟩
end Go.Proofs.Ytileamjmhhifaaa
