/-
  Layer 9 (locks): the document's table: the wish that came first; Mode.
-/
import Derived.Test.YtileamjmhhifaaaGreatLd3
namespace Go.Proofs.YtileamjmhhifaaaGreat
open Go.RowKit Go.Joins Go.Sort Go.Shelf
set_option linter.unusedVariables false
set_option linter.unusedSimpArgs false

theorem idxD_cases (p : Dr → Bool) (R : List Dr) : (idxD p R = -1 ∧ ∀ r ∈ R, ¬ p r = true) ∨ ∃ i, ∃ h : i < R.length, idxD p R = (i : Int) ∧ p R[i] = true := by
  unfold idxD
  cases hf : R.findIdx? p with
  | none =>
    rw [List.findIdx?_eq_none_iff] at hf
    exact .inl ⟨rfl, fun r hr => by rw [hf r hr]; simp⟩
  | some i =>
    rw [List.findIdx?_eq_some_iff_getElem] at hf
    obtain ⟨h1, h2, -⟩ := hf
    exact .inr ⟨i, h1, rfl, h2⟩
theorem holdP_iff {x : Int} {n : Nm} {r : Dr} : holdP x n r = true ↔ r.x = x ∧ r.n = n ∧ r.m ≠ 0 := by
  unfold holdP
  rw [Bool.and_eq_true, Bool.and_eq_true, Nm.eqB_iff, beq_iff_eq, bne_iff_ne]
/-- the best among the first i rows that are like that -/
def BestD (p : Dr → Prop) (R : List Dr) (i : Nat) (k : Int) : Prop :=
  (k = -1 ∧ ∀ j, j < i → ∀ h : j < R.length, ¬ p R[j]) ∨ ∃ b, ∃ hb : b < R.length, b < i ∧ k = (b : Int) ∧ p R[b] ∧ ∀ j, j < i → ∀ h : j < R.length, p R[j] → R[b].t ≤ R[j].t
theorem BestD.skip {p : Dr → Prop} {R : List Dr} {i : Nat} {k : Int} (h : BestD p R i k) (hi : i < R.length) (hn : ¬ p R[i]) : BestD p R (i + 1) k := by
  have hj : ∀ j, j < i + 1 → j < i ∨ j = i := fun j h => by omega
  rcases h with ⟨rfl, h⟩ | ⟨b, hb, h1, rfl, h2, h3⟩
  · refine .inl ⟨rfl, fun j h1 h2 => ?_⟩
    rcases hj j h1 with e | e
    · exact h j e h2
    · subst e; exact hn
  · refine .inr ⟨b, hb, by omega, rfl, h2, fun j h4 h5 h6 => ?_⟩
    rcases hj j h4 with e | e
    · exact h3 j e h5 h6
    · subst e; exact absurd h6 hn
theorem BestD.take {p : Dr → Prop} {R : List Dr} {i : Nat} {k : Int} (h : BestD p R i k) (hi : i < R.length) (hp : p R[i]) (hk : k < 0 ∨ ∃ b, ∃ hb : b < R.length, k = (b : Int) ∧ R[i].t < R[b].t) : BestD p R (i + 1) (i : Int) := by
  have hj : ∀ j, j < i + 1 → j < i ∨ j = i := fun j h => by omega
  refine .inr ⟨i, hi, by omega, rfl, hp, fun j h4 h5 h6 => ?_⟩
  rcases hj j h4 with e | e
  · rcases h with ⟨rfl, h⟩ | ⟨b, hb, h1, rfl, h2, h3⟩
    · exact absurd h6 (h j e h5)
    · rcases hk with hk | ⟨b', hb', e1, e2⟩
      · omega
      · have : b = b' := by omega
        subst this
        have := h3 j e h5 h6
        omega
  · subst e; exact Int.le_refl _
theorem BestD.keep {p : Dr → Prop} {R : List Dr} {i b : Nat} (h : BestD p R i (b : Int)) (hi : i < R.length) (hb : b < R.length) (hk : ¬ R[i].t < R[b].t) : BestD p R (i + 1) (b : Int) := by
  have hj : ∀ j, j < i + 1 → j < i ∨ j = i := fun j h => by omega
  rcases h with ⟨e, h⟩ | ⟨b', hb', h1, e, h2, h3⟩
  · omega
  · have : b = b' := by omega
    subst this
    refine .inr ⟨b, hb, by omega, rfl, h2, fun j h4 h5 h6 => ?_⟩
    rcases hj j h4 with e | e
    · exact h3 j e h5 h6
    · subst e; omega
def wishP (n : Nm) (r : Dr) : Prop := r.n = n ∧ r.m = 0
section
variable {w : World} {B tb : Nat} {rv : Value} {R : List Dr} {T : Int}
set_option maxHeartbeats 8000000 in
set_option maxRecDepth 100000 in
theorem dfirst_any (h : DAt w B tb rv R T) (n : Nm) :
    Calls Tryz.prog 33 #[.pointer (some ⟨tb, 0, none⟩), .agg #[.int .i64 n.s, .string n.i]] w fun e w' => ∃ k, e = .returned (.int .i64 k) ∧ BestD (wishP n) R R.length k ∧ Gr w w' := by
  obtain ⟨a, c, rfl, ha⟩ := h.form
  have hb0 : Below w.heap.size w (w.alloc (.cells #[.int .i64 n.s, .string n.i] 31)) := (Below.refl _ _).alloc (Nat.le_refl _) _
  have hn0 := heap_alloc_new w (.cells #[.int .i64 n.s, .string n.i] 31)
  have H1 := Lib.hid (h.below hb0)
  have HB0 : Hid (Gr w (w.alloc (.cells #[.int .i64 n.s, .string n.i] 31))) := Lib.hid ((Gr.refl w).alloc _)
  have HN0 := Lib.hid hn0
  have hlen := h.len
  have htb0 := (Array.getElem?_eq_some_iff.1 h.at_).1
  have hsz0 : (w.alloc (.cells #[.int .i64 n.s, .string n.i] 31)).heap.size = w.heap.size + 1 := World.size_alloc _ _
  clear h hb0 hn0
  go_enter Tryz.func33, Tryz.ntmps33
  go_wp2_with fail
  generalize hw1 : w.alloc (.cells #[.int .i64 n.s, .string n.i] 31) = w1 at *
  go_loopw [5, 6] (fun vb v wr => ∃ (i : Nat) (k : Int), i ≤ R.length ∧ v = .int .i64 i ∧ vb = .int .i64 k ∧ Gr w1 wr ∧ BestD (wishP n) R i k) (fun _ v _ => R.length - (intOf v).toNat)
  case atStart => exact ⟨0, -1, by omega, rfl, rfl, Gr.refl _, .inl ⟨rfl, fun j hj => by omega⟩⟩
  case round =>
    obtain ⟨i, k, hi, rfl, rfl, hbw, hbest⟩ := hrel
    obtain ⟨wo, rfl⟩ : ∃ wo : World, wo = wr := ⟨_, rfl⟩
    have HD := Lib.hid (H1.out.below hbw.below)
    have c0 := HD.out.hd
    have BW := Lib.hid (HB0.out.trans hbw)
    have hnx := (hbw.below.block w.heap.size (by omega)).trans HN0.out
    have n0 : wo.cell? ⟨w.heap.size, 0, none⟩ = some (.int .i64 n.s) := (cell_of_block hnx 0).trans rfl
    have n1 : wo.cell? ⟨w.heap.size, 1, none⟩ = some (.string n.i) := (cell_of_block hnx 1).trans rfl
    have hz1 := hbw.below.size
    have hlt1 : w.heap.size < wo.heap.size := by omega
    by_cases hlt : i < R.length
    · obtain ⟨g, rfl, hBg, hgl⟩ := ha (by omega)
      have hgl2 : g < wo.heap.size := by omega
      have htl2 : tb < wo.heap.size := by omega
      have hik : (i : Int) < (R.length : Int) := by omega
      have hi0 : (0 : Int) ≤ (i : Int) := by omega
      have k0 := HD.out.cell i 0 hlt (.int .i64 R[i].n.s) rfl
      have k1 := HD.out.cell i 1 hlt (.string R[i].n.i) rfl
      have k2 := HD.out.cell i 2 hlt (.int .i64 R[i].x) rfl
      have k3 := HD.out.cell i 3 hlt (.int .i64 R[i].m) rfl
      have k4 := HD.out.cell i 4 hlt (.int .i64 R[i].w) rfl
      have k5 := HD.out.cell i 5 hlt (.int .i64 R[i].t) rfl
      simp only [Nat.add_zero] at k0
      have heq := nm_eqv R[i].n n
      have hskip := fun (h : ¬ wishP n (R[i]'hlt)) => hbest.skip hlt h
      have htake := fun (h : wishP n (R[i]'hlt)) => hbest.take hlt h
      have hkeep := fun (b : Nat) (hb : b < R.length) (e : k = (b : Int)) (h : ¬ R[i].t < R[b].t) => BestD.keep (p := wishP n) (e ▸ hbest) hlt hb h
      have HB2 : Hid (Gr w1 (wo.alloc (.cells R[i].cs 69))) := Lib.hid (hbw.alloc _)
      have hcase : k = -1 ∨ ∃ b, ∃ hb : b < R.length, k = (b : Int) := by
        rcases hbest with ⟨e, -⟩ | ⟨b, hb, -, e, -⟩
        · exact .inl e
        · exact .inr ⟨b, hb, e⟩
      clear hnx hbw hbest
      generalize R[i] = r at *
      obtain ⟨⟨rs, ri⟩, rx, rm, rw', rt⟩ := r
      simp only [Dr.cs, wishP] at k0 k1 k2 k3 k4 k5 heq HB2 hskip htake hkeep
      have hiff : Nm.eqB ⟨rs, ri⟩ n = true ↔ (⟨rs, ri⟩ : Nm) = n := Nm.eqB_iff
      cases e2 : Nm.eqB ⟨rs, ri⟩ n with
      | false =>
        rw [e2] at heq hiff
        have HN := Lib.hid (hskip fun h => by have := hiff.2 h.1; cases this)
        clear hskip htake hkeep e2 hiff hcase
        go_wp2_with fail
        go_quiet (fail)
        go_wp2_with fail
        exact ⟨⟨i + 1, k, by omega, by go_num, rfl, HB2.out.drewN _, HN.out⟩, by simp [intOf]; omega⟩
      | true =>
        rw [e2] at heq hiff
        by_cases e3 : rm = 0
        · rcases hcase with rfl | ⟨b, hb, rfl⟩
          · subst e3
            have HN := Lib.hid (htake ⟨hiff.1 rfl, rfl⟩ (.inl (by omega)))
            clear hskip htake hkeep e2 hiff
            go_wp2_with fail
            go_quiet (fail)
            go_wp2_with fail
            exact ⟨⟨i + 1, (i : Int), by omega, by go_num, rfl, HB2.out.drewN _, HN.out⟩, by simp [intOf]; omega⟩
          · have kb5 := HD.out.cell b 5 hb (.int .i64 R[b].t) rfl
            have hbk : (b : Int) < (R.length : Int) := by omega
            have hb0 : (0 : Int) ≤ (b : Int) := by omega
            have hbn : decide ((b : Int) < 0) = false := by first | (simp; done) | (simp; omega)
            subst e3
            by_cases e5 : rt < R[b].t
            · have HN := Lib.hid (htake ⟨hiff.1 rfl, rfl⟩ (.inr ⟨b, hb, rfl, e5⟩))
              have e6 : decide (rt < R[b].t) = true := by simpa using e5
              generalize R[b].t = bt at *
              clear hskip htake hkeep e2 hiff e5
              go_wp2_with fail
              go_quiet (fail)
              go_wp2_with fail
              exact ⟨⟨i + 1, (i : Int), by omega, by go_num, rfl, HB2.out.drewN _, HN.out⟩, by simp [intOf]; omega⟩
            · have HN := Lib.hid (hkeep b hb rfl e5)
              have e6 : decide (rt < R[b].t) = false := by simpa using e5
              generalize R[b].t = bt at *
              clear hskip htake hkeep e2 hiff e5
              go_wp2_with fail
              go_quiet (fail)
              go_wp2_with fail
              exact ⟨⟨i + 1, (b : Int), by omega, by go_num, rfl, HB2.out.drewN _, HN.out⟩, by simp [intOf]; omega⟩
        · have e4 : (rm == 0) = false := by simpa using e3
          have HN := Lib.hid (hskip fun h => e3 h.2)
          clear hskip htake hkeep e2 hiff hcase e3
          go_wp2_with fail
          go_quiet (fail)
          go_wp2_with fail
          exact ⟨⟨i + 1, k, by omega, by go_num, rfl, HB2.out.drewN _, HN.out⟩, by simp [intOf]; omega⟩
    · have hie : i = R.length := by omega
      subst hie
      have HN := Lib.hid hbest
      clear hnx hbest
      go_wp2_with fail
      go_ret
      exact ⟨k, rfl, HN.out, BW.out⟩
set_option maxHeartbeats 2000000 in
theorem dmode_any (h : DAt w B tb rv R T) (x : Int) (n : Nm) :
    Calls Tryz.prog 11 #[.pointer (some ⟨tb, 0, none⟩), .int .i64 x, .agg #[.int .i64 n.s, .string n.i]] w fun e w' => ∃ m, e = .returned (.int .i64 m) ∧ Gr w w' ∧ ((m = 0 ∧ ∀ r ∈ R, ¬ (r.x = x ∧ r.n = n ∧ r.m ≠ 0)) ∨ ∃ r ∈ R, r.x = x ∧ r.n = n ∧ r.m ≠ 0 ∧ m = r.m) := by
  obtain ⟨a, c, rfl, ha⟩ := h.form
  have hb0 : Below w.heap.size w (w.alloc (.cells #[.int .i64 n.s, .string n.i] 31)) := (Below.refl _ _).alloc (Nat.le_refl _) _
  have HH := Lib.hid (dhold_any (h.below hb0) x n)
  have HD := Lib.hid (h.below hb0)
  have HB0 : Hid (Gr w (w.alloc (.cells #[.int .i64 n.s, .string n.i] 31))) := Lib.hid ((Gr.refl w).alloc _)
  clear h hb0
  rcases idxD_cases (holdP x n) R with ⟨e, hno⟩ | ⟨i, hi, e, hp⟩
  · rw [e] at HH
    have HN : Hid (∀ r ∈ R, ¬ (r.x = x ∧ r.n = n ∧ r.m ≠ 0)) := Lib.hid fun r hr h => hno r hr (holdP_iff.2 h)
    clear e hno
    go_enter Tryz.func11, Tryz.ntmps11
    go_wp2_with fail
    with_reducible refine HH.out.mono ?_; rintro e w1 ⟨rfl, hb1⟩
    have B1 := Lib.hid (HB0.out.trans hb1)
    clear hb1
    go_wp2_with fail
    go_ret
    exact ⟨0, rfl, B1.out, .inl ⟨rfl, HN.out⟩⟩
  · rw [e] at HH
    obtain ⟨g, rfl, hBg, hgl⟩ := ha (by omega)
    have HN : Hid (∃ r ∈ R, r.x = x ∧ r.n = n ∧ r.m ≠ 0 ∧ R[i].m = r.m) := Lib.hid ⟨R[i], List.getElem_mem hi, (holdP_iff.1 hp).1, (holdP_iff.1 hp).2.1, (holdP_iff.1 hp).2.2, rfl⟩
    have hik : (i : Int) < (R.length : Int) := by omega
    have hi0 : (0 : Int) ≤ (i : Int) := by omega
    have hin : decide ((i : Int) < 0) = false := by first | (simp; done) | (simp; omega)
    have hk := fun W (hW : Below (w.alloc (.cells #[.int .i64 n.s, .string n.i] 31)).heap.size (w.alloc (.cells #[.int .i64 n.s, .string n.i] 31)) W) => (HD.out.below hW).cell i 3 hi (.int .i64 R[i].m) rfl
    have HK := Lib.hid hk
    generalize R[i].m = rm at *
    clear e hp hk
    go_enter Tryz.func11, Tryz.ntmps11
    go_wp2_with fail
    with_reducible refine HH.out.mono ?_; rintro e w1 ⟨rfl, hb1⟩
    have B1 := Lib.hid (HB0.out.trans hb1)
    have k3 := HK.out _ hb1.below
    have c0 := (HD.out.below hb1.below).hd
    clear hb1
    go_wp2_with fail
    go_ret
    exact ⟨rm, rfl, B1.out, .inr HN.out⟩
end
end Go.Proofs.YtileamjmhhifaaaGreat
