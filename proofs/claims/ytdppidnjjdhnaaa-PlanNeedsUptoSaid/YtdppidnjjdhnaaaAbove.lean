/-
  Layer 20 (plan): the law PlanAbove: plain Lean (what the walk over the needs keeps), and the walk.
-/
import Derived.Test.YtdppidnjjdhnaaaPure
namespace Go.Proofs.Ytdppidnjjdhnaaa
open Go.RowKit Go.Joins
set_option linter.unusedVariables false

/-- one need of the list, seen by the law: the modes of the volume and of the store behind it; none: the law says no -/
def stepB (st vol sto : Int) (n : Int × ByteArray × Int) : Option (Int × Int) :=
  if n.2.2 ≤ 0 ∨ 6 < n.2.2 then none
  else if n.1 = 0 ∧ n.2.1 = ByteArray.empty then some (joinL vol n.2.2, if st = 0 then joinL vol n.2.2 else sto)
  else if n.2.1 = ByteArray.empty ∧ n.1 = st then (if coversL vol (aboveL n.2.2) = true then some (vol, joinL sto n.2.2) else none)
  else if n.1 = st then (if coversL vol (aboveL n.2.2) = true ∧ coversL sto (aboveL n.2.2) = true then some (vol, sto) else none)
  else none

def runB (st : Int) : List (Int × ByteArray × Int) → Int × Int → Option (Int × Int)
  | [], v => some v
  | n :: r, v => (stepB st v.1 v.2 n).bind (runB st r)

theorem runB_append (st : Int) (l r : List (Int × ByteArray × Int)) (v : Int × Int) : runB st (l ++ r) v = (runB st l v).bind (runB st r) := by
  induction l generalizing v with
  | nil => rfl
  | cons n l ih =>
    simp only [List.cons_append, runB]
    cases stepB st v.1 v.2 n with
    | none => rfl
    | some u => simp [ih]

theorem endL_ne : endL ≠ ByteArray.empty := by decide

/-- the two needs above, of an item's mode 3 or 6 -/
theorem run_above3 (st : Int) : runB st (aboveN st 3) (0, 0) = some (1, 1) := by
  by_cases h : st = 0
  · subst h; rfl
  · have e : runB st (aboveN st 3) (0, 0) = (stepB st 1 0 (st, ByteArray.empty, 1)).bind (runB st []) := by simp [aboveN, runB, stepB, h]; rfl
    rw [e]
    simp [stepB, h]
    rfl
theorem run_above6 (st : Int) : runB st (aboveN st 6) (0, 0) = some (2, 2) := by
  by_cases h : st = 0
  · subst h; rfl
  · have e : runB st (aboveN st 6) (0, 0) = (stepB st 2 0 (st, ByteArray.empty, 2)).bind (runB st []) := by simp [aboveN, runB, stepB, h]; rfl
    rw [e]
    simp [stepB, h]
    rfl
theorem step3 (st : Int) (s : ByteArray) (hs : s ≠ ByteArray.empty) : stepB st 1 1 (st, s, 3) = some (1, 1) := by
  simp [stepB, hs]; decide
theorem step3' (st : Int) (s : ByteArray) : ∃ v, stepB st 1 1 (st, s, 3) = some v := by
  by_cases hs : s = ByteArray.empty
  · subst hs
    by_cases h : st = 0
    · subst h; exact ⟨_, rfl⟩
    · exact ⟨(1, 3), by simp [stepB, h]; decide⟩
  · exact ⟨_, step3 st s hs⟩
theorem step6 (st : Int) (s : ByteArray) : stepB st 2 2 (st, s, 6) = some (2, 2) ∨ stepB st 2 2 (st, s, 6) = some (6, 6) ∨ stepB st 2 2 (st, s, 6) = some (2, 6) := by
  by_cases hs : s = ByteArray.empty
  · subst hs
    by_cases h : st = 0
    · subst h; exact .inr (.inl rfl)
    · exact .inr (.inr (by simp [stepB, h]; decide))
  · exact .inl (by simp [stepB, hs]; decide)
theorem step6n (st a b : Int) (s : ByteArray) (hs : s ≠ ByteArray.empty) (hab : (a = 2 ∧ b = 2) ∨ (a = 6 ∧ b = 6) ∨ (a = 2 ∧ b = 6)) : ∃ v, stepB st a b (st, s, 6) = some v := by
  rcases hab with ⟨rfl, rfl⟩ | ⟨rfl, rfl⟩ | ⟨rfl, rfl⟩
  · exact ⟨(2, 2), by simp [stepB, hs]; decide⟩
  · exact ⟨(6, 6), by simp [stepB, hs]; decide⟩
  · exact ⟨(2, 6), by simp [stepB, hs]; decide⟩

theorem run_item3 (st : Int) (s : ByteArray) : ∃ v, runB st (itemN st s 3) (0, 0) = some v := by
  obtain ⟨v, hv⟩ := step3' st s
  exact ⟨v, by rw [itemN, runB_append, run_above3]; simp [runB, hv]⟩
theorem run_item6 (st : Int) (s : ByteArray) : ∃ v, runB st (itemN st s 6) (0, 0) = some v ∧ ((v.1 = 2 ∧ v.2 = 2) ∨ (v.1 = 6 ∧ v.2 = 6) ∨ (v.1 = 2 ∧ v.2 = 6)) := by
  rcases step6 st s with h | h | h
  · exact ⟨_, by rw [itemN, runB_append, run_above6]; simp [runB, h]; rfl, .inl ⟨rfl, rfl⟩⟩
  · exact ⟨_, by rw [itemN, runB_append, run_above6]; simp [runB, h]; rfl, .inr (.inl ⟨rfl, rfl⟩)⟩
  · exact ⟨_, by rw [itemN, runB_append, run_above6]; simp [runB, h]; rfl, .inr (.inr ⟨rfl, rfl⟩)⟩
theorem run_range (st : Int) (ks : List ByteArray) : runB st (ks.map fun k => (st, if k = ByteArray.empty then endL else k, 3)) (1, 1) = some (1, 1) := by
  induction ks with
  | nil => rfl
  | cons k ks ih =>
    have h : (if k = ByteArray.empty then endL else k) ≠ ByteArray.empty := by
      by_cases hk : k = ByteArray.empty
      · rw [if_pos hk]; exact endL_ne
      · rw [if_neg hk]; exact hk
    simp only [List.map_cons, runB, step3 st _ h, Option.bind_some, ih]
theorem nxK_ne (next : ByteArray) : nxK next 0 ≠ ByteArray.empty := by
  unfold nxK
  rw [if_pos rfl]
  by_cases h : next = ByteArray.empty
  · rw [if_pos h]; exact endL_ne
  · rw [if_neg h]; exact h

/-- the needs of every operation pass the law -/
theorem run_needs (kind st : Int) (key : ByteArray) (num : Int) (next : ByteArray) (ks : List ByteArray) : ∃ v, runB st (needsL kind st key num next ks 0) (0, 0) = some v := by
  have i3 := run_item3 st
  have i6 := fun s => (run_item6 st s).imp fun _ h => h.1
  unfold needsL
  by_cases c0 : kind = 6
  · rw [if_pos c0]
    by_cases hz : st = 0
    · subst hz; exact ⟨_, rfl⟩
    · exact ⟨_, rfl⟩
  rw [if_neg c0]
  by_cases c1 : kind = 7
  · rw [if_pos c1]
    by_cases hz : st = 0
    · subst hz; exact ⟨_, rfl⟩
    · have e : runB st [(0, ByteArray.empty, 2), (st, ByteArray.empty, 6)] (0, 0) = (stepB st 2 0 (st, ByteArray.empty, 6)).bind (runB st []) := by simp [runB, stepB, hz]; rfl
      rw [e]
      have c1 : coversL 2 (aboveL 6) = true := by decide
      exact ⟨(2, 6), by simp [stepB, hz, c1, runB]; decide⟩
  rw [if_neg c1]
  by_cases c2 : kind = 8
  · rw [if_pos c2]
    exact ⟨_, run_above6 st⟩
  rw [if_neg c2]
  by_cases c3 : kind = 9
  · rw [if_pos c3]
    exact i3 _
  rw [if_neg c3]
  by_cases c4 : kind = 10 ∨ kind = 11
  · rw [if_pos c4]
    exact i6 _
  rw [if_neg c4]
  by_cases c5 : kind = 12
  · rw [if_pos c5]
    by_cases hz : st = 0
    · subst hz; exact ⟨_, rfl⟩
    · have e : runB st [(0, ByteArray.empty, 1), (st, ByteArray.empty, 3)] (0, 0) = (stepB st 1 0 (st, ByteArray.empty, 3)).bind (runB st []) := by simp [runB, stepB, hz]; rfl
      rw [e]
      have c1 : coversL 1 (aboveL 3) = true := by decide
      exact ⟨(1, 3), by simp [stepB, hz, c1, runB]; decide⟩
  rw [if_neg c5]
  by_cases c6 : kind = 19 ∨ kind = 20
  · rw [if_pos c6]
    exact i3 _
  rw [if_neg c6]
  by_cases c7 : kind = 18 ∨ kind = 21 ∨ kind = 22 ∨ kind = 23
  · rw [if_pos c7]
    exact i6 _
  rw [if_neg c7]
  by_cases c8 : kind = 14
  · rw [if_pos c8]
    rw [if_neg (by simp)]; exact i3 _
  rw [if_neg c8]
  by_cases c9 : kind = 15 ∨ kind = 16
  · rw [if_pos c9]
    rw [if_neg (by simp)]
    by_cases hk : nxK next 0 = key
    · rw [if_pos hk]; exact i6 _
    · rw [if_neg hk]; exact i3 _
  rw [if_neg c9]
  by_cases c10 : kind = 13
  · rw [if_pos c10]
    rw [if_neg (by simp)]
    by_cases hk : nxK next 0 = key
    · rw [if_pos hk]; exact i6 _
    · rw [if_neg hk]
      obtain ⟨v, hv, hc⟩ := run_item6 st key
      obtain ⟨u, hu⟩ := step6n st v.1 v.2 (nxK next 0) (nxK_ne next) hc
      exact ⟨u, by rw [runB_append, hv]; simp [runB, hu]⟩
  rw [if_neg c10]
  by_cases c11 : kind = 17
  · rw [if_pos c11]
    rw [if_neg (by simp), runB_append, run_above3]
    exact ⟨_, run_range st ks⟩
  rw [if_neg c11]
  exact ⟨_, rfl⟩

set_option maxHeartbeats 4000000 in
set_option maxRecDepth 100000 in
theorem walk_above (kind st num a1 a2 : Int) (key val next : ByteArray) (ao : Option Addr) (kn kc : Nat) (ss : List ByteArray) (w : World) (hk : StrsAt w (.slice ao kn kc) ss) (hz : ss.length ≤ 1048576)
    (n0 : -9223372036854775808 ≤ num) (n1 : num ≤ 9223372036854775807) :
    Calls Try.prog 5 #[.agg #[.int .i64 kind, .int .i64 st, .string key, .string val, .int .i64 num, .int .i64 a1, .int .i64 a2], .string next, .slice ao kn kc] w fun e w' => e = .returned (.bool true) ∧ Below w.heap.size w w' := by
  obtain ⟨fin, hrun⟩ := run_needs kind st key num next ss
  go_enter Try.func5, Try.ntmps5
  go_wp2_with fail
  refine (awake20 _).mono ?_; rintro e w1 ⟨rfl, hb1⟩
  have g1 : w1.heap[w.heap.size]? = some (.cells #[.int .i64 kind, .int .i64 st, .string key, .string val, .int .i64 num, .int .i64 a1, .int .i64 a2] 23) := (hb1.block (w.heap.size) (by simp)).trans (blk_new _ _ _ rfl)
  have hs1 := hb1.size
  simp only [World.size_alloc] at hs1
  have hbw : Below w.heap.size w w1 := ((Below.refl _ _).alloc (Nat.le_refl _) _).trans (hb1.mono (by simp))
  have hb1' : Below (w.heap.size + 1) w1 w1 := Below.refl _ _
  clear hb1
  obtain ⟨c0, c1, c2, c3, c4, c5, c6⟩ := cell7 g1
  go_wp2_with fail
  refine (needs_any kind _ _ _ _ _ st num 0 _ _ key next _ _ ss (hk.below hbw (Nat.le_refl _)) hz n0 n1).mono ?_; rintro e w2 ⟨v2, rfl, ho2, hb2⟩
  have g2 : w2.heap[w.heap.size]? = some (.cells #[.int .i64 kind, .int .i64 st, .string key, .string val, .int .i64 num, .int .i64 a1, .int .i64 a2] 23) := (hb2.block _ (by omega)).trans g1
  have hbw2 : Below w.heap.size w w2 := hbw.trans (hb2.mono (by omega))
  have hs2 := hb2.size
  generalize needsL kind st key num next ss 0 = L at ho2 hrun
  obtain ⟨x2, cap2, rfl, -⟩ := own_slice ho2
  clear c0 c1 c2 c3 c4 c5 c6 g1 hb2 hbw hb1'
  have hll : L.length ≤ 9223372036854775807 := own_max ho2
  have HR := Lib.hid hrun
  clear hrun
  go_wp2_with fail
  go_loopw [7, 8, 21] (fun vv sv i wr => ∃ (k : Nat) (vol sto : Int), k ≤ L.length ∧ i = .int .i64 k ∧ vv = .int .i64 vol ∧ sv = .int .i64 sto ∧ runB st (L.drop k) (vol, sto) = some fin ∧
      wr.ownsRow 0 40 3 (.slice x2 L.length cap2) L.length (needC L) ∧ wr.heap[w.heap.size]? = some (.cells #[.int .i64 kind, .int .i64 st, .string key, .string val, .int .i64 num, .int .i64 a1, .int .i64 a2] 23) ∧ w.heap.size < wr.heap.size ∧ Below w.heap.size w wr) (fun _ _ i _ => L.length - (intOf i).toNat)
  case atStart => exact ⟨0, 0, 0, by omega, rfl, rfl, rfl, HR.out, ownsRow_le ho2 (Nat.zero_le _), g2, by omega, hbw2⟩
  case round =>
    obtain ⟨k, vol, sto, hk, rfl, rfl, rfl, hrun, ho, hg, hsz, hb⟩ := hrel
    clear ho2 g2 hbw2 HR hs1 hs2
    by_cases hlt : k < L.length
    · obtain ⟨g, rfl, e0, e1, e2⟩ := need_cells ho k hlt
      have hk0 : (0 : Int) ≤ (k : Int) := Int.natCast_nonneg _
      have hk1 : (k : Int) < (L.length : Int) := by omega
      rw [List.drop_eq_getElem_cons hlt] at hrun
      generalize L[k] = n at hrun e0 e1 e2
      obtain ⟨s, it, m⟩ := n
      have e5 := cell_of_block hg 1
      simp only [List.getElem?_toArray, List.getElem?_cons_succ, List.getElem?_cons_zero] at e5
      simp only [runB, stepB] at hrun
      by_cases hm : m ≤ 0 ∨ 6 < m
      · rw [if_pos hm] at hrun; cases hrun
      rw [if_neg hm] at hrun
      have hm1 : decide (m ≤ 0) = false := by simp; omega
      have hm2 : decide (6 < m) = false := by simp; omega
      have hlo : 0 < m := by omega
      have hhi : m ≤ 6 := by omega
      clear hm
      by_cases cA : s = 0 ∧ it = ByteArray.empty
      · rw [if_pos cA] at hrun
        obtain ⟨rfl, rfl⟩ := cA
        have t1 : ByteArray.empty.toList = [] := by rw [ByteArray.toList_eq]; rfl
        by_cases hs0 : st = 0
        · rw [if_pos hs0] at hrun
          have HR := Lib.hid hrun
          subst hs0
          clear hrun
          go_wp2_with (first
          | (go_at_call 9; refine (join_any _ _ _).mono ?_; rintro e w' ⟨rfl, rfl⟩)
          | (go_at_call 11; refine (above_any _ _).mono ?_; rintro e w' ⟨rfl, rfl⟩)
          | (go_at_call 10; refine (covers_any _ _ _).mono ?_; rintro e w' ⟨rfl, rfl⟩))
          go_roundw
          case rel => exact ⟨k + 1, _, _, by omega, by go_num, rfl, rfl, HR.out, ho.alloc _, blk_old hsz hg, by simp; omega, hb.alloc (by omega) _⟩
          case measure => simp [intOf]; omega
        · rw [if_neg hs0] at hrun
          have HR := Lib.hid hrun
          have b0 : (st == 0) = false := by simp [hs0]
          clear hrun hs0
          go_wp2_with (first
          | (go_at_call 9; refine (join_any _ _ _).mono ?_; rintro e w' ⟨rfl, rfl⟩)
          | (go_at_call 11; refine (above_any _ _).mono ?_; rintro e w' ⟨rfl, rfl⟩)
          | (go_at_call 10; refine (covers_any _ _ _).mono ?_; rintro e w' ⟨rfl, rfl⟩))
          go_roundw
          case rel => exact ⟨k + 1, _, _, by omega, by go_num, rfl, rfl, HR.out, ho.alloc _, blk_old hsz hg, by simp; omega, hb.alloc (by omega) _⟩
          case measure => simp [intOf]; omega
      rw [if_neg cA] at hrun
      by_cases cB : it = ByteArray.empty ∧ s = st
      · rw [if_pos cB] at hrun
        obtain ⟨rfl, rfl⟩ := cB
        have t1 : ByteArray.empty.toList = [] := by rw [ByteArray.toList_eq]; rfl
        have hs0 : ¬ s = 0 := fun h => cA ⟨h, rfl⟩
        clear cA
        by_cases hc : coversL vol (aboveL m) = true
        · rw [if_pos hc] at hrun
          have HR := Lib.hid hrun
          clear hrun
          go_wp2_with (first
          | (go_at_call 9; refine (join_any _ _ _).mono ?_; rintro e w' ⟨rfl, rfl⟩)
          | (go_at_call 11; refine (above_any _ _).mono ?_; rintro e w' ⟨rfl, rfl⟩)
          | (go_at_call 10; refine (covers_any _ _ _).mono ?_; rintro e w' ⟨rfl, rfl⟩))
          go_roundw
          case rel => exact ⟨k + 1, _, _, by omega, by go_num, rfl, rfl, HR.out, ho.alloc _, blk_old hsz hg, by simp; omega, hb.alloc (by omega) _⟩
          case measure => simp [intOf]; omega
        · rw [if_neg hc] at hrun; cases hrun
      rw [if_neg cB] at hrun
      by_cases cC : s = st
      · rw [if_pos cC] at hrun
        subst cC
        have hit : ¬ it = ByteArray.empty := fun h => cB ⟨h, rfl⟩
        have t1 : ¬ it.toList = [] := by
          intro h; exact hit (Go.WideShapes.bytes_inj (by rw [← ByteArray.toList_eq, h]; rfl))
        have t2 := sem_false hit
        clear cA cB hit
        by_cases hc : coversL vol (aboveL m) = true ∧ coversL sto (aboveL m) = true
        · rw [if_pos hc] at hrun
          obtain ⟨hc1, hc2⟩ := hc
          have HR := Lib.hid hrun
          clear hrun
          by_cases hs0 : s = 0
          · subst hs0
            go_wp2_with (first
          | (go_at_call 9; refine (join_any _ _ _).mono ?_; rintro e w' ⟨rfl, rfl⟩)
          | (go_at_call 11; refine (above_any _ _).mono ?_; rintro e w' ⟨rfl, rfl⟩)
          | (go_at_call 10; refine (covers_any _ _ _).mono ?_; rintro e w' ⟨rfl, rfl⟩))
            go_roundw
            case rel => exact ⟨k + 1, _, _, by omega, by go_num, rfl, rfl, HR.out, ho.alloc _, blk_old hsz hg, by simp; omega, hb.alloc (by omega) _⟩
            case measure => simp [intOf]; omega
          · go_wp2_with (first
          | (go_at_call 9; refine (join_any _ _ _).mono ?_; rintro e w' ⟨rfl, rfl⟩)
          | (go_at_call 11; refine (above_any _ _).mono ?_; rintro e w' ⟨rfl, rfl⟩)
          | (go_at_call 10; refine (covers_any _ _ _).mono ?_; rintro e w' ⟨rfl, rfl⟩))
            go_roundw
            case rel => exact ⟨k + 1, _, _, by omega, by go_num, rfl, rfl, HR.out, ho.alloc _, blk_old hsz hg, by simp; omega, hb.alloc (by omega) _⟩
            case measure => simp [intOf]; omega
        · rw [if_neg hc] at hrun; cases hrun
      · rw [if_neg cC] at hrun; cases hrun
    · go_wp2
      go_ret
      exact ⟨rfl, hb⟩
end Go.Proofs.Ytdppidnjjdhnaaa
