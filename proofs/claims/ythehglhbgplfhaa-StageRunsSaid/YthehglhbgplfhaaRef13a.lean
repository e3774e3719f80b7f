/-
  The document's answer for layers 4 and 13: Right, and the calls of its shelf.
-/
import Derived.Test.YthehglhbgplfhaaOver2
namespace Go.Proofs.Ythehglhbgplfhaa
open Go.RowKit Go.Joins
set_option linter.unusedVariables false
set_option linter.unusedSimpArgs false

theorem size_none {d : ByteArray} (h : d.toList.isEmpty = true) : d.size = 0 := by
  by_cases e : d = ByteArray.empty
  · subst e; rfl
  · have := sem_f e; rw [h] at this; cases this
theorem size_some {d : ByteArray} (h : d.toList.isEmpty = false) : 0 < d.size := by
  cases hs : d.size with
  | zero =>
    have hd : d.data = #[] := Array.eq_empty_of_size_eq_zero hs
    have : d = ByteArray.empty := by cases d; cases hd; rfl
    subst this
    have e : ByteArray.empty.toList.isEmpty = true := by rw [ByteArray.toList_eq]; rfl
    rw [e] at h; cases h
  | succ n => omega

set_option maxHeartbeats 4000000 in
set_option maxRecDepth 100000 in
theorem right_any (p : Pg) (w : World) :
    Calls Try.prog 51 #[p.v] w fun e w' => e = .returned (.bool (okPg p)) ∧ Below w.heap.size w w' := by
  by_cases hH : okH p = true
  · have e0 : okPg p = okCs p 0 := by simp [okPg, hH]
    rw [e0]
    clear e0
    simp only [okH, Bool.and_eq_true, decide_eq_true_eq] at hH
    obtain ⟨⟨⟨⟨⟨⟨⟨k1, k2⟩, l1⟩, l2⟩, s1⟩, s2⟩, n1⟩, n2⟩ := hH
    go_enter Try.func51, Try.ntmps51
    go_wp2_with fail
    clear k1 k2 l1 l2 s1 s2 n1 n2
    go_loopw [3] (fun i wr => ∃ k : Nat, k ≤ 6 ∧ i = .int .i64 k ∧ okCs p 0 = okCs p k ∧ Below w.heap.size w wr ∧ rowAt wr w.heap.size = some p.cs ∧ w.heap.size < wr.heap.size) (fun i wr => 6 - (intOf i).toNat)
    case atStart => exact ⟨0, by omega, rfl, rfl, (Below.refl _ _).alloc (Nat.le_refl _) _, rowAt_at _ _ _ _ rfl, by simp⟩
    case round =>
      obtain ⟨k, hk, rfl, hok, hb, hrow, hlt'⟩ := hrel
      have HO := Lib.hid hok
      have hsz := hb.size
      clear hok
      by_cases hlt : k < 6
      · have ca := (cell_row hrow (4 + k * 2)).trans (cs_a p k hlt)
        have cd := (cell_row hrow (4 + k * 2 + 1)).trans (cs_d p k hlt)
        have hst := okCs_step p k hlt
        have HS := Lib.hid hst
        have hk6 : (k : Int) < 6 := by omega
        have KR := Lib.hid (fun o : Obj => (rowAt_past wr o _ hlt').trans hrow)
        clear hst hrow
        generalize p.a k = a at *
        generalize p.d k = d at *
        cases hC : okC a d
        · have hC0 := hC
          have HC := Lib.hid hC0
          clear hC0
          have bad : a < 0 ∨ (0 ≤ a ∧ 2 < a) ∨ (0 ≤ a ∧ a ≤ 2 ∧ 34 < d.size) ∨ (a = 0 ∧ d.size ≤ 34 ∧ 0 < d.size) := by
            by_cases q1 : a < 0
            · exact .inl q1
            by_cases q2 : 2 < a
            · exact .inr (.inl ⟨by omega, q2⟩)
            by_cases q3 : 34 < d.size
            · exact .inr (.inr (.inl ⟨by omega, by omega, q3⟩))
            have p1 : decide (0 ≤ a) = true := by simp; omega
            have p2 : decide (a ≤ 2) = true := by simp; omega
            have p3 : decide (d.size ≤ 34) = true := by simp; omega
            simp only [okC, p1, p2, p3, Bool.true_and, Bool.or_eq_false_iff, Bool.not_eq_false', beq_iff_eq] at hC
            exact .inr (.inr (.inr ⟨hC.1, by omega, size_some hC.2⟩))
          clear hC
          rcases bad with q | ⟨q, q2⟩ | ⟨q, q2, q3⟩ | ⟨q, q2, q3⟩
          · go_wp2
            go_ret
            exact ⟨by rw [HO.out, HS.out, HC.out]; rfl, hb.alloc hsz _⟩
          · go_wp2
            go_ret
            exact ⟨by rw [HO.out, HS.out, HC.out]; rfl, hb.alloc hsz _⟩
          · go_wp2
            all_goals go_ret
            all_goals exact ⟨by rw [HO.out, HS.out, HC.out]; rfl, hb.alloc hsz _⟩
          · subst q
            go_wp2
            go_ret
            exact ⟨by rw [HO.out, HS.out, HC.out]; rfl, hb.alloc hsz _⟩
        · have HC := Lib.hid hC
          simp only [okC, Bool.and_eq_true, decide_eq_true_eq, Bool.or_eq_true, Bool.not_eq_true'] at hC
          obtain ⟨⟨⟨a1, a2⟩, d1⟩, hz⟩ := hC
          by_cases hz0 : a = 0
          · subst hz0
            have hz2 : d.toList.isEmpty = true := by simpa using hz
            have hz3 : d.size = 0 := size_none hz2
            clear hz hz2
            go_wp2
            go_roundw
            case rel => exact ⟨k + 1, by omega, by go_num, by rw [HO.out, HS.out, HC.out]; rfl, hb.alloc hsz _, KR.out _, by simp; omega⟩
            case measure => simp [intOf]; omega
          · have hz1 : (a == 0) = false := by simp [hz0]
            clear hz hz0
            go_wp2
            go_roundw
            case rel => exact ⟨k + 1, by omega, by go_num, by rw [HO.out, HS.out, HC.out]; rfl, hb.alloc hsz _, KR.out _, by simp; omega⟩
            case measure => simp [intOf]; omega
      · have hk6 : (6 : Int) ≤ (k : Int) := by omega
        have hk7 : k = 6 := by omega
        have e6 : okCs p k = true := by rw [hk7]; rfl
        clear hk7
        go_wp2
        go_ret
        exact ⟨by rw [HO.out, e6]; rfl, hb⟩
  · have e0 : okPg p = false := by simp [okPg, hH]
    rw [e0]
    clear e0
    have bad : p.k < 0 ∨ (0 ≤ p.k ∧ 4 < p.k) ∨ (0 ≤ p.k ∧ p.k ≤ 4 ∧ p.l < 0) ∨ (0 ≤ p.k ∧ p.k ≤ 4 ∧ 0 ≤ p.l ∧ 255 < p.l) ∨ (0 ≤ p.k ∧ p.k ≤ 4 ∧ 0 ≤ p.l ∧ p.l ≤ 255 ∧ p.s < 0) ∨ (0 ≤ p.k ∧ p.k ≤ 4 ∧ 0 ≤ p.l ∧ p.l ≤ 255 ∧ 0 ≤ p.s ∧ 65535 < p.s) ∨
        (0 ≤ p.k ∧ p.k ≤ 4 ∧ 0 ≤ p.l ∧ p.l ≤ 255 ∧ 0 ≤ p.s ∧ p.s ≤ 65535 ∧ p.n < 0) ∨ (0 ≤ p.k ∧ p.k ≤ 4 ∧ 0 ≤ p.l ∧ p.l ≤ 255 ∧ 0 ≤ p.s ∧ p.s ≤ 65535 ∧ 0 ≤ p.n ∧ 1023 < p.n) := by
      simp only [okH, Bool.and_eq_true, decide_eq_true_eq] at hH
      omega
    clear hH
    rcases bad with q | ⟨q, q1⟩ | ⟨q, q1, q2⟩ | ⟨q, q1, q2, q3⟩ | ⟨q, q1, q2, q3, q4⟩ | ⟨q, q1, q2, q3, q4, q5⟩ | ⟨q, q1, q2, q3, q4, q5, q6⟩ | ⟨q, q1, q2, q3, q4, q5, q6, q7⟩
    all_goals
      go_enter Try.func51, Try.ntmps51
      go_wp2
      go_ret
      exact ⟨rfl, (Below.refl _ _).alloc (Nat.le_refl _) _⟩

/-- the document's shelf: a struct of one slice, at block kb; its pages at block kp -/
def RShelf (w : World) (kb kp : Nat) (l : List Pg) : Prop :=
  w.heap[kb]? = some (.cells #[.slice (some ⟨kp, 0, none⟩) l.length l.length] 61) ∧ w.heap[kp]? = some (.cells (rowsC l).toArray 41) ∧ 1 ≤ l.length ∧ l.length ≤ 1024
theorem RShelf.below {w w' : World} {kb kp : Nat} {l : List Pg} (h : RShelf w kb kp l) (hbl : Below w.heap.size w w') : RShelf w' kb kp l :=
  ⟨(hbl.block kb (Array.getElem?_eq_some_iff.1 h.1).1).trans h.1, (hbl.block kp (Array.getElem?_eq_some_iff.1 h.2.1).1).trans h.2.1, h.2.2⟩
theorem RShelf.ne {w : World} {kb kp : Nat} {l : List Pg} (h : RShelf w kb kp l) : kb ≠ kp := by
  intro e
  have h1 := h.1
  rw [e, h.2.1] at h1
  simp at h1
theorem RShelf.lt {w : World} {kb kp : Nat} {l : List Pg} (h : RShelf w kb kp l) : kb < w.heap.size ∧ kp < w.heap.size := ⟨(Array.getElem?_eq_some_iff.1 h.1).1, (Array.getElem?_eq_some_iff.1 h.2.1).1⟩

set_option maxHeartbeats 2000000 in
theorem rget_in (kb kp : Nat) (l : List Pg) (i : Nat) (w : World) (hs : RShelf w kb kp l) (hi : i < l.length) :
    Calls Try.prog 31 #[.pointer (some ⟨kb, 0, none⟩), .int .i64 i] w fun e w' => e = .returned (.tuple #[l[i].v, .int .i64 0]) ∧ Below w.heap.size w w' := by
  obtain ⟨h1, h2, hl1, hl2⟩ := hs
  have hld := fun o => load_shelf h2 i hi o
  have c0 := cell_of_block h1 0
  simp only [List.getElem?_toArray, List.getElem?_cons_zero] at c0
  have lh := (Array.getElem?_eq_some_iff.1 h1).1
  have hk0 : (0 : Int) ≤ (i : Int) := Int.natCast_nonneg _
  have hk1 : (i : Int) < (l.length : Int) := by omega
  generalize l[i] = p at *
  clear h1 h2
  go_enter Try.func31, Try.ntmps31
  go_wp2
  exact ret_page rfl rfl w.heap.size p rfl (by simp [go_sem]) ⟨rfl, (Below.refl _ _).alloc (Nat.le_refl _) _⟩
set_option maxHeartbeats 2000000 in
theorem rget_out (kb kp : Nat) (l : List Pg) (i : Int) (w : World) (hs : RShelf w kb kp l) (hi : i < 0 ∨ (l.length : Int) ≤ i) :
    Calls Try.prog 31 #[.pointer (some ⟨kb, 0, none⟩), .int .i64 i] w fun e w' => e = .returned (.tuple #[Pg.zero.v, .int .i64 1]) ∧ Below w.heap.size w w' := by
  obtain ⟨h1, h2, hl1, hl2⟩ := hs
  have c0 := cell_of_block h1 0
  simp only [List.getElem?_toArray, List.getElem?_cons_zero] at c0
  have lh := (Array.getElem?_eq_some_iff.1 h1).1
  clear h1 h2
  by_cases hn : i < 0
  · go_enter Try.func31, Try.ntmps31
    go_wp2
    exact ret_page rfl rfl w.heap.size Pg.zero rfl (by simp [go_sem]) ⟨rfl, (Below.refl _ _).alloc (Nat.le_refl _) _⟩
  · have hi2 : (l.length : Int) ≤ i := by omega
    have hb0 : decide (i < 0) = false := by simp; omega
    have hb1 : decide ((l.length : Int) ≤ i) = true := by simpa using hi2
    clear hi
    go_enter Try.func31, Try.ntmps31
    go_wp2
    exact ret_page rfl rfl w.heap.size Pg.zero rfl (by simp [go_sem]) ⟨rfl, (Below.refl _ _).alloc (Nat.le_refl _) _⟩
theorem rget_any (kb kp : Nat) (l : List Pg) (id : Int) (w : World) (hs : RShelf w kb kp l) :
    Calls Try.prog 31 #[.pointer (some ⟨kb, 0, none⟩), .int .i64 id] w fun e w' => e = .returned (.tuple #[(shelfPg l id).v, .int .i64 (shelfE l id)]) ∧ Below w.heap.size w w' := by
  by_cases h : 0 ≤ id ∧ id < l.length
  · have e1 : shelfE l id = 0 := if_pos h
    have hi : id.toNat < l.length := by omega
    have e2 : shelfPg l id = l[id.toNat] := by simp [shelfPg, h.1, List.getD, hi]
    have := rget_in kb kp l id.toNat w hs hi
    rw [Int.toNat_of_nonneg h.1] at this
    rw [e1, e2]
    exact this
  · have e1 : shelfE l id = 1 := if_neg h
    have h2 : id < 0 ∨ (l.length : Int) ≤ id := by omega
    have e2 : shelfPg l id = Pg.zero := by
      unfold shelfPg
      split
      · have : l.length ≤ id.toNat := by omega
        simp [List.getD, this]
      · rfl
    rw [e1, e2]
    exact rget_out kb kp l id w hs h2
end Go.Proofs.Ythehglhbgplfhaa
