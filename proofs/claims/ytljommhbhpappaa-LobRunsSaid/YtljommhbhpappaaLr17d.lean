/-
  Layer 17 (lob): the document's answer: Read, and what a change makes of an object.
-/
import Derived.Test.YtljommhbhpappaaLr17a
import Derived.Test.YtljommhbhpappaaLob11
namespace Go.Proofs.Ytljommhbhpappaa
open Go.RowKit Go.Joins
set_option linter.unusedVariables false
set_option linter.unusedSimpArgs false

theorem getR_eq (L : List (Int × ByteArray)) (num : Int) : getR L num = byR (mo L) num := rfl
theorem getR_size {L : List (Int × ByteArray)} (hM : ∀ n x, mo L n = some x → x.size ≤ 4096) (num : Int) : (getR L num).1.size ≤ 4096 := by
  unfold getR
  split
  · simp
  · cases h : mo L num with
    | none => simp
    | some b => exact hM num b h
set_option maxHeartbeats 4000000 in
set_option maxRecDepth 100000 in
theorem oread_any {w : World} {B ob : Nat} {L : List (Int × ByteArray)} (h : ObjsIn w B ob L) (hM : ∀ n x, mo L n = some x → x.size ≤ 4096) (num pos n : Int) :
    Calls Try.prog 25 #[.pointer (some ⟨ob, 0, none⟩), .int .i64 num, .int .i64 pos, .int .i64 n] w fun e w' => e = .returned (.tuple #[.string (rdR (byR (mo L) num) pos n).2, .int .i64 (rdR (byR (mo L) num) pos n).1]) ∧ w = w' := by
  have HG := Lib.hid (oget_any h num)
  have hr := getR_size hM num
  clear h hM
  rw [← getR_eq]
  generalize getR L num = r at *
  obtain ⟨b, en⟩ := r
  unfold rdR
  simp only at HG hr ⊢
  by_cases h1 : en = 0
  · subst h1
    rw [if_neg (by simp)]
    by_cases p1 : pos < 0
    · rw [if_pos (.inl p1)]
      have ip1 : decide (pos < 0) = true := by simp [p1]
      go_enter Try.func25, Try.ntmps25
      go_wp2_with fail
      with_reducible refine HG.out.mono ?_; rintro e w1 ⟨rfl, rfl⟩
      go_wp2_with fail
      go_ret2
      exact ⟨rfl, rfl⟩
    have ip1 : decide (pos < 0) = false := by simp; omega
    by_cases p2 : n < 0
    · rw [if_pos (.inr (.inl p2))]
      have ip2 : decide (n < 0) = true := by simp [p2]
      go_enter Try.func25, Try.ntmps25
      go_wp2_with fail
      with_reducible refine HG.out.mono ?_; rintro e w1 ⟨rfl, rfl⟩
      go_wp2_with fail
      go_ret2
      exact ⟨rfl, rfl⟩
    have ip2 : decide (n < 0) = false := by simp; omega
    by_cases p3 : (b.size : Int) < pos
    · rw [if_pos (.inr (.inr (.inl p3)))]
      have ip3 : decide ((b.size : Int) < pos) = true := by simp [p3]
      go_enter Try.func25, Try.ntmps25
      go_wp2_with fail
      with_reducible refine HG.out.mono ?_; rintro e w1 ⟨rfl, rfl⟩
      go_wp2_with fail
      go_ret2
      exact ⟨rfl, rfl⟩
    have ip3 : decide ((b.size : Int) < pos) = false := by simp; omega
    have hw : IntKind.wrap .i64 ((b.size : Int) - pos) = (b.size : Int) - pos := by rw [IntKind.wrap_i64]; omega
    by_cases p4 : (b.size : Int) - pos < n
    · rw [if_pos (.inr (.inr (.inr p4)))]
      have i4 : decide ((b.size : Int) - pos < n) = true := by simp [p4]
      go_enter Try.func25, Try.ntmps25
      go_wp2_with fail
      with_reducible refine HG.out.mono ?_; rintro e w1 ⟨rfl, rfl⟩
      go_wp2_with fail
      go_ret2
      exact ⟨rfl, rfl⟩
    have i4 : decide ((b.size : Int) - pos < n) = false := by simp; omega
    rw [if_neg (by omega)]
    have hw2 : IntKind.wrap .i64 (pos + n) = pos + n := by rw [IntKind.wrap_i64]; omega
    have q1 : 0 ≤ pos := by omega
    have q2 : pos ≤ pos + n := by omega
    have q3 : pos + n ≤ (b.size : Int) := by omega
    go_enter Try.func25, Try.ntmps25
    go_wp2_with fail
    with_reducible refine HG.out.mono ?_; rintro e w1 ⟨rfl, rfl⟩
    go_wp2_with fail
    go_ret2
    exact ⟨rfl, rfl⟩
  · rw [if_pos h1]
    go_enter Try.func25, Try.ntmps25
    go_wp2_with fail
    with_reducible refine HG.out.mono ?_; rintro e w1 ⟨rfl, rfl⟩
    go_wp2_with fail
    go_ret2
    exact ⟨rfl, rfl⟩

/-- what After answers of a change -/
def aftR (r : ByteArray × Int) (c : Ao) : Int × ByteArray :=
  if c.kind = 18 then (if r.2 = 150 then (0, ByteArray.empty) else if r.2 = 0 then (160, ByteArray.empty) else (r.2, ByteArray.empty))
  else if c.kind = 21 then wrR r c.pos c.val
  else if c.kind = 22 then trR r c.len
  else (r.2, ByteArray.empty)
theorem aftR_eq (M : Mo) (c : Ao) : aftR (byR M c.num) c = ((opR M c).1, ((opR M c).2).getD ByteArray.empty) := by
  unfold aftR opR
  by_cases k1 : c.kind = 18
  · rw [if_pos k1, if_pos k1]
    split
    · rfl
    · split <;> rfl
  rw [if_neg k1, if_neg k1]
  by_cases k2 : c.kind = 21
  · rw [if_pos k2, if_pos k2]; rfl
  rw [if_neg k2, if_neg k2]
  by_cases k3 : c.kind = 22
  · rw [if_pos k3, if_pos k3]; rfl
  rw [if_neg k3, if_neg k3]; rfl
theorem str_lim (x y : ByteArray) (h : x.size + y.size ≤ 100000) : ¬ 9223372036854775807 < x.size + y.size := by omega
set_option maxHeartbeats 16000000 in
set_option maxRecDepth 100000 in
theorem oafter_any {w : World} {B ob : Nat} {L : List (Int × ByteArray)} (h : ObjsIn w B ob L) (hM : ∀ n x, mo L n = some x → x.size ≤ 4096) (c : Ao) (hk : c.kind = 18 ∨ c.kind = 21 ∨ c.kind = 22 ∨ c.kind = 23) :
    Calls Try.prog 26 #[.pointer (some ⟨ob, 0, none⟩), c.v] w fun e w' => e = .returned (.tuple #[.string ((opR (mo L) c).2.getD ByteArray.empty), .int .i64 (opR (mo L) c).1]) ∧ Below w.heap.size w w' := by
  have B0 : Below w.heap.size w (w.alloc (.cells c.cs 44)) := (Below.refl _ _).alloc (Nat.le_refl _) _
  have HG := Lib.hid (oget_any (h.below B0) c.num)
  have HB := Lib.hid B0
  have HD := Lib.hid B0.drew
  have R1 := rowAt_at w c.cs 44 _ rfl
  have c0 := (cell_row R1 0).trans (show c.cs[0]? = some (.int .i64 c.kind) from rfl)
  have c3 := (cell_row R1 3).trans (show c.cs[3]? = some (.string c.val) from rfl)
  have c4 := (cell_row R1 4).trans (show c.cs[4]? = some (.int .i64 c.num) from rfl)
  have c5 := (cell_row R1 5).trans (show c.cs[5]? = some (.int .i64 c.pos) from rfl)
  have c6 := (cell_row R1 6).trans (show c.cs[6]? = some (.int .i64 c.len) from rfl)
  have d3 := (cell_row (show rowAt (w.alloc (.cells c.cs 44)).drew w.heap.size = some c.cs from R1) 3).trans (show c.cs[3]? = some (.string c.val) from rfl)
  have d5 := (cell_row (show rowAt (w.alloc (.cells c.cs 44)).drew w.heap.size = some c.cs from R1) 5).trans (show c.cs[5]? = some (.int .i64 c.pos) from rfl)
  have hr := getR_size hM c.num
  have he : (.returned (.tuple #[.string ((opR (mo L) c).2.getD ByteArray.empty), .int .i64 (opR (mo L) c).1]) : Ending) = .returned (.tuple #[.string (aftR (getR L c.num) c).2, .int .i64 (aftR (getR L c.num) c).1]) := by rw [getR_eq, aftR_eq]
  rw [he]
  clear h hM B0 he
  generalize getR L c.num = r at *
  obtain ⟨b, en⟩ := r
  unfold aftR
  simp only at HG hr ⊢
  by_cases k1 : c.kind = 18
  · rw [if_pos k1]
    rw [k1] at c0
    by_cases e1 : en = 150
    · subst e1
      rw [if_pos rfl]
      go_enter Try.func26, Try.ntmps26
      go_wp2_with fail
      with_reducible refine HG.out.mono ?_; rintro e w1 ⟨rfl, rfl⟩
      go_wp2_with fail
      go_ret2
      exact ⟨rfl, HB.out⟩
    rw [if_neg e1]
    by_cases e2 : en = 0
    · subst e2
      rw [if_pos rfl]
      go_enter Try.func26, Try.ntmps26
      go_wp2_with fail
      with_reducible refine HG.out.mono ?_; rintro e w1 ⟨rfl, rfl⟩
      go_wp2_with fail
      go_ret2
      exact ⟨rfl, HB.out⟩
    rw [if_neg e2]
    have f1 : (en == 150) = false := by simpa using e1
    have f2 : (en == 0) = false := by simpa using e2
    go_enter Try.func26, Try.ntmps26
    go_wp2_with fail
    with_reducible refine HG.out.mono ?_; rintro e w1 ⟨rfl, rfl⟩
    go_wp2_with fail
    go_ret2
    exact ⟨rfl, HB.out⟩
  rw [if_neg k1]
  have z1 : (c.kind == 18) = false := by simpa using k1
  by_cases e0 : en = 0
  · subst e0
    by_cases k2 : c.kind = 21
    · rw [if_pos k2]
      rw [k2] at c0
      unfold wrR
      rw [if_neg (by simp)]
      simp only
      by_cases p1 : c.pos < 0
      · rw [if_pos (.inl p1)]
        have ip1 : decide (c.pos < 0) = true := by simp [p1]
        go_enter Try.func26, Try.ntmps26
        go_wp2_with fail
        with_reducible refine HG.out.mono ?_; rintro e w1 ⟨rfl, rfl⟩
        go_wp2_with fail
        go_ret2
        exact ⟨rfl, HB.out⟩
      have ip1 : decide (c.pos < 0) = false := by simp; omega
      by_cases p2 : (b.size : Int) < c.pos
      · rw [if_pos (.inr p2)]
        have ip2 : decide ((b.size : Int) < c.pos) = true := by simp [p2]
        go_enter Try.func26, Try.ntmps26
        go_wp2_with fail
        with_reducible refine HG.out.mono ?_; rintro e w1 ⟨rfl, rfl⟩
        go_wp2_with fail
        go_ret2
        exact ⟨rfl, HB.out⟩
      have ip2 : decide ((b.size : Int) < c.pos) = false := by simp; omega
      rw [if_neg (by omega)]
      by_cases p3 : 64 < c.val.size
      · rw [if_pos (.inl p3)]
        have ip3 : decide ((64 : Int) < (c.val.size : Int)) = true := by simp; omega
        go_enter Try.func26, Try.ntmps26
        go_wp2_with fail
        with_reducible refine HG.out.mono ?_; rintro e w1 ⟨rfl, rfl⟩
        go_wp2_with fail
        go_ret2
        exact ⟨rfl, HB.out⟩
      have ip3 : decide ((64 : Int) < (c.val.size : Int)) = false := by simp; omega
      have hw : IntKind.wrap .i64 (c.pos + (c.val.size : Int)) = c.pos + (c.val.size : Int) := by rw [IntKind.wrap_i64]; omega
      by_cases p4 : 4096 < c.pos + (c.val.size : Int)
      · rw [if_pos (.inr p4)]
        have ip4 : decide ((4096 : Int) < c.pos + (c.val.size : Int)) = true := by simp [p4]
        go_enter Try.func26, Try.ntmps26
        go_wp2_with fail
        with_reducible refine HG.out.mono ?_; rintro e w1 ⟨rfl, rfl⟩
        go_wp2_with fail
        go_ret2
        exact ⟨rfl, HB.out⟩
      have ip4 : decide ((4096 : Int) < c.pos + (c.val.size : Int)) = false := by simp; omega
      rw [if_neg (by omega)]
      have q1 : 0 ≤ c.pos := by omega
      have q2 : c.pos ≤ (b.size : Int) := by omega
      obtain ⟨X, hX⟩ : ∃ X, b.extract 0 c.pos.toNat = X := ⟨_, rfl⟩
      have s1 : X.size = c.pos.toNat := by rw [← hX, ByteArray.size_extract]; omega
      have s2 := str_lim X c.val (by omega)
      rw [hX]
      have hend : ((c.pos + (c.val.size : Int))).toNat = c.pos.toNat + c.val.size := by omega
      by_cases p5 : c.pos + (c.val.size : Int) < (b.size : Int)
      · have ip5 : decide (c.pos + (c.val.size : Int) < (b.size : Int)) = true := by simp [p5]
        have q3 : 0 ≤ c.pos + (c.val.size : Int) := by omega
        have q4 : c.pos + (c.val.size : Int) ≤ (b.size : Int) := by omega
        obtain ⟨Y, hY⟩ : ∃ Y, b.extract (c.pos.toNat + c.val.size) b.size = Y := ⟨_, rfl⟩
        have s3 : Y.size ≤ b.size := by rw [← hY, ByteArray.size_extract]; omega
        have s4 : ¬ 9223372036854775807 < X.size + c.val.size + Y.size := by omega
        rw [hY]
        clear s1 s3
        go_enter Try.func26, Try.ntmps26
        go_wp2_with fail
        with_reducible refine HG.out.mono ?_; rintro e w1 ⟨rfl, rfl⟩
        go_wp2_with fail
        go_region_held3 (fun W => W.cell? ⟨w.heap.size, 3, none⟩ = some (.string c.val) ∧ W.cell? ⟨w.heap.size, 5, none⟩ = some (.int .i64 c.pos)) (exact ⟨d3, d5⟩) (fail)
        all_goals
          go_wp2_with fail
          go_ret2
          first | exact ⟨rfl, HD.out⟩ | exact ⟨by simp [hend], HD.out⟩
      · have ip5 : decide (c.pos + (c.val.size : Int) < (b.size : Int)) = false := by simp; omega
        have hemp : b.extract (c.pos.toNat + c.val.size) b.size = ByteArray.empty := by rw [ByteArray.extract_eq_empty_iff]; omega
        rw [hemp, ByteArray.append_empty]
        clear s1 hemp
        go_enter Try.func26, Try.ntmps26
        go_wp2_with fail
        with_reducible refine HG.out.mono ?_; rintro e w1 ⟨rfl, rfl⟩
        go_wp2_with fail
        go_region_held3 (fun W => W.cell? ⟨w.heap.size, 3, none⟩ = some (.string c.val) ∧ W.cell? ⟨w.heap.size, 5, none⟩ = some (.int .i64 c.pos)) (exact ⟨d3, d5⟩) (fail)
        all_goals
          go_wp2_with fail
          go_ret2
          exact ⟨rfl, HD.out⟩
    rw [if_neg k2]
    have z2 : (c.kind == 21) = false := by simpa using k2
    by_cases k3 : c.kind = 22
    · rw [if_pos k3]
      rw [k3] at c0
      unfold trR
      rw [if_neg (by simp)]
      simp only
      by_cases p1 : c.len < 0
      · rw [if_pos (.inl p1)]
        have ip1 : decide (c.len < 0) = true := by simp [p1]
        go_enter Try.func26, Try.ntmps26
        go_wp2_with fail
        with_reducible refine HG.out.mono ?_; rintro e w1 ⟨rfl, rfl⟩
        go_wp2_with fail
        go_ret2
        exact ⟨rfl, HB.out⟩
      have ip1 : decide (c.len < 0) = false := by simp; omega
      by_cases p2 : (b.size : Int) < c.len
      · rw [if_pos (.inr p2)]
        have ip2 : decide ((b.size : Int) < c.len) = true := by simp [p2]
        go_enter Try.func26, Try.ntmps26
        go_wp2_with fail
        with_reducible refine HG.out.mono ?_; rintro e w1 ⟨rfl, rfl⟩
        go_wp2_with fail
        go_ret2
        exact ⟨rfl, HB.out⟩
      have ip2 : decide ((b.size : Int) < c.len) = false := by simp; omega
      rw [if_neg (by omega)]
      have q1 : 0 ≤ c.len := by omega
      have q2 : c.len ≤ (b.size : Int) := by omega
      go_enter Try.func26, Try.ntmps26
      go_wp2_with fail
      with_reducible refine HG.out.mono ?_; rintro e w1 ⟨rfl, rfl⟩
      go_wp2_with fail
      go_ret2
      exact ⟨rfl, HB.out⟩
    rw [if_neg k3]
    have k4 : c.kind = 23 := by omega
    rw [k4] at c0
    go_enter Try.func26, Try.ntmps26
    go_wp2_with fail
    with_reducible refine HG.out.mono ?_; rintro e w1 ⟨rfl, rfl⟩
    go_wp2_with fail
    go_ret2
    exact ⟨rfl, HB.out⟩
  have f0 : (en != 0) = true := by simpa using e0
  have hx : (if c.kind = 21 then wrR (b, en) c.pos c.val else if c.kind = 22 then trR (b, en) c.len else (en, ByteArray.empty)) = (en, ByteArray.empty) := by
    unfold wrR trR
    rw [if_pos e0, if_pos e0]
    split
    · rfl
    · split <;> rfl
  rw [hx]
  go_enter Try.func26, Try.ntmps26
  go_wp2_with fail
  with_reducible refine HG.out.mono ?_; rintro e w1 ⟨rfl, rfl⟩
  go_wp2_with fail
  go_ret2
  exact ⟨rfl, HB.out⟩
end Go.Proofs.Ytljommhbhpappaa
