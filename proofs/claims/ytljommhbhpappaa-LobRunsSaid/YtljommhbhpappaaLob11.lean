/-
  Layer 17 (lob): Read and Len on a law's volume.
-/
import Derived.Test.YtljommhbhpappaaLob10
namespace Go.Proofs.Ytljommhbhpappaa
open Go.RowKit Go.Joins
set_option linter.unusedVariables false
set_option linter.unusedSimpArgs false

def rdR (r : ByteArray × Int) (pos n : Int) : Int × ByteArray :=
  if r.2 ≠ 0 then (r.2, ByteArray.empty)
  else if pos < 0 ∨ n < 0 ∨ (r.1.size : Int) < pos ∨ (r.1.size : Int) - pos < n then (1, ByteArray.empty)
  else (0, r.1.extract pos.toNat (pos + n).toNat)
section
variable {bv : Value} {num : Int} {r : ByteArray × Int} {w : World}
set_option maxHeartbeats 4000000 in
set_option maxRecDepth 100000 in
theorem lread_any (pos n : Int) (hr : r.1.size ≤ 4096) (HB0 : Calls Try.prog 60 #[bv, .int .i64 1, .int .i64 num] w fun e w' => e = .returned (.tuple #[.string r.1, .int .i64 r.2]) ∧ Below w.heap.size w w') :
    Calls Try.prog 21 #[bv, .int .i64 1, .int .i64 num, .int .i64 pos, .int .i64 n] w fun e w' => e = .returned (.tuple #[.string (rdR r pos n).2, .int .i64 (rdR r pos n).1]) ∧ Below w.heap.size w w' := by
  have HB := Lib.hid HB0
  clear HB0
  obtain ⟨b, en⟩ := r
  unfold rdR
  simp only at HB hr ⊢
  by_cases h1 : en = 0
  · subst h1
    rw [if_neg (by simp)]
    by_cases p1 : pos < 0
    · rw [if_pos (.inl p1)]
      have i1 : decide (pos < 0) = true := by simp [p1]
      go_enter Try.func21, Try.ntmps21
      go_wp2_with fail
      refine HB.out.mono ?_; rintro e w1 ⟨rfl, hb1⟩
      have B1 := Lib.hid hb1
      clear hb1
      go_wp2_with fail
      go_ret2
      exact ⟨rfl, B1.out⟩
    have i1 : decide (pos < 0) = false := by simp; omega
    by_cases p2 : n < 0
    · rw [if_pos (.inr (.inl p2))]
      have i2 : decide (n < 0) = true := by simp [p2]
      go_enter Try.func21, Try.ntmps21
      go_wp2_with fail
      refine HB.out.mono ?_; rintro e w1 ⟨rfl, hb1⟩
      have B1 := Lib.hid hb1
      clear hb1
      go_wp2_with fail
      go_ret2
      exact ⟨rfl, B1.out⟩
    have i2 : decide (n < 0) = false := by simp; omega
    by_cases p3 : (b.size : Int) < pos
    · rw [if_pos (.inr (.inr (.inl p3)))]
      have i3 : decide ((b.size : Int) < pos) = true := by simp [p3]
      go_enter Try.func21, Try.ntmps21
      go_wp2_with fail
      refine HB.out.mono ?_; rintro e w1 ⟨rfl, hb1⟩
      have B1 := Lib.hid hb1
      clear hb1
      go_wp2_with fail
      go_ret2
      exact ⟨rfl, B1.out⟩
    have i3 : decide ((b.size : Int) < pos) = false := by simp; omega
    have hw : IntKind.wrap .i64 ((b.size : Int) - pos) = (b.size : Int) - pos := by rw [IntKind.wrap_i64]; omega
    by_cases p4 : (b.size : Int) - pos < n
    · rw [if_pos (.inr (.inr (.inr p4)))]
      have i4 : decide ((b.size : Int) - pos < n) = true := by simp [p4]
      go_enter Try.func21, Try.ntmps21
      go_wp2_with fail
      refine HB.out.mono ?_; rintro e w1 ⟨rfl, hb1⟩
      have B1 := Lib.hid hb1
      clear hb1
      go_wp2_with fail
      go_ret2
      exact ⟨rfl, B1.out⟩
    have i4 : decide ((b.size : Int) - pos < n) = false := by simp; omega
    rw [if_neg (by omega)]
    have hw2 : IntKind.wrap .i64 (pos + n) = pos + n := by rw [IntKind.wrap_i64]; omega
    have q1 : 0 ≤ pos := by omega
    have q2 : pos ≤ pos + n := by omega
    have q3 : pos + n ≤ (b.size : Int) := by omega
    go_enter Try.func21, Try.ntmps21
    go_wp2_with fail
    refine HB.out.mono ?_; rintro e w1 ⟨rfl, hb1⟩
    have B1 := Lib.hid hb1
    clear hb1
    go_wp2_with fail
    go_ret2
    exact ⟨rfl, B1.out⟩
  · rw [if_pos h1]
    go_enter Try.func21, Try.ntmps21
    go_wp2_with fail
    refine HB.out.mono ?_; rintro e w1 ⟨rfl, hb1⟩
    have B1 := Lib.hid hb1
    clear hb1
    go_wp2_with fail
    go_ret2
    exact ⟨rfl, B1.out⟩
end
section
variable {w0 w : World} {b mb hb pb : Nat} {M : Mo} {q : Nat}
theorem op_read (h : LobAt w0 w b mb hb pb M q) (num pos n : Int) :
    Calls Try.prog 21 #[.pointer (some ⟨b, 0, none⟩), .int .i64 1, .int .i64 num, .int .i64 pos, .int .i64 n] w fun e w' => e = .returned (.tuple #[.string (rdR (byR M num) pos n).2, .int .i64 (rdR (byR M num) pos n).1]) ∧ Below w.heap.size w w' :=
  lread_any pos n (byR_size h num) (op_bytes h num)
set_option maxHeartbeats 2000000 in
theorem op_len (h : LobAt w0 w b mb hb pb M q) (num : Int) :
    Calls Try.prog 22 #[.pointer (some ⟨b, 0, none⟩), .int .i64 1, .int .i64 num] w fun e w' => e = .returned (.tuple #[.int .i64 (byR M num).1.size, .int .i64 (byR M num).2]) ∧ Below w.heap.size w w' := by
  have HB := Lib.hid (op_bytes h num)
  clear h
  generalize byR M num = r at *
  obtain ⟨by1, en⟩ := r
  simp only at HB ⊢
  go_enter Try.func22, Try.ntmps22
  go_wp2_with fail
  refine HB.out.mono ?_; rintro e w1 ⟨rfl, hb1⟩
  have B1 := Lib.hid hb1
  clear hb1
  go_wp2_with fail
  go_ret2
  exact ⟨rfl, B1.out⟩
end

/-! ## what reading tells -/
theorem updO_self (M : Mo) (n : Int) (o : Option ByteArray) : updO M n o n = o := if_pos rfl
theorem updO_other {M : Mo} {n k : Int} {o : Option ByteArray} (h : k ≠ n) : updO M n o k = M k := if_neg h
theorem byR_some {M : Mo} {n : Int} {x : ByteArray} (hn : 0 ≤ n ∧ n < 1000) (h : M n = some x) : byR M n = (x, 0) := by
  unfold byR; rw [if_neg (by omega), h]
theorem byR_no {M : Mo} {n : Int} (hn : 0 ≤ n ∧ n < 1000) (h : M n = none) : byR M n = (ByteArray.empty, 150) := by
  unfold byR; rw [if_neg (by omega), h]
theorem rd_all (x : ByteArray) : rdR (x, 0) 0 (x.size : Int) = (0, x) := by
  unfold rdR
  rw [if_neg (by simp), if_neg (by simp)]
  simp
theorem opR_new {M : Mo} {n : Int} (hn : 0 ≤ n ∧ n < 1000) (h : M n = none) : opR M { kind := 18, num := n } = (0, some ByteArray.empty) := by
  unfold opR
  rw [if_pos rfl]
  show (if (byR M n).2 = 150 then _ else _) = _
  rw [byR_no hn h, if_pos rfl]
/-- bytes written behind all that is there -/
theorem opR_behind {M : Mo} {n : Int} {x p : ByteArray} (hn : 0 ≤ n ∧ n < 1000) (h : M n = some x) (hp : p.size ≤ 64) (hx : x.size + p.size ≤ 4096) : opR M { kind := 21, num := n, pos := (x.size : Int), val := p } = (0, some (x ++ p)) := by
  unfold opR
  rw [if_neg (show ¬ (21 : Int) = 18 by decide), if_pos rfl]
  show ((wrR (byR M n) (x.size : Int) p).1, some (wrR (byR M n) (x.size : Int) p).2) = _
  rw [byR_some hn h]
  unfold wrR
  rw [if_neg (by simp), if_neg (by simp only; omega), if_neg (by omega)]
  obtain ⟨h1, h2, h3⟩ := wr_now x p x.size (Nat.le_refl _)
  have := h3 (by omega)
  simp only [Int.toNat_natCast] at this ⊢
  rw [this]
  simp
theorem opR_long {M : Mo} {n : Int} {x p : ByteArray} (hn : 0 ≤ n ∧ n < 1000) (h : M n = some x) (hp : 64 < p.size) : (opR M { kind := 21, num := n, pos := (x.size : Int), val := p }).1 = 2 := by
  unfold opR
  rw [if_neg (show ¬ (21 : Int) = 18 by decide), if_pos rfl]
  show (wrR (byR M n) (x.size : Int) p).1 = _
  rw [byR_some hn h]
  unfold wrR
  rw [if_neg (by simp), if_neg (by simp only; omega), if_pos (.inl hp)]
end Go.Proofs.Ytljommhbhpappaa
