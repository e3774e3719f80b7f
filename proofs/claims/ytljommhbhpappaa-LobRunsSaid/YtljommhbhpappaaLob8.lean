/-
  Layer 17 (lob): Write, and a law's steps.
-/
import Derived.Test.YtljommhbhpappaaLob7
namespace Go.Proofs.Ytljommhbhpappaa
open Go.RowKit Go.Joins
set_option linter.unusedVariables false
set_option linter.unusedSimpArgs false

/-- the last part of Write -/
theorem wr_now (b val : ByteArray) (p : Nat) (hp : p ≤ b.size) : (b.extract 0 p ++ val).size = p + val.size ∧ ((p + val.size < b.size → (b.extract 0 p ++ val) ++ b.extract (p + val.size) b.size = (b.extract 0 p ++ val) ++ b.extract (b.extract 0 p ++ val).size b.size) ∧ (b.size ≤ p + val.size → (b.extract 0 p ++ val) ++ b.extract (p + val.size) b.size = b.extract 0 p ++ val)) := by
  have e : (b.extract 0 p ++ val).size = p + val.size := by rw [ByteArray.size_append, ByteArray.size_extract]; omega
  refine ⟨e, fun _ => by rw [e], fun h => ?_⟩
  have : b.extract (p + val.size) b.size = ByteArray.empty := by
    apply ByteArray.ext
    apply Array.eq_empty_of_size_eq_zero
    have : (b.extract (p + val.size) b.size).size = 0 := by rw [ByteArray.size_extract]; omega
    exact this
  rw [this]; simp
section
variable {bv : Value} {num : Int} {r : ByteArray × Int} {w : World}
set_option maxHeartbeats 1000000 in
set_option maxRecDepth 100000 in
theorem lwrite_any (pos : Int) (val : ByteArray) (hr : r.1.size ≤ 4096) (HB0 : Calls Try.prog 60 #[bv, .int .i64 1, .int .i64 num] w fun e w' => e = .returned (.tuple #[.string r.1, .int .i64 r.2]) ∧ Below w.heap.size w w') :
    Calls Try.prog 20 #[bv, .int .i64 1, .int .i64 num, .int .i64 pos, .string val] w fun e w' => ∃ v, e = .returned (.tuple #[v, .int .i64 (wrR r pos val).1]) ∧ StepsOut w w' v (if (wrR r pos val).1 = 0 then stepsFull num (chunks r.1) (chunks (wrR r pos val).2) else []) := by
  have HB := Lib.hid HB0
  clear HB0
  obtain ⟨b, en⟩ := r
  unfold wrR
  simp only at HB hr ⊢
  by_cases h1 : en = 0
  · subst h1
    rw [if_neg (by simp)]
    by_cases h2 : pos < 0 ∨ (b.size : Int) < pos
    · rw [if_pos h2, if_neg (by decide)]
      rcases h2 with h2 | h2
      · have h2i : decide (pos < 0) = true := by simp [h2]
        go_enter Try.func20, Try.ntmps20
        go_wp2_with fail
        refine HB.out.mono ?_; rintro e w1 ⟨rfl, hb1⟩
        have B1 := Lib.hid hb1
        clear hb1
        go_wp2_with fail
        go_ret2
        exact ⟨_, rfl, StepsOut.nil B1.out⟩
      · have h2i : decide (pos < 0) = false := by simp; omega
        have h3i : decide ((b.size : Int) < pos) = true := by simp [h2]
        go_enter Try.func20, Try.ntmps20
        go_wp2_with fail
        refine HB.out.mono ?_; rintro e w1 ⟨rfl, hb1⟩
        have B1 := Lib.hid hb1
        clear hb1
        go_wp2_with fail
        go_ret2
        exact ⟨_, rfl, StepsOut.nil B1.out⟩
    · rw [if_neg h2]
      have h2i : decide (pos < 0) = false := by simp; omega
      have h3i : decide ((b.size : Int) < pos) = false := by simp; omega
      by_cases h4 : 64 < val.size ∨ 4096 < pos + val.size
      · rw [if_pos h4, if_neg (by decide)]
        by_cases h5 : 64 < val.size
        · have h5i : decide ((64 : Int) < (val.size : Int)) = true := by simp; omega
          go_enter Try.func20, Try.ntmps20
          go_wp2_with fail
          refine HB.out.mono ?_; rintro e w1 ⟨rfl, hb1⟩
          have B1 := Lib.hid hb1
          clear hb1
          go_wp2_with fail
          go_ret2
          exact ⟨_, rfl, StepsOut.nil B1.out⟩
        · have h5i : decide ((64 : Int) < (val.size : Int)) = false := by simp; omega
          have h6i : decide ((4096 : Int) < pos + (val.size : Int)) = true := by simp; omega
          have hw : IntKind.wrap .i64 (pos + (val.size : Int)) = pos + (val.size : Int) := by rw [IntKind.wrap_i64]; omega
          go_enter Try.func20, Try.ntmps20
          go_wp2_with fail
          refine HB.out.mono ?_; rintro e w1 ⟨rfl, hb1⟩
          have B1 := Lib.hid hb1
          clear hb1
          go_wp2_with fail
          go_ret2
          exact ⟨_, rfl, StepsOut.nil B1.out⟩
      · rw [if_neg h4, if_pos rfl]
        obtain ⟨p, rfl⟩ : ∃ p : Nat, pos = (p : Int) := ⟨pos.toNat, by omega⟩
        have hp : p ≤ b.size := by omega
        obtain ⟨hsz, hlt, hge⟩ := wr_now b val p hp
        have hpt : ((p : Int)).toNat = p := rfl
        rw [hpt]
        have h5i : decide ((64 : Int) < (val.size : Int)) = false := by simp; omega
        have h6i : decide ((4096 : Int) < (p : Int) + (val.size : Int)) = false := by simp; omega
        have hp0 : (0 : Int) ≤ (p : Int) := by omega
        have hpb : (p : Int) ≤ (b.size : Int) := by omega
        have hts : ¬ 9223372036854775807 < (b.extract 0 p).size + val.size := by rw [ByteArray.size_extract]; omega
        obtain ⟨X, hX⟩ : ∃ X, b.extract 0 p ++ val ++ b.extract (p + val.size) b.size = X := ⟨_, rfl⟩
        have hXs : X.size ≤ 4096 := by
          rw [← hX, ByteArray.size_append, hsz, ByteArray.size_extract]; omega
        rw [hX]
        rw [hX] at hlt hge
        have HP1 := Lib.hid (fun w' => pieces_at b hr w')
        have HP2 := Lib.hid (fun w' => pieces_at X hXs w')
        have HSt := Lib.hid (fun fa fc ta tc w' hf ht => steps_at num fa ta fc tc (chunks b) (chunks X) w' hf ht)
        generalize stepsFull num (chunks b) (chunks X) = L at *
        generalize chunks b = C at *
        generalize chunks X = D at *
        by_cases hc : p + val.size < b.size
        · have hci : ((b.extract 0 p).size : Int) + (val.size : Int) < (b.size : Int) := by have : (b.extract 0 p).size = p := (by rw [ByteArray.size_extract]; omega); omega
          have hX2 := hlt hc
          have hsl : (((b.extract 0 p ++ val).size : Int)).toNat = (b.extract 0 p ++ val).size := rfl
          have hts2 : ¬ 9223372036854775807 < (b.extract 0 p ++ val).size + (b.extract (b.extract 0 p ++ val).size b.size).size := by rw [ByteArray.size_extract]; omega
          have hn0 : (b.extract 0 p ++ val).size ≤ b.size := by omega
          clear hlt hge hX hsz
          generalize hY : b.extract 0 p = Y at *
          rw [ByteArray.size_append] at hX2
          go_enter Try.func20, Try.ntmps20
          go_wp2_with fail
          refine HB.out.mono ?_; rintro e w1 ⟨rfl, hb1⟩
          have B1 := Lib.hid hb1
          clear hb1
          go_wp2_with fail
          refine (HP1.out _).mono ?_; rintro e w2 ⟨fa, fc, rfl, hb2, hfa⟩
          have B2 := Lib.hid (B1.out.trans (hb2.mono B1.out.size))
          have HFa := Lib.hid hfa
          clear hb2 hfa
          go_wp2_with fail
          rw [← hX2]
          with_reducible refine (HP2.out _).mono ?_; rintro e w3 ⟨ta, tc, rfl, hb3, hta⟩
          have B3 := Lib.hid (B2.out.trans (hb3.mono B2.out.size))
          have HFa3 := Lib.hid (HFa.out.below hb3)
          have HTa := Lib.hid hta
          clear hb3 hta
          go_wp2_with fail
          refine (HSt.out fa fc ta tc _ HFa3.out HTa.out).mono ?_; rintro e w4 ⟨v4, rfl, hb4, hown4⟩
          have HO4 := Lib.hid (StepsOut.of B3.out hb4 hown4)
          clear hb4 hown4
          go_wp2_with fail
          go_ret2
          exact ⟨_, rfl, HO4.out⟩
        · have hci : ¬ ((b.extract 0 p).size : Int) + (val.size : Int) < (b.size : Int) := by have : (b.extract 0 p).size = p := (by rw [ByteArray.size_extract]; omega); omega
          have hX2 := hge (by omega)
          clear hlt hge hX hsz
          generalize hY : b.extract 0 p = Y at *
          go_enter Try.func20, Try.ntmps20
          go_wp2_with fail
          refine HB.out.mono ?_; rintro e w1 ⟨rfl, hb1⟩
          have B1 := Lib.hid hb1
          clear hb1
          go_wp2_with fail
          refine (HP1.out _).mono ?_; rintro e w2 ⟨fa, fc, rfl, hb2, hfa⟩
          have B2 := Lib.hid (B1.out.trans (hb2.mono B1.out.size))
          have HFa := Lib.hid hfa
          clear hb2 hfa
          go_wp2_with fail
          rw [← hX2]
          with_reducible refine (HP2.out _).mono ?_; rintro e w3 ⟨ta, tc, rfl, hb3, hta⟩
          have B3 := Lib.hid (B2.out.trans (hb3.mono B2.out.size))
          have HFa3 := Lib.hid (HFa.out.below hb3)
          have HTa := Lib.hid hta
          clear hb3 hta
          go_wp2_with fail
          refine (HSt.out fa fc ta tc _ HFa3.out HTa.out).mono ?_; rintro e w4 ⟨v4, rfl, hb4, hown4⟩
          have HO4 := Lib.hid (StepsOut.of B3.out hb4 hown4)
          clear hb4 hown4
          go_wp2_with fail
          go_ret2
          exact ⟨_, rfl, HO4.out⟩
  · rw [if_pos h1, if_neg h1]
    go_enter Try.func20, Try.ntmps20
    go_wp2_with fail
    refine HB.out.mono ?_; rintro e w1 ⟨rfl, hb1⟩
    have B1 := Lib.hid hb1
    clear hb1
    go_wp2_with fail
    go_ret2
    exact ⟨_, rfl, StepsOut.nil B1.out⟩
end

/-- a law's change: the error, and what the object is to be -/
def opR (M : Mo) (c : Ao) : Int × Option ByteArray :=
  if c.kind = 18 then (if (byR M c.num).2 = 150 then (0, some ByteArray.empty) else if (byR M c.num).2 = 0 then (160, none) else ((byR M c.num).2, none))
  else if c.kind = 21 then ((wrR (byR M c.num) c.pos c.val).1, some (wrR (byR M c.num) c.pos c.val).2)
  else if c.kind = 22 then ((trR (byR M c.num) c.len).1, some (trR (byR M c.num) c.len).2)
  else ((byR M c.num).2, none)
def opL (M : Mo) (c : Ao) : List Stp := if (opR M c).1 = 0 then stepsFull c.num (chunksO (M c.num)) (chunksO (opR M c).2) else []

section
variable {w0 w : World} {b mb hb pb : Nat} {M : Mo} {q : Nat}
theorem op_new (h : LobAt w0 w b mb hb pb M q) (c : Ao) (k1 : c.kind = 18) :
    Calls Try.prog 18 #[.pointer (some ⟨b, 0, none⟩), .int .i64 1, .int .i64 c.num] w fun e w' => ∃ v, e = .returned (.tuple #[v, .int .i64 (opR M c).1]) ∧ StepsOut w w' v (opL M c) := by
  have hM1 : (byR M c.num).2 = 150 → M c.num = none := fun h => (byR_none h).2
  have hL : opL M c = if (byR M c.num).2 = 150 then stepsFull c.num [] (chunks ByteArray.empty) else [] := by
    unfold opL opR
    rw [if_pos k1]
    by_cases e1 : (byR M c.num).2 = 150
    · rw [if_pos e1, if_pos e1, if_pos rfl, hM1 e1]; rfl
    · rw [if_neg e1, if_neg e1]
      by_cases e2 : (byR M c.num).2 = 0
      · rw [if_pos e2, if_neg (by decide)]
      · rw [if_neg e2, if_neg e2]
  have hE : (opR M c).1 = if (byR M c.num).2 = 150 then 0 else if (byR M c.num).2 = 0 then 160 else (byR M c.num).2 := by
    unfold opR
    rw [if_pos k1]
    split
    · rfl
    · split <;> rfl
  rw [hL, hE]
  exact lnew_any (op_bytes h c.num)
theorem op_write (h : LobAt w0 w b mb hb pb M q) (c : Ao) (k2 : c.kind = 21) :
    Calls Try.prog 20 #[.pointer (some ⟨b, 0, none⟩), .int .i64 1, .int .i64 c.num, .int .i64 c.pos, .string c.val] w fun e w' => ∃ v, e = .returned (.tuple #[v, .int .i64 (opR M c).1]) ∧ StepsOut w w' v (opL M c) := by
  have k1 : c.kind ≠ 18 := by omega
  have hM0 : (byR M c.num).2 = 0 → M c.num = some (byR M c.num).1 := fun h => (byR_num h).2
  have hE : (opR M c).1 = (wrR (byR M c.num) c.pos c.val).1 := by unfold opR; rw [if_neg k1, if_pos k2]
  have hL : opL M c = if (wrR (byR M c.num) c.pos c.val).1 = 0 then stepsFull c.num (chunks (byR M c.num).1) (chunks (wrR (byR M c.num) c.pos c.val).2) else [] := by
    unfold opL opR
    rw [if_neg k1, if_pos k2]
    simp only
    split
    · rename_i e
      have e0 : (byR M c.num).2 = 0 := Decidable.byContradiction fun hne => by
        unfold wrR at e; rw [if_pos hne] at e; exact hne e
      rw [hM0 e0]; rfl
    · rfl
  rw [hL, hE]
  exact lwrite_any c.pos c.val (byR_size h c.num) (op_bytes h c.num)
theorem op_trunc (h : LobAt w0 w b mb hb pb M q) (c : Ao) (k3 : c.kind = 22) :
    Calls Try.prog 64 #[.pointer (some ⟨b, 0, none⟩), .int .i64 1, .int .i64 c.num, .int .i64 c.len] w fun e w' => ∃ v, e = .returned (.tuple #[v, .int .i64 (opR M c).1]) ∧ StepsOut w w' v (opL M c) := by
  have k1 : c.kind ≠ 18 := by omega
  have k2 : c.kind ≠ 21 := by omega
  have hM0 : (byR M c.num).2 = 0 → M c.num = some (byR M c.num).1 := fun h => (byR_num h).2
  have hE : (opR M c).1 = (trR (byR M c.num) c.len).1 := by unfold opR; rw [if_neg k1, if_neg k2, if_pos k3]
  have hL : opL M c = if (trR (byR M c.num) c.len).1 = 0 then stepsFull c.num (chunks (byR M c.num).1) (chunks (trR (byR M c.num) c.len).2) else [] := by
    unfold opL opR
    rw [if_neg k1, if_neg k2, if_pos k3]
    simp only
    split
    · rename_i e
      have e0 : (byR M c.num).2 = 0 := Decidable.byContradiction fun hne => by
        unfold trR at e; rw [if_pos hne] at e; exact hne e
      rw [hM0 e0]; rfl
    · rfl
  rw [hL, hE]
  exact ltrunc_any c.len (byR_size h c.num) (op_bytes h c.num)
theorem op_destroy (h : LobAt w0 w b mb hb pb M q) (c : Ao) (k1 : c.kind ≠ 18) (k2 : c.kind ≠ 21) (k3 : c.kind ≠ 22) :
    Calls Try.prog 65 #[.pointer (some ⟨b, 0, none⟩), .int .i64 1, .int .i64 c.num] w fun e w' => ∃ v, e = .returned (.tuple #[v, .int .i64 (opR M c).1]) ∧ StepsOut w w' v (opL M c) := by
  have hM0 : (byR M c.num).2 = 0 → M c.num = some (byR M c.num).1 := fun h => (byR_num h).2
  have hE : (opR M c).1 = (byR M c.num).2 := by unfold opR; rw [if_neg k1, if_neg k2, if_neg k3]
  have hL : opL M c = if (byR M c.num).2 = 0 then stepsFull c.num (chunks (byR M c.num).1) [] else [] := by
    unfold opL opR
    rw [if_neg k1, if_neg k2, if_neg k3]
    simp only
    split
    · rename_i e
      rw [hM0 e]; rfl
    · rfl
  rw [hL, hE]
  exact ldestroy_any (byR_size h c.num) (op_bytes h c.num)
set_option maxHeartbeats 4000000 in
set_option maxRecDepth 100000 in
theorem steps17 (h : LobAt w0 w b mb hb pb M q) (c : Ao) :
    Calls Try.prog 23 #[.pointer (some ⟨b, 0, none⟩), c.v] w fun e w' => ∃ v, e = .returned (.tuple #[v, .int .i64 (opR M c).1]) ∧ StepsOut w w' v (opL M c) := by
  have B0 : Below w.heap.size w (w.alloc (.cells c.cs 44)) := (Below.refl _ _).alloc (Nat.le_refl _) _
  have h0 := h.below B0
  have R1 := rowAt_at w c.cs 44 _ rfl
  have c0 := (cell_row R1 0).trans (show c.cs[0]? = some (.int .i64 c.kind) from rfl)
  have c3 := (cell_row R1 3).trans (show c.cs[3]? = some (.string c.val) from rfl)
  have c4 := (cell_row R1 4).trans (show c.cs[4]? = some (.int .i64 c.num) from rfl)
  have c5 := (cell_row R1 5).trans (show c.cs[5]? = some (.int .i64 c.pos) from rfl)
  have c6 := (cell_row R1 6).trans (show c.cs[6]? = some (.int .i64 c.len) from rfl)
  have HB := Lib.hid B0
  have OUT : Hid (∀ w' v L, StepsOut (w.alloc (.cells c.cs 44)) w' v L → StepsOut w w' v L) := Lib.hid (fun w' v L hs => StepsOut.of HB.out hs.1 hs.2)
  by_cases k1 : c.kind = 18
  · have HN := Lib.hid (op_new h0 c k1)
    generalize opL M c = L at *
    generalize (opR M c).1 = er at *
    rw [k1] at c0
    clear h h0
    go_enter Try.func23, Try.ntmps23
    go_wp2_with fail
    refine HN.out.mono ?_; rintro e w1 ⟨v, rfl, hs⟩
    have HS := Lib.hid (OUT.out _ _ _ hs)
    clear hs
    go_wp2_with fail
    go_ret2
    exact ⟨_, rfl, HS.out⟩
  by_cases k2 : c.kind = 21
  · have HN := Lib.hid (op_write h0 c k2)
    generalize opL M c = L at *
    generalize (opR M c).1 = er at *
    rw [k2] at c0
    clear h h0
    go_enter Try.func23, Try.ntmps23
    go_wp2_with fail
    refine HN.out.mono ?_; rintro e w1 ⟨v, rfl, hs⟩
    have HS := Lib.hid (OUT.out _ _ _ hs)
    clear hs
    go_wp2_with fail
    go_ret2
    exact ⟨_, rfl, HS.out⟩
  by_cases k3 : c.kind = 22
  · have HN := Lib.hid (op_trunc h0 c k3)
    generalize opL M c = L at *
    generalize (opR M c).1 = er at *
    rw [k3] at c0
    clear h h0
    go_enter Try.func23, Try.ntmps23
    go_wp2_with fail
    refine HN.out.mono ?_; rintro e w1 ⟨v, rfl, hs⟩
    have HS := Lib.hid (OUT.out _ _ _ hs)
    clear hs
    go_wp2_with fail
    go_ret2
    exact ⟨_, rfl, HS.out⟩
  · have HN := Lib.hid (op_destroy h0 c k1 k2 k3)
    generalize opL M c = L at *
    generalize (opR M c).1 = er at *
    clear h h0
    go_enter Try.func23, Try.ntmps23
    go_wp2_with fail
    refine HN.out.mono ?_; rintro e w1 ⟨v, rfl, hs⟩
    have HS := Lib.hid (OUT.out _ _ _ hs)
    clear hs
    go_wp2_with fail
    go_ret2
    exact ⟨_, rfl, HS.out⟩
end
end Go.Proofs.Ytljommhbhpappaa
