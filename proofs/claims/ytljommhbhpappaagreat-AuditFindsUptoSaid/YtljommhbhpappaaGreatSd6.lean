/-
  Layer 22 (audit): a call of the law on a sound volume, landed or dropped.
-/
import Derived.Test.YtljommhbhpappaaGreatPkSd
import Derived.Test.YtljommhbhpappaaGreatFrame22
namespace Go.Proofs.YtljommhbhpappaaGreat
open Go.RowKit Go.Joins
set_option linter.unusedVariables false
set_option linter.unusedSimpArgs false

/-- a sound volume, which lies on the shelf as it is on the stage -/
structure Sy (S : Vol) (d m : Pg) (n : Nat) (P : Nat → Part) : Prop where
  mv : MVol S d m n P
  fit : S.Fit n
  same : ∀ i : Nat, i < n → stPg ⟨S.base, []⟩ i = stPg S i
def SyAt (Q : Nat → Prop) (w0 w : World) (b hb n : Nat) : Prop := ∃ S d m P, Lay Q w0 w b hb S ∧ Sy S d m n P
theorem Sy.shelf {S : Vol} {d m : Pg} {n : Nat} {P : Nat → Part} (h : Sy S d m n P) : MVol ⟨S.base, []⟩ d m n P :=
  h.mv.moved (Nat.le_refl _) fun i hi => ⟨h.same i hi, stE_nil h.fit.len hi⟩
theorem Sy.dropped {S S' : Vol} {d m : Pg} {n : Nat} {P : Nat → Part} (h : Sy S d m n P) (hb : S'.base = S.base) : Sy ⟨S'.base, []⟩ d m n P := by
  rw [hb]
  exact ⟨h.shelf, dropped_fit h.fit, fun i hi => rfl⟩
theorem applied_pg {S : Vol} {n : Nat} (hf : S.Fit n) (i : Nat) (hi : i < n) : stPg ⟨appl S.base (imgs S S.keys), S.M⟩ i = stPg S i := by
  have h1 : getM (⟨appl S.base (imgs S S.keys), S.M⟩ : Vol) i = getM S i := rfl
  cases hg : getM S i with
  | some p => unfold stPg; rw [h1, hg]
  | none =>
    have h2 := landed_pg hf i hi
    have h3 : stPg ⟨appl S.base (imgs S S.keys), S.M⟩ i = stPg S.landed i := by
      unfold stPg
      rw [h1, hg]
      rfl
    exact h3.trans h2
theorem Sy.applied {S : Vol} {d m : Pg} {n : Nat} {P : Nat → Part} (h : MVol S d m n P) (hf : S.Fit n) : Sy ⟨appl S.base (imgs S S.keys), S.M⟩ d m n P := by
  have hf2 : Vol.Fit ⟨appl S.base (imgs S S.keys), S.M⟩ n := ⟨hf.once, hf.fit, (landed_fit hf).len, hf.hi⟩
  refine ⟨h.moved (Nat.le_refl _) fun i hi => ⟨applied_pg hf i hi, ?_⟩, hf2, fun i hi => ?_⟩
  · have h1 := stE_nil (landed_fit hf).len hi
    have h2 : stE ⟨appl S.base (imgs S S.keys), []⟩ i = 0 := h1
    unfold stE at h2 ⊢
    split
    · rfl
    · exact h2
  · exact (landed_pg hf i hi).trans (applied_pg hf i hi).symm
theorem StrsIn.str {w : World} {a : Option Addr} {len : Nat} {I : List ByteArray} (h : StrsIn w a len I) (hl : len ≤ 1048576) : StrIn w a I := by
  obtain ⟨-, h2, h3⟩ := h
  refine ⟨by omega, ?_⟩
  rcases h3 with h0 | h3
  · exact .inl (by omega)
  · exact .inr h3
set_option maxHeartbeats 16000000 in
set_option maxRecDepth 100000 in
theorem done22 {Q : Nat → Prop} {w0 w : World} {b hb n : Nat} (c : Cl) (hc : ClOk w c) (hkl : c.kl ≤ 1048576) (h : SyAt Q w0 w b hb n) :
    Calls Tryz.prog 9 #[.pointer (some ⟨hb, 0, none⟩), .pointer (some ⟨b, 0, none⟩), c.v, .bool false] w fun e w' => e = .returned (.bool true) ∧ SyAt Q w0 w' b hb n := by
  obtain ⟨S, d, m, P, L, hy⟩ := h
  obtain ⟨hnum, I, hI⟩ := hc
  have hkI := hI.2.1
  have L0 := L.alloc (.cells c.cs 40)
  have hI0 := (hI.below ((Below.refl w.heap.size w).alloc (Nat.le_refl _) (.cells c.cs 40))).str hkl
  have R := rowAt_at w c.cs 40 _ rfl
  have k0 := (cell_row R 0).trans (Cl.cs_0 c)
  have k1 := (cell_row R 1).trans (Cl.cs_1 c)
  have k2 := (cell_row R 2).trans (Cl.cs_2 c)
  have k3 := (cell_row R 3).trans (Cl.cs_3 c)
  have HY := Lib.hid hy
  have HL := Lib.hid L0
  have HI := Lib.hid hI0
  clear L L0 hy hI hI0
  by_cases h10 : c.kind = 0
  · rw [h10] at k0
    have HOp := Lib.hid (sInsert HY.out.mv HY.out.fit c.key HL.out)
    go_enter Tryz.func9, Tryz.ntmps9
    go_wp2_with fail
    with_reducible refine HOp.out.mono ?_; rintro e w1 ⟨id, u, er, S', rfl, L1, ho⟩
    have K1 := Lib.hid L1
    have HO := Lib.hid ho
    have HIm := Lib.hid (images_lay L1 ho.1)
    have HD := Lib.hid L1.drop
    clear L1 ho R k0 k1 k2 k3
    by_cases h0 : er = 0
    · subst h0
      go_wp2_with fail
      with_reducible refine HIm.out.mono ?_; rintro e w2 ⟨v, rfl, L2, -, ho2⟩
      have HAp := Lib.hid (apply_lay L2 HO.out.1 v _ ho2)
      clear L2 ho2
      go_wp2_with fail
      with_reducible refine HAp.out.mono ?_; rintro e w3 ⟨rfl, L3⟩
      have K3 := Lib.hid L3
      clear L3
      go_wp2_with fail
      go_ret
      obtain ⟨d', m', P', hm⟩ := HO.out.2.2 rfl
      exact ⟨rfl, _, d', m', P', K3.out, Sy.applied hm HO.out.1⟩
    · have e1 : (er == 0) = false := by simp [h0]
      go_wp2_with fail
      with_reducible refine HD.out.mono ?_; rintro e w2 ⟨rfl, L2⟩
      have K2 := Lib.hid L2
      clear L2
      go_wp2_with fail
      go_ret
      exact ⟨rfl, _, d, m, P, K2.out, HY.out.dropped HO.out.2.1⟩
  have e10 : (c.kind == 0) = false := by simp [h10]
  by_cases h11 : c.kind = 1
  · rw [h11] at k0
    have HOp := Lib.hid (sDelete HY.out.mv HY.out.fit c.num hnum HL.out)
    go_enter Tryz.func9, Tryz.ntmps9
    go_wp2_with fail
    with_reducible refine HOp.out.mono ?_; rintro e w1 ⟨u, er, S', rfl, L1, ho⟩
    have K1 := Lib.hid L1
    have HO := Lib.hid ho
    have HIm := Lib.hid (images_lay L1 ho.1)
    have HD := Lib.hid L1.drop
    clear L1 ho R k0 k1 k2 k3
    by_cases h0 : er = 0
    · subst h0
      go_wp2_with fail
      with_reducible refine HIm.out.mono ?_; rintro e w2 ⟨v, rfl, L2, -, ho2⟩
      have HAp := Lib.hid (apply_lay L2 HO.out.1 v _ ho2)
      clear L2 ho2
      go_wp2_with fail
      with_reducible refine HAp.out.mono ?_; rintro e w3 ⟨rfl, L3⟩
      have K3 := Lib.hid L3
      clear L3
      go_wp2_with fail
      go_ret
      obtain ⟨d', m', P', hm⟩ := HO.out.2.2 rfl
      exact ⟨rfl, _, d', m', P', K3.out, Sy.applied hm HO.out.1⟩
    · have e1 : (er == 0) = false := by simp [h0]
      go_wp2_with fail
      with_reducible refine HD.out.mono ?_; rintro e w2 ⟨rfl, L2⟩
      have K2 := Lib.hid L2
      clear L2
      go_wp2_with fail
      go_ret
      exact ⟨rfl, _, d, m, P, K2.out, HY.out.dropped HO.out.2.1⟩
  have e11 : (c.kind == 1) = false := by simp [h11]
  by_cases h12 : c.kind = 2
  · rw [h12] at k0
    have HOp := Lib.hid (sPut HY.out.mv HY.out.fit c.key c.ka c.kc I HI.out HL.out)
    rw [hkI] at HOp
    go_enter Tryz.func9, Tryz.ntmps9
    go_wp2_with fail
    with_reducible refine HOp.out.mono ?_; rintro e w1 ⟨u, er, S', rfl, L1, ho⟩
    have K1 := Lib.hid L1
    have HO := Lib.hid ho
    have HIm := Lib.hid (images_lay L1 ho.1)
    have HD := Lib.hid L1.drop
    clear L1 ho R k0 k1 k2 k3
    by_cases h0 : er = 0
    · subst h0
      go_wp2_with fail
      with_reducible refine HIm.out.mono ?_; rintro e w2 ⟨v, rfl, L2, -, ho2⟩
      have HAp := Lib.hid (apply_lay L2 HO.out.1 v _ ho2)
      clear L2 ho2
      go_wp2_with fail
      with_reducible refine HAp.out.mono ?_; rintro e w3 ⟨rfl, L3⟩
      have K3 := Lib.hid L3
      clear L3
      go_wp2_with fail
      go_ret
      obtain ⟨d', m', P', hm⟩ := HO.out.2.2 rfl
      exact ⟨rfl, _, d', m', P', K3.out, Sy.applied hm HO.out.1⟩
    · have e1 : (er == 0) = false := by simp [h0]
      go_wp2_with fail
      with_reducible refine HD.out.mono ?_; rintro e w2 ⟨rfl, L2⟩
      have K2 := Lib.hid L2
      clear L2
      go_wp2_with fail
      go_ret
      exact ⟨rfl, _, d, m, P, K2.out, HY.out.dropped HO.out.2.1⟩
  have e12 : (c.kind == 2) = false := by simp [h12]
  by_cases h13 : c.kind = 3
  · rw [h13] at k0
    have HOp := Lib.hid (sCut HY.out.mv HY.out.fit c.key HL.out)
    go_enter Tryz.func9, Tryz.ntmps9
    go_wp2_with fail
    with_reducible refine HOp.out.mono ?_; rintro e w1 ⟨u, er, S', rfl, L1, ho⟩
    have K1 := Lib.hid L1
    have HO := Lib.hid ho
    have HIm := Lib.hid (images_lay L1 ho.1)
    have HD := Lib.hid L1.drop
    clear L1 ho R k0 k1 k2 k3
    by_cases h0 : er = 0
    · subst h0
      go_wp2_with fail
      with_reducible refine HIm.out.mono ?_; rintro e w2 ⟨v, rfl, L2, -, ho2⟩
      have HAp := Lib.hid (apply_lay L2 HO.out.1 v _ ho2)
      clear L2 ho2
      go_wp2_with fail
      with_reducible refine HAp.out.mono ?_; rintro e w3 ⟨rfl, L3⟩
      have K3 := Lib.hid L3
      clear L3
      go_wp2_with fail
      go_ret
      obtain ⟨d', m', P', hm⟩ := HO.out.2.2 rfl
      exact ⟨rfl, _, d', m', P', K3.out, Sy.applied hm HO.out.1⟩
    · have e1 : (er == 0) = false := by simp [h0]
      go_wp2_with fail
      with_reducible refine HD.out.mono ?_; rintro e w2 ⟨rfl, L2⟩
      have K2 := Lib.hid L2
      clear L2
      go_wp2_with fail
      go_ret
      exact ⟨rfl, _, d, m, P, K2.out, HY.out.dropped HO.out.2.1⟩
  have e13 : (c.kind == 3) = false := by simp [h13]
  by_cases h14 : c.kind = 4
  · rw [h14] at k0
    have HOp := Lib.hid (sMake HY.out.mv HY.out.fit c.num HL.out)
    go_enter Tryz.func9, Tryz.ntmps9
    go_wp2_with fail
    with_reducible refine HOp.out.mono ?_; rintro e w1 ⟨r, er, S', rfl, L1, ho⟩
    have K1 := Lib.hid L1
    have HO := Lib.hid ho
    have HIm := Lib.hid (images_lay L1 ho.1)
    have HD := Lib.hid L1.drop
    clear L1 ho R k0 k1 k2 k3
    by_cases h0 : er = 0
    · subst h0
      go_wp2_with fail
      with_reducible refine HIm.out.mono ?_; rintro e w2 ⟨v, rfl, L2, -, ho2⟩
      have HAp := Lib.hid (apply_lay L2 HO.out.1 v _ ho2)
      clear L2 ho2
      go_wp2_with fail
      with_reducible refine HAp.out.mono ?_; rintro e w3 ⟨rfl, L3⟩
      have K3 := Lib.hid L3
      clear L3
      go_wp2_with fail
      go_ret
      obtain ⟨d', m', P', hm⟩ := HO.out.2.2 rfl
      exact ⟨rfl, _, d', m', P', K3.out, Sy.applied hm HO.out.1⟩
    · have e1 : (er == 0) = false := by simp [h0]
      go_wp2_with fail
      with_reducible refine HD.out.mono ?_; rintro e w2 ⟨rfl, L2⟩
      have K2 := Lib.hid L2
      clear L2
      go_wp2_with fail
      go_ret
      exact ⟨rfl, _, d, m, P, K2.out, HY.out.dropped HO.out.2.1⟩
  have e14 : (c.kind == 4) = false := by simp [h14]
  by_cases h15 : c.kind = 5
  · rw [h15] at k0
    have HOp := Lib.hid (sForget HY.out.mv HY.out.fit c.num HL.out)
    go_enter Tryz.func9, Tryz.ntmps9
    go_wp2_with fail
    with_reducible refine HOp.out.mono ?_; rintro e w1 ⟨er, S', rfl, L1, ho⟩
    have K1 := Lib.hid L1
    have HO := Lib.hid ho
    have HIm := Lib.hid (images_lay L1 ho.1)
    have HD := Lib.hid L1.drop
    clear L1 ho R k0 k1 k2 k3
    by_cases h0 : er = 0
    · subst h0
      go_wp2_with fail
      with_reducible refine HIm.out.mono ?_; rintro e w2 ⟨v, rfl, L2, -, ho2⟩
      have HAp := Lib.hid (apply_lay L2 HO.out.1 v _ ho2)
      clear L2 ho2
      go_wp2_with fail
      with_reducible refine HAp.out.mono ?_; rintro e w3 ⟨rfl, L3⟩
      have K3 := Lib.hid L3
      clear L3
      go_wp2_with fail
      go_ret
      obtain ⟨d', m', P', hm⟩ := HO.out.2.2 rfl
      exact ⟨rfl, _, d', m', P', K3.out, Sy.applied hm HO.out.1⟩
    · have e1 : (er == 0) = false := by simp [h0]
      go_wp2_with fail
      with_reducible refine HD.out.mono ?_; rintro e w2 ⟨rfl, L2⟩
      have K2 := Lib.hid L2
      clear L2
      go_wp2_with fail
      go_ret
      exact ⟨rfl, _, d, m, P, K2.out, HY.out.dropped HO.out.2.1⟩
  have e15 : (c.kind == 5) = false := by simp [h15]
  by_cases h16 : c.kind = 6
  · rw [h16] at k0
    have HOp := Lib.hid (sGhost HY.out.mv HY.out.fit c.num HL.out)
    go_enter Tryz.func9, Tryz.ntmps9
    go_wp2_with fail
    with_reducible refine HOp.out.mono ?_; rintro e w1 ⟨er, S', rfl, L1, ho⟩
    have K1 := Lib.hid L1
    have HO := Lib.hid ho
    have HIm := Lib.hid (images_lay L1 ho.1)
    have HD := Lib.hid L1.drop
    clear L1 ho R k0 k1 k2 k3
    by_cases h0 : er = 0
    · subst h0
      go_wp2_with fail
      with_reducible refine HIm.out.mono ?_; rintro e w2 ⟨v, rfl, L2, -, ho2⟩
      have HAp := Lib.hid (apply_lay L2 HO.out.1 v _ ho2)
      clear L2 ho2
      go_wp2_with fail
      with_reducible refine HAp.out.mono ?_; rintro e w3 ⟨rfl, L3⟩
      have K3 := Lib.hid L3
      clear L3
      go_wp2_with fail
      go_ret
      obtain ⟨d', m', P', hm⟩ := HO.out.2.2 rfl
      exact ⟨rfl, _, d', m', P', K3.out, Sy.applied hm HO.out.1⟩
    · have e1 : (er == 0) = false := by simp [h0]
      go_wp2_with fail
      with_reducible refine HD.out.mono ?_; rintro e w2 ⟨rfl, L2⟩
      have K2 := Lib.hid L2
      clear L2
      go_wp2_with fail
      go_ret
      exact ⟨rfl, _, d, m, P, K2.out, HY.out.dropped HO.out.2.1⟩
  have e16 : (c.kind == 6) = false := by simp [h16]
  go_enter Tryz.func9, Tryz.ntmps9
  go_wp2_with fail
  go_ret
  exact ⟨rfl, _, d, m, P, HL.out, HY.out⟩
end Go.Proofs.YtljommhbhpappaaGreat
