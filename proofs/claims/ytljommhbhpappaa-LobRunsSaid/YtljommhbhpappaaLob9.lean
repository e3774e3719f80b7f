/-
  Layer 17 (lob): a law's land: steps done by the tree's calls.
-/
import Derived.Test.YtljommhbhpappaaLob8
namespace Go.Proofs.Ytljommhbhpappaa
open Go.ChangeShapes Go.WideShapes Go.ChangeAt Go.RowKit Go.Deep Go.Joins
set_option linter.unusedVariables false
set_option linter.unusedSimpArgs false

/-! ## a step as a value -/
def stpV (x : Stp) : Value := .agg (stpCs x)
@[go_sem] theorem stp_size (x : Stp) : (stpCs x).size = 3 := rfl
@[go_sem] theorem stp_cells (x : Stp) : (stpV x).cells = stpCs x := rfl
def loadStp (a : Value) : Sem Value := Instr.loadAt 47 a
def storeStp (a v : Value) : Sem Unit := Instr.storeAt 47 a v
def allocStp : Sem Value := Instr.alloc 47 true (.tuple #[])
@[go_sem ↓] theorem loadStp_eq (a : Value) : Instr.loadAt 47 a = loadStp a := rfl
@[go_sem ↓] theorem storeStp_eq (a v : Value) : Instr.storeAt 47 a v = storeStp a v := rfl
@[go_sem ↓] theorem allocStp_eq : Instr.alloc 47 true (.tuple #[]) = allocStp := rfl
@[go_sem] theorem run_allocStp (w : World) : allocStp.run Try.prog w = .ok (.pointer (some ⟨w.heap.size, 0, none⟩)) (w.alloc (.cells (stpCs (0, ByteArray.empty, ByteArray.empty)) 47)) := by kernel_rfl
theorem sizeStp : (Try.prog.info? 47).map (·.size) = some 3 := by kernel_rfl
def row3s (o : Option (Array Value)) : Bool := match o with | some c => c.size == 3 | none => false
@[go_sem] theorem row3s_stp (c : Stp) : row3s (some (stpCs c)) = true := rfl
@[go_sem] theorem run_storeStp (w : World) (n : Nat) (c : Stp) (h : row3s (rowAt w n) = true) : (storeStp (.pointer (some ⟨n, 0, none⟩)) (stpV c)).run Try.prog w = .ok () (w.setRow n (stpCs c)) := by
  have hv : (storeVar 47 ⟨n, 0, none⟩ (stpV c)).run Try.prog w = .ok () (w.setRow n (stpCs c)) := by
    cases hr : rowAt w n with
    | none => rw [hr] at h; cases h
    | some cc =>
      rw [hr] at h
      obtain ⟨t, ht⟩ := rowAt_heap hr
      have hs : cc.size = 3 := by simpa [row3s] using h
      have hst := run_storeCells_at Try.prog n 0 t (stpCs c).toList 0 cc w ht (by simp [hs, stp_size]) (by intro u hu; simp [stpCs] at hu; rcases hu with rfl | rfl | rfl <;> rfl)
      have e : cc.toList.drop (0 + 0 + (stpCs c).toList.length) = [] := by simp [hs, stp_size]
      rw [e] at hst
      cases hq : Try.prog.info? 47 with
      | none => have := sizeStp; simp [hq] at this
      | some i =>
        have hi : i.size = 3 := by have := sizeStp; simpa [hq] using this
        simp only [List.take_zero, List.nil_append, List.append_nil, Nat.add_zero, Array.toArray_toList] at hst
        simp [storeVar, Sem.run_bind, sizeOf, typeInfo, hq, hi, stp_cells, stp_size, hst]
  simp only [storeStp, Instr.storeAt, Instr.sureAddr, Sem.run_bind, Sem.run_pure, Result.andThen_ok, hv]
theorem load_stpIn {w : World} {b off : Nat} {c : Stp} (h : w.rangeAt b off (stpCs c).toList) : (loadStp (.pointer (some ⟨b, off, none⟩))).run Try.prog w = .ok (stpV c) w :=
  run_loadAt_mid w b off 47 (stpCs c).toList _ h Try.underlying47 rfl sizeStp

/-- steps that lie in memory, away from a stage's map -/
def StpAt (w : World) (mb : Nat) (a : Option Addr) (L : List Stp) : Prop :=
  L.length = 0 ∨ ∃ n, a = some ⟨n, 0, none⟩ ∧ n < w.heap.size ∧ n ≠ mb ∧ ∀ (i : Nat) (h : i < L.length), w.rangeAt n (i * 3) (stpCs L[i]).toList
theorem StpAt.grown {w w' : World} {mb : Nat} {a : Option Addr} {L : List Stp} (h : StpAt w mb a L) (hg : w.grownBy w' (some mb)) : StpAt w' mb a L := by
  rcases h with h0 | ⟨n, rfl, h1, h2, h3⟩
  · exact .inl h0
  · refine .inr ⟨n, rfl, Nat.lt_of_lt_of_le h1 hg.size, h2, fun i hi j v hv => ?_⟩
    exact (hg.cell_far _ h1 (by simpa using h2)).trans (h3 i hi j v hv)
theorem StpAt.below {w w' : World} {mb : Nat} {a : Option Addr} {L : List Stp} (h : StpAt w mb a L) (hb : Below w.heap.size w w') : StpAt w' mb a L := h.grown (grown_of_below hb _)
theorem stp_row : ∀ (L : List Stp) (i : Nat) (h : i < L.length) (j : Nat) (v : Value), (stpCs L[i]).toList[j]? = some v → (stpRow L)[i * 3 + j]? = some v
  | [], i, h, j, v, hv => by cases h
  | x :: r, 0, h, j, v, hv => by
    have hj : j < 3 := (List.getElem?_eq_some_iff.1 hv).1
    show ((stpCs x).toList ++ stpRow r)[0 * 3 + j]? = _
    rw [Nat.zero_mul, Nat.zero_add, List.getElem?_append_left (by have : (stpCs x).toList.length = 3 := rfl; omega)]
    exact hv
  | x :: r, i + 1, h, j, v, hv => by
    have ih := stp_row r i (by simpa using h) j v hv
    show ((stpCs x).toList ++ stpRow r)[(i + 1) * 3 + j]? = _
    rw [List.getElem?_append_right (by simp [stpCs]; omega), show (i + 1) * 3 + j - (stpCs x).toList.length = i * 3 + j from by simp [stpCs]; omega]
    exact ih
theorem stpAt_own {w : World} {g0 mb : Nat} {v : Value} {L : List Stp} (h : w.ownsRow g0 47 3 v L.length (stpRow L)) (hm : mb < g0) : ∃ a cp, v = .slice a L.length cp ∧ StpAt w mb a L := by
  rcases ownsRow_forms h with ⟨rfl, h0⟩ | ⟨g, cap, rfl⟩
  · exact ⟨none, 0, by rw [h0], .inl h0⟩
  · have hg := h.lt g rfl
    refine ⟨_, _, rfl, .inr ⟨g, rfl, hg.2, by omega, fun i hi j v hv => ?_⟩⟩
    have := h.cells (g := g) rfl (i * 3 + j) v (stp_row L i hi j v hv)
    rw [Addr.add_lit] at this
    simpa using this

theorem gvalid_at {g : Gm} {L : List Stp} (h : gvalid g L) {k : Nat} (hk : k < L.length) : gok (gall g (L.take k)) L[k] ∧ gall g (L.take (k + 1)) = gapp (gall g (L.take k)) L[k] ∧ nput (L.take (k + 1)) = nput (L.take k) + (if L[k].1 = 13 then 1 else 0) := by
  have e : L = L.take k ++ L[k] :: L.drop (k + 1) := by
    rw [← List.drop_eq_getElem_cons hk, List.take_append_drop]
  have e2 : L.take (k + 1) = L.take k ++ [L[k]] := by rw [List.take_add_one, List.getElem?_eq_getElem hk]; rfl
  refine ⟨?_, ?_, ?_⟩
  · rw [e, gvalid_append] at h
    exact h.2.1
  · rw [e2, gall_append]; rfl
  · rw [e2, nput_append]
    unfold nput
    by_cases c : L[k].1 = 13 <;> simp [c]
theorem nput_take (L : List Stp) (k : Nat) : nput (L.take k) ≤ nput L := by
  conv => rhs; rw [← List.take_append_drop k L, nput_append]
  omega

set_option maxHeartbeats 2000000 in
set_option maxRecDepth 100000 in
theorem land17 (L : List Stp) (g : Gm) (q : Nat) (hv : gvalid g L) (hq : q + nput L ≤ 1000) (hl : L.length ≤ 100000) (b mb hb pb : Nat) (a : Option Addr) (cp : Nat) (w0 w : World) (h : LandAt w0 w b mb hb pb g q) (hr : StpAt w mb a L) :
    Calls Try.prog 19 #[.pointer (some ⟨b, 0, none⟩), .slice a L.length cp] w fun e w' => e = .returned (.bool true) ∧ LandAt w0 w' b mb hb pb (gall g L) (q + nput L) ∧ w.grownBy w' (some mb) := by
  have H := Lib.hid h
  have HR := Lib.hid hr
  have HV := Lib.hid (fun k (hk : k < L.length) => gvalid_at hv hk)
  have hnt := nput_take L
  clear h hr hv
  go_enter Try.func19, Try.ntmps19
  go_wp2_with fail
  go_loopw [10] (fun v wr => ∃ k : Nat, k ≤ L.length ∧ v = .int .i64 k ∧ LandAt w0 wr b mb hb pb (gall g (L.take k)) (q + nput (L.take k)) ∧ w.grownBy wr (some mb)) (fun v _ => L.length - (intOf v).toNat)
  case atStart => exact ⟨0, by omega, rfl, by simpa [gall, nput] using H.out, World.grownBy.refl _ _⟩
  case round =>
    obtain ⟨k, hk, rfl, hA, hG⟩ := hrel
    obtain ⟨wo, rfl⟩ : ∃ wo : World, wo = wr := ⟨_, rfl⟩
    by_cases hlt : k < L.length
    · have hSt := HR.out.grown hG
      obtain ⟨n, hvp, hn, hnm, hrow⟩ := hSt.resolve_left (by omega)
      subst hvp
      have hld := load_stpIn (hrow k hlt)
      obtain ⟨hok, hga, hnp⟩ := HV.out k hlt
      have hnk := hnt k
      have hnk1 := hnt (k + 1)
      generalize L[k] = x at *
      obtain ⟨kind, key, val⟩ := x
      have B1 : Below wo.heap.size wo (wo.alloc (.cells (stpCs (kind, key, val)) 47)) := (Below.refl _ _).alloc (Nat.le_refl _) _
      have HA1 := Lib.hid (hA.below B1)
      have HG1 := Lib.hid (hG.trans (grown_of_below B1 (some mb)))
      have R1 := rowAt_at wo (stpCs (kind, key, val)) 47 _ rfl
      have c0 := (cell_row R1 0).trans (show _ = some (.int .i64 kind) from rfl)
      have c1 := (cell_row R1 1).trans (show _ = some (.string key) from rfl)
      have c2 := (cell_row R1 2).trans (show _ = some (.string val) from rfl)
      have HGA := Lib.hid hga
      have HNP := Lib.hid hnp
      clear hrow hSt hA hG B1 hga hnp
      by_cases k13 : kind = 13
      · subst k13
        have HP := Lib.hid (op_land_put HA1.out (by omega) key val hok)
        clear hok
        go_wp2_with fail
        refine HP.out.mono ?_; rintro e w2 ⟨u, rfl, h2, g2⟩
        have h3 : LandAt w0 w2 b mb hb pb (gall g (L.take (k + 1))) (q + nput (L.take (k + 1))) := by
          rw [HGA.out, HNP.out]; exact h2
        have H3 := Lib.hid h3
        have G3 := Lib.hid (HG1.out.trans g2)
        clear h2 g2 h3
        go_wp2_with fail
        exact ⟨⟨k + 1, by omega, by go_num, H3.out, G3.out⟩, by simp [intOf]; omega⟩
      · have hnp0 : nput (L.take (k + 1)) = nput (L.take k) := by rw [HNP.out, if_neg k13]; rfl
        by_cases k15 : kind = 15
        · subst k15
          have HP := Lib.hid (op_land_set HA1.out key val hok)
          clear hok
          go_wp2_with fail
          refine HP.out.mono ?_; rintro e w2 ⟨u, rfl, h2, g2⟩
          have h3 : LandAt w0 w2 b mb hb pb (gall g (L.take (k + 1))) (q + nput (L.take (k + 1))) := by
            rw [HGA.out, hnp0]; exact h2
          have H3 := Lib.hid h3
          have G3 := Lib.hid (HG1.out.trans g2)
          clear h2 g2 h3
          go_wp2_with fail
          exact ⟨⟨k + 1, by omega, by go_num, H3.out, G3.out⟩, by simp [intOf]; omega⟩
        · have k16 : kind = 16 := by
            rcases hok.2.2 with ⟨e, -⟩ | ⟨e | e, -⟩
            · exact absurd e k13
            · exact absurd e k15
            · exact e
          subst k16
          have HP := Lib.hid (op_land_cut HA1.out key val hok)
          clear hok
          go_wp2_with fail
          refine HP.out.mono ?_; rintro e w2 ⟨u, rfl, h2, g2⟩
          have h3 : LandAt w0 w2 b mb hb pb (gall g (L.take (k + 1))) (q + nput (L.take (k + 1))) := by
            rw [HGA.out, hnp0]; exact h2
          have H3 := Lib.hid h3
          have G3 := Lib.hid (HG1.out.trans g2)
          clear h2 g2 h3
          go_wp2_with fail
          exact ⟨⟨k + 1, by omega, by go_num, H3.out, G3.out⟩, by simp [intOf]; omega⟩
    · have hke : k = L.length := by omega
      subst hke
      rw [List.take_length] at hA
      have HA := Lib.hid hA
      have HG := Lib.hid hG
      clear hA hG
      go_wp2_with fail
      go_ret
      exact ⟨rfl, HA.out, HG.out⟩
end Go.Proofs.Ytljommhbhpappaa
