/-
  The document's answer for layer 13: its shelf's Apply.
-/
import Derived.Test.YthehglhbgplfhaaRef13d
namespace Go.Proofs.Ythehglhbgplfhaa
open Go.RowKit Go.Joins
set_option linter.unusedVariables false
set_option linter.unusedSimpArgs false

theorem imgRow_ne {w : World} {B g n c kp : Nat} {xs cells : List Value} {a : Array Value} (h : w.ownsRow B 48 17 (.slice (some ⟨g, 0, none⟩) n c) n xs) (hs : w.heap[kp]? = some (.cells a 41)) : g ≠ kp := by
  rcases own_ne_block h hs (by decide) with h1 | h1
  · cases h1
  · intro e; subst e; exact h1 rfl
theorem RShelf.set {w : World} {kb kp : Nat} {l : List Pg} (h : RShelf w kb kp l) (i : Nat) (p : Pg) : RShelf (w.setRow kp (rowsC (l.set i p)).toArray) kb kp (l.set i p) := by
  have hne := h.ne
  obtain ⟨h1, h2, h3, h4⟩ := h
  refine ⟨?_, ?_, by simpa using h3, by simpa using h4⟩
  · rw [List.length_set, setRow_other w kp kb _ hne]; exact h1
  · exact setRow_heap w kp _ _ _ (0, 0) h2

set_option maxHeartbeats 4000000 in
set_option maxRecDepth 100000 in
theorem rapply_ok (kb kp : Nat) (l : List Pg) (I : List (Int × Pg)) (v : Value) (B : Nat) (w : World) (hs : RShelf w kb kp l) (hI : Fits l I) (hv : w.ownsRow B 48 17 v I.length (imgRow I)) (hn : I.length ≤ 2000) :
    Calls Try.prog 30 #[.pointer (some ⟨kb, 0, none⟩), v] w fun e w' => e = .returned (.int .i64 0) ∧ w.grownBy w' (some kp) ∧ RShelf w' kb kp (appl l I) := by
  have l1 := (Array.getElem?_eq_some_iff.1 hs.1).1
  have l2 := (Array.getElem?_eq_some_iff.1 hs.2.1).1
  have hll := hs.2.2.2
  have HS := Lib.hid hs
  have HI := Lib.hid hI
  have HV := Lib.hid hv
  obtain ⟨vp, vc, hv2⟩ : ∃ vp vc, v = .slice vp I.length vc := by
    rcases ownsRow_forms hv with ⟨h1, h2⟩ | ⟨g, c, h1⟩
    · exact ⟨_, _, by rw [h1, h2]⟩
    · exact ⟨_, _, h1⟩
  subst hv2
  clear hs hI hv
  go_enter Try.func30, Try.ntmps30
  go_wp2_with fail
  go_loopw [5] (fun i wr => ∃ j : Nat, j ≤ I.length ∧ i = .int .i64 j ∧ Below w.heap.size w wr) (fun i _ => I.length - (intOf i).toNat)
  case atStart => exact ⟨0, by omega, rfl, Below.refl _ _⟩
  case round =>
    obtain ⟨j, hj, rfl, hbl⟩ := hrel
    have hz := hbl.size
    by_cases hlt : j < I.length
    · obtain ⟨g, hg⟩ : ∃ g, vp = some ⟨g, 0, none⟩ := by
        obtain ⟨g, cap, hv⟩ := ownsRow_form HV.out (by omega)
        simp only [Value.slice.injEq] at hv
        exact ⟨g, hv.1⟩
      subst hg
      have hjI : (j : Int) < (I.length : Int) := by omega
      have hlg := (HV.out.lt g rfl).2
      have hV1 := own_low HV.out hbl
      have hci := cell_img hV1 j hlt
      have KA := fun (w' : World) (hb' : Below w.heap.size w w') => load_imgAt (own_low HV.out hb') j hlt
      have hfit := HI.out _ (List.getElem_mem hlt)
      have c0 := (hbl.cell (p := ⟨kb, 0, none⟩) l1).trans (cell_of_block HS.out.1 0)
      simp only [List.getElem?_toArray, List.getElem?_cons_zero] at c0
      clear hV1
      generalize I[j] = x at *
      obtain ⟨id, p⟩ := x
      simp only at hci KA hfit
      obtain ⟨i, rfl⟩ := Int.eq_ofNat_of_zero_le hfit.1
      have hi : (i : Int) < (l.length : Int) := hfit.2.1
      have HC := Lib.hid (fun w' => right_any p w')
      rw [hfit.2.2] at HC
      have HB := Lib.hid hbl
      have g1 : decide ((i : Int) < 0) = false := by simp
      have g2 : decide ((l.length : Int) ≤ (i : Int)) = false := by simp; omega
      have g3 : decide (l.length ≤ i) = false := by simp; omega
      have k0 := KA wr hbl
      have k1 := KA wr.drew hbl.drew
      have HK := Lib.hid KA
      have lk : kb < wr.heap.size := by omega
      have lg : g < wr.heap.size := by omega
      clear hbl hfit KA
      go_wp2_with fail
      go_region_held3 (fun w' => w'.cell? ⟨g, j * 17, none⟩ = some (.int .i64 (i : Int)) ∧ w'.cell? ⟨kb, 0, none⟩ = some (.slice (some ⟨kp, 0, none⟩) l.length l.length) ∧ (loadPg (.pointer (some ⟨g, j * 17 + 1, none⟩))).run Try.prog w' = .ok p.v w')
        (first
          | exact ⟨hci, c0, k1⟩
          | exact ⟨(hb1.cell (p := ⟨g, j * 17, none⟩) lg).trans hci, (hb1.cell (p := ⟨kb, 0, none⟩) lk).trans c0, HK.out _ (HB.out.drew.trans (hb1.mono hz))⟩)
        (first | ((go_at_call 51; refine (HC.out _).mono ?_; rintro e w1 ⟨rfl, hb1⟩)))
      have HB1 := Lib.hid (HB.out.drew.trans (hb1.mono hz))
      clear hb1 k0 k1
      go_wp2_with fail
      go_roundw
      case rel => exact ⟨j + 1, by omega, by go_num, HB1.out⟩
      case measure => simp [intOf]; omega
    · have hje : (I.length : Int) ≤ (j : Int) := by omega
      have HB := Lib.hid hbl
      have hs1 := Lib.hid (HS.out.grown (tb := w.heap.size + wr.heap.size) (grown_of_below hbl _) (by omega) (by omega))
      have hv1 := Lib.hid (own_low HV.out hbl)
      clear hbl
      obtain ⟨wo, rfl⟩ : ∃ wo : World, wo = wr := ⟨_, rfl⟩
      go_wp2_with fail
      go_loopw [6] (fun i wr => ∃ j : Nat, j ≤ I.length ∧ i = .int .i64 j ∧ w.grownBy wr (some kp) ∧ RShelf wr kb kp (appl l (I.take j)) ∧ wr.ownsRow B 48 17 (.slice vp I.length vc) I.length (imgRow I)) (fun i _ => I.length - (intOf i).toNat)
      case atStart => exact ⟨0, by omega, rfl, grown_of_below HB.out _, hs1.out, hv1.out⟩
      case round =>
        obtain ⟨j, hj, rfl, hg, hs2, hv2⟩ := hrel
        have hz2 := hg.size
        by_cases hlt : j < I.length
        · obtain ⟨g, hg'⟩ : ∃ g, vp = some ⟨g, 0, none⟩ := by
            obtain ⟨g, cap, hv⟩ := ownsRow_form hv2 (by omega)
            simp only [Value.slice.injEq] at hv
            exact ⟨g, hv.1⟩
          subst hg'
          have hjI : (j : Int) < (I.length : Int) := by omega
          have hci := cell_img hv2 j hlt
          have hld := load_imgAt hv2.drew j hlt
          have hfit := HI.out _ (List.getElem_mem hlt)
          have hgp : g ≠ kp := imgRow_ne (cells := []) hv2 hs2.2.1
          have c0 := cell_of_block hs2.1 0
          simp only [List.getElem?_toArray, List.getElem?_cons_zero, appl_length] at c0
          have htk : I.take (j + 1) = I.take j ++ [I[j]] := by rw [List.take_succ_eq_append_getElem hlt]
          have hap := appl_snoc l (I.take j) I[j]
          rw [← htk] at hap
          clear htk
          generalize I[j] = x at *
          obtain ⟨id, p⟩ := x
          simp only at hci hld hfit hap
          obtain ⟨i, rfl⟩ := Int.eq_ofNat_of_zero_le hfit.1
          rw [Int.toNat_natCast] at hap
          have hi : (i : Int) < (l.length : Int) := hfit.2.1
          have hi2 : i < (appl l (I.take j)).length := by rw [appl_length]; omega
          obtain ⟨l', hl'⟩ : ∃ l', appl l (I.take j) = l' := ⟨_, rfl⟩
          rw [hl'] at hs2 hi2 hap
          have k4 := store_shelf (w := wr.drew) hs2.2.1 i hi2 p
          have HS2 := Lib.hid hs2
          have HV2 := Lib.hid hv2
          have HG2 := Lib.hid hg
          have HAp := Lib.hid hap
          clear hs2 hv2 hg hap hl' hfit
          go_wp2_with fail
          go_region
          have hgr : some g ≠ some kp := by simpa using hgp
          have hsA := (show RShelf wr.drew kb kp l' from HS2.out).set i p
          have hgA := grown_setRow (grown_drew HG2.out) (rowsC (l'.set i p)).toArray
          have hvA := (HV2.out.drew).kept (grown_setRow (grown_of_below (Below.refl _ _) (some kp)) (rowsC (l'.set i p)).toArray) (.inr hgr)
          have KS := Lib.hid hsA
          have KG := Lib.hid hgA
          have KV := Lib.hid hvA
          clear hsA hgA hvA k4 hld c0
          go_wp2_with fail
          go_roundw
          case rel => exact ⟨j + 1, by omega, by go_num, KG.out, by rw [HAp.out]; exact KS.out, KV.out⟩
          case measure => simp [intOf]; omega
        · have hje : (I.length : Int) ≤ (j : Int) := by omega
          have htk : I.take j = I := List.take_of_length_le (by omega)
          rw [htk] at hs2
          have KS := Lib.hid hs2
          have KG := Lib.hid hg
          clear hs2 hg hv2
          go_wp2_with fail
          go_ret
          exact ⟨rfl, KG.out, KS.out⟩
end Go.Proofs.Ythehglhbgplfhaa
