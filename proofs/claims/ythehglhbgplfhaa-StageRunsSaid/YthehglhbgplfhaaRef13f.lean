/-
  The document's answer for layer 13: its shelf's Apply of images of which one does not fit.
-/
import Derived.Test.YthehglhbgplfhaaRef13e
namespace Go.Proofs.Ythehglhbgplfhaa
open Go.RowKit Go.Joins
set_option linter.unusedVariables false
set_option linter.unusedSimpArgs false

set_option maxHeartbeats 4000000 in
set_option maxRecDepth 100000 in
theorem rapply_bad (kb kp : Nat) (l : List Pg) (I : List (Int × Pg)) (v : Value) (B : Nat) (w : World) (hs : RShelf w kb kp l) (j0 : Nat) (hj0 : j0 < I.length) (hgd : ∀ (i : Nat), i < j0 → ∀ (h : i < I.length), 0 ≤ I[i].1 ∧ I[i].1 < l.length ∧ okPg I[i].2 = true) (hbd : ∀ (h : j0 < I.length), ¬ (0 ≤ I[j0].1 ∧ I[j0].1 < l.length ∧ okPg I[j0].2 = true))
    (hv : w.ownsRow B 48 17 v I.length (imgRow I)) (hn : I.length ≤ 2000) :
    Calls Try.prog 30 #[.pointer (some ⟨kb, 0, none⟩), v] w fun e w' => e = .returned (.int .i64 1) ∧ Below w.heap.size w w' := by
  have l1 := (Array.getElem?_eq_some_iff.1 hs.1).1
  have l2 := (Array.getElem?_eq_some_iff.1 hs.2.1).1
  have hll := hs.2.2.2
  have HS := Lib.hid hs
  have HGd := Lib.hid hgd
  have HBd := Lib.hid hbd
  have HV := Lib.hid hv
  obtain ⟨vp, vc, hv2⟩ : ∃ vp vc, v = .slice vp I.length vc := by
    rcases ownsRow_forms hv with ⟨h1, h2⟩ | ⟨g, c, h1⟩
    · exact ⟨_, _, by rw [h1, h2]⟩
    · exact ⟨_, _, h1⟩
  subst hv2
  obtain ⟨g, hg⟩ : ∃ g, vp = some ⟨g, 0, none⟩ := by
    obtain ⟨g, cap, hv⟩ := ownsRow_form hv (by omega)
    simp only [Value.slice.injEq] at hv
    exact ⟨g, hv.1⟩
  subst hg
  clear hs hgd hbd hv
  go_enter Try.func30, Try.ntmps30
  go_wp2_with fail
  go_loopw [5] (fun i wr => ∃ j : Nat, j ≤ j0 ∧ i = .int .i64 j ∧ Below w.heap.size w wr) (fun i _ => I.length - (intOf i).toNat)
  case atStart => exact ⟨0, by omega, rfl, Below.refl _ _⟩
  case round =>
    obtain ⟨j, hj, rfl, hbl⟩ := hrel
    have hz := hbl.size
    have hlt : j < I.length := by omega
    have hjI : (j : Int) < (I.length : Int) := by omega
    have hlg := (HV.out.lt g rfl).2
    have hV1 := own_low HV.out hbl
    have hci := cell_img hV1 j hlt
    have KA := fun (w' : World) (hb' : Below w.heap.size w w') => load_imgAt (own_low HV.out hb') j hlt
    have c0 := (hbl.cell (p := ⟨kb, 0, none⟩) l1).trans (cell_of_block HS.out.1 0)
    simp only [List.getElem?_toArray, List.getElem?_cons_zero] at c0
    have lk : kb < wr.heap.size := by omega
    have lg : g < wr.heap.size := by omega
    have HB := Lib.hid hbl
    have HC := Lib.hid (fun p w' => right_any p w')
    have hfit : j < j0 → 0 ≤ I[j].1 ∧ I[j].1 < l.length ∧ okPg I[j].2 = true := fun h => HGd.out j h hlt
    have hbad : j0 ≤ j → ¬ (0 ≤ I[j].1 ∧ I[j].1 < l.length ∧ okPg I[j].2 = true) := fun h => by
      have e : j = j0 := by omega
      subst e
      exact HBd.out hlt
    clear hV1
    generalize I[j] = x at *
    obtain ⟨id, p⟩ := x
    simp only at hci KA hfit hbad
    have k0 := KA wr hbl
    have k1 := KA wr.drew hbl.drew
    have HK := Lib.hid KA
    clear hbl KA
    by_cases hl0 : j < j0
    · have hfit := hfit hl0
      clear hbad
      obtain ⟨i, rfl⟩ := Int.eq_ofNat_of_zero_le hfit.1
      have hi : (i : Int) < (l.length : Int) := hfit.2.1
      have HC := Lib.hid (fun w' => HC.out p w')
      rw [hfit.2.2] at HC
      have g1 : decide ((i : Int) < 0) = false := by simp
      have g2 : decide ((l.length : Int) ≤ (i : Int)) = false := by simp; omega
      have g3 : decide (l.length ≤ i) = false := by simp; omega
      clear hfit
      go_wp2_with fail
      go_region_held3 (fun w' => w'.cell? ⟨g, j * 17, none⟩ = some (.int .i64 (i : Int)) ∧ w'.cell? ⟨kb, 0, none⟩ = some (.slice (some ⟨kp, 0, none⟩) l.length l.length) ∧ (loadPg (.pointer (some ⟨g, j * 17 + 1, none⟩))).run Try.prog w' = .ok p.v w')
        (first
          | exact ⟨hci, c0, k1⟩
          | exact ⟨(hb1.cell (p := ⟨g, j * 17, none⟩) lg).trans hci, (hb1.cell (p := ⟨kb, 0, none⟩) lk).trans c0, HK.out _ (HB.out.drew.trans (hb1.mono hz))⟩)
        (first | ((go_at_call 51; refine (HC.out _).mono ?_; rintro e w1 ⟨rfl, hb1⟩)))
      have HB1 := Lib.hid (HB.out.drew.trans (hb1.mono hz))
      clear hb1 k0 k1
      go_wp2_with fail
      go_roundw
      case rel => exact ⟨j + 1, by omega, by go_num, HB1.out⟩
      case measure => simp [intOf]; omega
    · have hbad := hbad (by omega)
      clear hfit
      by_cases n1 : id < 0
      · have g1 : decide (id < 0) = true := by simpa using n1
        clear hbad
        go_wp2_with fail
        go_quiet (fail)
        go_wp2_with fail
        go_ret
        exact ⟨rfl, below_drewN HB.out _⟩
      by_cases n2 : (l.length : Int) ≤ id
      · have g1 : decide (id < 0) = false := by simp; omega
        have g2 : decide ((l.length : Int) ≤ id) = true := by simpa using n2
        clear hbad
        go_wp2_with fail
        go_quiet (fail)
        go_wp2_with fail
        go_ret
        exact ⟨rfl, below_drewN HB.out _⟩
      · have g1 : decide (id < 0) = false := by simp; omega
        have g2 : decide ((l.length : Int) ≤ id) = false := by simp; omega
        have hp : okPg p = false := by
          cases h : okPg p with
          | false => rfl
          | true => exact absurd ⟨by omega, by omega, h⟩ hbad
        have HC := Lib.hid (fun w' => HC.out p w')
        rw [hp] at HC
        clear hbad hp
        go_wp2_with fail
        go_region_held3 (fun w' => w'.cell? ⟨g, j * 17, none⟩ = some (.int .i64 id) ∧ w'.cell? ⟨kb, 0, none⟩ = some (.slice (some ⟨kp, 0, none⟩) l.length l.length) ∧ (loadPg (.pointer (some ⟨g, j * 17 + 1, none⟩))).run Try.prog w' = .ok p.v w')
          (first
            | exact ⟨hci, c0, k1⟩
            | exact ⟨(hb1.cell (p := ⟨g, j * 17, none⟩) lg).trans hci, (hb1.cell (p := ⟨kb, 0, none⟩) lk).trans c0, HK.out _ (HB.out.drew.trans (hb1.mono hz))⟩)
          (first | ((go_at_call 51; refine (HC.out _).mono ?_; rintro e w1 ⟨rfl, hb1⟩)))
        have HB1 := Lib.hid (HB.out.drew.trans (hb1.mono hz))
        clear hb1 k0 k1
        go_wp2_with fail
        go_ret
        exact ⟨rfl, HB1.out⟩
end Go.Proofs.Ythehglhbgplfhaa
