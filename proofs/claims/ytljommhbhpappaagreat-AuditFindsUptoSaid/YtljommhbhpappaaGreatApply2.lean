/-
  Layer 13 (stage): Shelf.Apply of images of which one does not fit; of one image.
-/
import Derived.Test.YtljommhbhpappaaGreatPkLand
namespace Go.Proofs.YtljommhbhpappaaGreat
open Go.RowKit Go.Joins
set_option linter.unusedVariables false
set_option linter.unusedSimpArgs false

set_option maxHeartbeats 4000000 in
set_option maxRecDepth 100000 in
theorem apply_bad (hb pb : Nat) (l : List Pg) (I : List (Int × Pg)) (v : Value) (B : Nat) (w : World) (hs : ShelfAt w hb pb l) (j0 : Nat) (hj0 : j0 < I.length) (hgd : ∀ (i : Nat), i < j0 → ∀ (h : i < I.length), 0 ≤ I[i].1 ∧ I[i].1 < l.length ∧ okPg I[i].2 = true) (hbd : ∀ (h : j0 < I.length), ¬ (0 ≤ I[j0].1 ∧ I[j0].1 < l.length ∧ okPg I[j0].2 = true))
    (hv : w.ownsRow B 68 17 v I.length (imgRow I)) (hn : I.length ≤ 2000) :
    Calls Tryz.prog 8 #[.pointer (some ⟨hb, 0, none⟩), v] w fun e w' => e = .returned (.int .i64 1) ∧ Below w.heap.size w w' := by
  have l1 := (Array.getElem?_eq_some_iff.1 hs.1).1
  have l2 := (Array.getElem?_eq_some_iff.1 hs.2.1).1
  have hll := hs.2.2.2.2
  have HS := Lib.hid hs
  have HGd := Lib.hid hgd
  have HBd := Lib.hid hbd
  have HV := Lib.hid hv
  obtain ⟨vp, vc, hv2⟩ : ∃ vp vc, v = .slice vp I.length vc := by
    rcases ownsRow_forms hv with ⟨h1, h2⟩ | ⟨g, c, h1⟩
    · exact ⟨_, _, by rw [h1, h2]⟩
    · exact ⟨_, _, h1⟩
  subst hv2
  clear hs hgd hbd hv
  go_enter Tryz.func8, Tryz.ntmps8
  go_wp2_with fail
  go_loopw [13] (fun i wr => ∃ j : Nat, j ≤ j0 ∧ i = .int .i64 j ∧ Below w.heap.size w wr) (fun i _ => I.length - (intOf i).toNat)
  case atStart => exact ⟨0, by omega, rfl, Below.refl _ _⟩
  case round =>
    obtain ⟨j, hj, rfl, hbl⟩ := hrel
    have hz := hbl.size
    by_cases hl0 : j < j0
    · have hlt : j < I.length := by omega
      obtain ⟨g, hg⟩ : ∃ g, vp = some ⟨g, 0, none⟩ := by
        obtain ⟨g, cap, hv⟩ := ownsRow_form HV.out (by omega)
        simp only [Value.slice.injEq] at hv
        exact ⟨g, hv.1⟩
      subst hg
      have hld := load_img (own_low HV.out hbl) j hlt
      have hfit := HGd.out j hl0 hlt
      have c0 := (hbl.cell (p := ⟨hb, 0, none⟩) l1).trans (cell_of_block HS.out.1 0)
      simp only [List.getElem?_toArray, List.getElem?_cons_zero] at c0
      generalize I[j] = x at *
      obtain ⟨id, p⟩ := x
      simp only at hld hfit
      obtain ⟨i, rfl⟩ := Int.eq_ofNat_of_zero_le hfit.1
      have hi : (i : Int) < (l.length : Int) := hfit.2.1
      have HC := Lib.hid (fun w' => check_any p w')
      rw [hfit.2.2] at HC
      have e0 : chkE true = 0 := rfl
      rw [e0] at HC
      have hlp := load_imgPage (rowAt_at wr (imgCs i p) 68 _ rfl)
      have HB := Lib.hid hbl
      have c1 : (wr.alloc (.cells (imgCs i p) 68)).cell? ⟨hb, 0, none⟩ = some (.slice (some ⟨pb, 0, none⟩) l.length l.length) := (((Below.refl wr.heap.size wr).alloc (Nat.le_refl _) (.cells (imgCs i p) 68)).cell (p := ⟨hb, 0, none⟩) (by show hb < wr.heap.size; omega)).trans c0
      have g1 : decide ((i : Int) < 0) = false := by simp
      have g2 : decide ((l.length : Int) ≤ (i : Int)) = false := by simp; omega
      have g3 : decide (l.length ≤ i) = false := by simp; omega
      clear hbl hfit e0
      go_wp2_with fail
      have hR : rowAt (wr.alloc (.cells (imgCs i p) 68)).drew wr.heap.size = some (imgCs i p) := rowAt_at wr _ _ _ rfl
      have k1 : (wr.alloc (.cells (imgCs i p) 68)).drew.cell? ⟨wr.heap.size, 0, none⟩ = some (.int .i64 (i : Int)) := (cell_row hR 0).trans rfl
      have k2 : (wr.alloc (.cells (imgCs i p) 68)).drew.cell? ⟨hb, 0, none⟩ = some (.slice (some ⟨pb, 0, none⟩) l.length l.length) := c1
      have k3 := load_imgPage hR
      have hhb : hb < wr.heap.size := by omega
      go_region_held3 (fun w' => w'.cell? ⟨wr.heap.size, 0, none⟩ = some (.int .i64 (i : Int)) ∧ w'.cell? ⟨hb, 0, none⟩ = some (.slice (some ⟨pb, 0, none⟩) l.length l.length) ∧ (loadPg (.pointer (some ⟨wr.heap.size, 1, none⟩))).run Tryz.prog w' = .ok p.v w')
        (first
          | exact ⟨k1, k2, k3⟩
          | exact ⟨(hb1.cell (p := ⟨wr.heap.size, 0, none⟩) (by simp)).trans k1, (hb1.cell (p := ⟨hb, 0, none⟩) (by simp; omega)).trans k2, load_imgPage ((rowAt_below hb1 (by simp)).trans hR)⟩)
        (first | ((go_at_call 22; refine (HC.out _).mono ?_; rintro e w1 ⟨rfl, hb1⟩)))
      have B1 : Below w.heap.size w w1 := (HB.out.alloc hz (.cells (imgCs i p) 68)).drew.trans (hb1.mono (by simp; omega))
      have HB1 := Lib.hid B1
      clear hb1 B1 k1 k2 k3 hR
      go_wp2_with fail
      go_roundw
      case rel => exact ⟨j + 1, by omega, by go_num, HB1.out⟩
      case measure => simp [intOf]; omega
    · have hje : j = j0 := by omega
      subst hje
      have hlt := hj0
      obtain ⟨g, hg⟩ : ∃ g, vp = some ⟨g, 0, none⟩ := by
        obtain ⟨g, cap, hv⟩ := ownsRow_form HV.out (by omega)
        simp only [Value.slice.injEq] at hv
        exact ⟨g, hv.1⟩
      subst hg
      have hld := load_img (own_low HV.out hbl) j hlt
      have hbad := HBd.out hlt
      have c0 := (hbl.cell (p := ⟨hb, 0, none⟩) l1).trans (cell_of_block HS.out.1 0)
      simp only [List.getElem?_toArray, List.getElem?_cons_zero] at c0
      generalize I[j] = x at *
      obtain ⟨id, p⟩ := x
      simp only at hld hbad
      have HB := Lib.hid hbl
      have hhb : hb < wr.heap.size := by omega
      have hR : rowAt (wr.alloc (.cells (imgCs id p) 68)).drew wr.heap.size = some (imgCs id p) := rowAt_at wr _ _ _ rfl
      have k1 : (wr.alloc (.cells (imgCs id p) 68)).drew.cell? ⟨wr.heap.size, 0, none⟩ = some (.int .i64 id) := (cell_row hR 0).trans rfl
      have k2 : (wr.alloc (.cells (imgCs id p) 68)).drew.cell? ⟨hb, 0, none⟩ = some (.slice (some ⟨pb, 0, none⟩) l.length l.length) := (((Below.refl wr.heap.size wr).alloc (Nat.le_refl _) (.cells (imgCs id p) 68)).cell (p := ⟨hb, 0, none⟩) (by show hb < wr.heap.size; omega)).trans c0
      have k3 := load_imgPage hR
      have HC := Lib.hid (fun w' => check_any p w')
      have c1 : (wr.alloc (.cells (imgCs id p) 68)).cell? ⟨hb, 0, none⟩ = some (.slice (some ⟨pb, 0, none⟩) l.length l.length) := k2
      clear hbl c0
      by_cases n1 : id < 0
      · have g1 : decide (id < 0) = true := by simpa using n1
        clear hbad
        go_wp2_with fail
        go_quiet (fail)
        go_wp2_with fail
        go_ret
        exact ⟨rfl, below_drewN (HB.out.alloc hz (.cells (imgCs id p) 68)) _⟩
      by_cases n2 : (l.length : Int) ≤ id
      · have g1 : decide (id < 0) = false := by simp; omega
        have g2 : decide ((l.length : Int) ≤ id) = true := by simpa using n2
        clear hbad
        go_wp2_with fail
        go_quiet (fail)
        go_wp2_with fail
        go_ret
        exact ⟨rfl, below_drewN (HB.out.alloc hz (.cells (imgCs id p) 68)) _⟩
      · have g1 : decide (id < 0) = false := by simp; omega
        have g2 : decide ((l.length : Int) ≤ id) = false := by simp; omega
        have hp : okPg p = false := by
          cases h : okPg p with
          | false => rfl
          | true => exact absurd ⟨by omega, by omega, h⟩ hbad
        rw [hp] at HC
        have e0 : chkE false = 1 := rfl
        rw [e0] at HC
        clear hbad hp e0
        go_wp2_with fail
        go_region_held3 (fun w' => w'.cell? ⟨wr.heap.size, 0, none⟩ = some (.int .i64 id) ∧ w'.cell? ⟨hb, 0, none⟩ = some (.slice (some ⟨pb, 0, none⟩) l.length l.length) ∧ (loadPg (.pointer (some ⟨wr.heap.size, 1, none⟩))).run Tryz.prog w' = .ok p.v w')
          (first
            | exact ⟨k1, k2, k3⟩
            | exact ⟨(hb1.cell (p := ⟨wr.heap.size, 0, none⟩) (by simp)).trans k1, (hb1.cell (p := ⟨hb, 0, none⟩) (by simp; omega)).trans k2, load_imgPage ((rowAt_below hb1 (by simp)).trans hR)⟩)
          (first | ((go_at_call 22; refine (HC.out _).mono ?_; rintro e w1 ⟨rfl, hb1⟩)))
        have B1 : Below w.heap.size w w1 := (HB.out.alloc hz (.cells (imgCs id p) 68)).drew.trans (hb1.mono (by simp; omega))
        have HB1 := Lib.hid B1
        clear hb1 B1 k1 k2 k3 hR
        go_wp2_with fail
        go_ret
        exact ⟨rfl, HB1.out⟩

/-- does an image fit a shelf? -/
def fitB (l : List Pg) (x : Int × Pg) : Bool := decide (0 ≤ x.1) && decide (x.1 < l.length) && okPg x.2
theorem fitB_iff (l : List Pg) (x : Int × Pg) : fitB l x = true ↔ 0 ≤ x.1 ∧ x.1 < l.length ∧ okPg x.2 = true := by
  simp [fitB, and_assoc]
/-- the shelf's pages behind Apply of one image -/
def appl1 (l : List Pg) (x : Int × Pg) : List Pg := if fitB l x then l.set x.1.toNat x.2 else l
theorem appl1_length (l : List Pg) (x : Int × Pg) : (appl1 l x).length = l.length := by
  unfold appl1; split <;> simp
theorem apply_one (hb pb : Nat) (l : List Pg) (id : Int) (p : Pg) (v : Value) (B : Nat) (w : World) (hs : ShelfAt w hb pb l) (hv : w.ownsRow B 68 17 v 1 (imgCs id p).toList) :
    Calls Tryz.prog 8 #[.pointer (some ⟨hb, 0, none⟩), v] w fun e w' => e = .returned (.int .i64 (chkE (fitB l (id, p)))) ∧ w.grownBy w' (some pb) ∧ ShelfAt w' hb pb (appl1 l (id, p)) := by
  have e1 : imgRow [(id, p)] = (imgCs id p).toList := by simp [imgRow]
  cases hf : fitB l (id, p) with
  | true =>
    refine (apply_ok hb pb l [(id, p)] v B w hs (fun x hx => ?_) (by rw [e1]; exact hv) (by simp)).mono ?_
    · simp at hx; subst hx; exact (fitB_iff _ _).1 hf
    · rintro e w' ⟨h1, h2, h3⟩
      exact ⟨h1, h2, by unfold appl1; rw [hf]; exact h3⟩
  | false =>
    refine (apply_bad hb pb l [(id, p)] v B w hs 0 (by simp) (fun i hi => by omega) (fun _ hh => ?_) (by rw [e1]; exact hv) (by simp)).mono ?_
    · have := (fitB_iff l (id, p)).2 hh
      rw [hf] at this; cases this
    · rintro e w' ⟨h1, h2⟩
      exact ⟨h1, grown_of_below h2 _, by
        unfold appl1; rw [hf]
        exact hs.below h2 (Array.getElem?_eq_some_iff.1 hs.1).1 (Array.getElem?_eq_some_iff.1 hs.2.1).1⟩
end Go.Proofs.YtljommhbhpappaaGreat
