/-
  The document's answer for layer 13: its stage's Images.
-/
import Derived.Test.YthehglhbgplfhaaRef13c
namespace Go.Proofs.Ythehglhbgplfhaa
open Go.RowKit Go.Joins
set_option linter.unusedVariables false
set_option linter.unusedSimpArgs false

/-- the document's images -/
def rimgs (l : List Pg) (P : List (Int × Pg)) : List (Int × Pg) := P.filter fun x => !pgEq (shelfPg l x.1) x.2
theorem rimgs_snoc (l : List Pg) (P : List (Int × Pg)) (x : Int × Pg) : rimgs l (P ++ [x]) = if pgEq (shelfPg l x.1) x.2 then rimgs l P else rimgs l P ++ [x] := by
  unfold rimgs
  rw [List.filter_append]
  cases h : pgEq (shelfPg l x.1) x.2 <;> simp [h]

def RImAt (w wr : World) (l : List Pg) (P : List (Int × Pg)) (j : Nat) (out : Value) : Prop :=
  Below w.heap.size w wr ∧ wr.ownsRow w.heap.size 48 17 out (rimgs l (P.take j)).length (imgRow (rimgs l (P.take j)))

set_option maxHeartbeats 4000000 in
set_option maxRecDepth 100000 in
theorem rimages_any (tb kb kp B : Nat) (l : List Pg) (v : Value) (P : List (Int × Pg)) (w : World) (h : RStage w tb kb kp l v B P) (hn : P.length ≤ 1024) (N : Nat) (hN : N ≤ P.length)
    (hgd : ∀ i, i < N → ∀ h : i < P.length, shelfE l P[i].1 = 0) (hbd : ∀ h : N < P.length, shelfE l P[N].1 = 1) :
    Calls Try.prog 28 #[.pointer (some ⟨tb, 0, none⟩)] w fun e w' => Below w.heap.size w w' ∧ (N < P.length → e = .returned (.tuple #[.slice none 0 0, .int .i64 1])) ∧
      (N = P.length → ∃ v, e = .returned (.tuple #[v, .int .i64 0]) ∧ w'.ownsRow w.heap.size 48 17 v (rimgs l P).length (imgRow (rimgs l P))) := by
  obtain ⟨vp, vc, hv2⟩ : ∃ vp vc, v = .slice vp P.length vc := by
    rcases ownsRow_forms h.put with ⟨h1, h2⟩ | ⟨g, c, h1⟩
    · exact ⟨_, _, by rw [h1, h2]⟩
    · exact ⟨_, _, h1⟩
  subst hv2
  have H := Lib.hid h
  have HGd := Lib.hid hgd
  have HBd := Lib.hid hbd
  have lt := (Array.getElem?_eq_some_iff.1 h.st).1
  obtain ⟨i0, hi', hz0, hz1, hz2⟩ := info_parts infoImg
  clear h hgd hbd
  go_enter Try.func28, Try.ntmps28
  go_wp2_with fail
  go_loopw [4, 5] (fun out i wr => ∃ j : Nat, j ≤ N ∧ i = .int .i64 j ∧ RImAt w wr l P j out) (fun _ i _ => P.length - (intOf i).toNat)
  case atStart => exact ⟨0, by omega, rfl, Below.refl _ _, World.ownsRow_nil _ _ _ _⟩
  case round =>
    obtain ⟨j, hj, rfl, hbl, hrow⟩ := hrel
    have HB := Lib.hid hbl
    have HW := Lib.hid (H.out.below hbl)
    have hzr := hbl.size
    have c0 := cell_of_block HW.out.st 0
    have c1 := cell_of_block HW.out.st 1
    simp only [List.getElem?_toArray, List.getElem?_cons_succ, List.getElem?_cons_zero] at c0 c1
    have ltr : tb < wr.heap.size := by omega
    by_cases hlt : j < P.length
    · obtain ⟨g, hg⟩ : ∃ g, vp = some ⟨g, 0, none⟩ := by
        obtain ⟨g, cap, hv⟩ := ownsRow_form H.out.put (by omega)
        simp only [Value.slice.injEq] at hv
        exact ⟨g, hv.1⟩
      subst hg
      have hlg := (HW.out.put.lt g rfl).2
      have hjI : (j : Int) < (P.length : Int) := by omega
      have hci := cell_img HW.out.put j hlt
      have KA := Lib.hid (fun (w' : World) (hb' : Below w.heap.size w w') => load_imgAt (own_low H.out.put hb') j hlt)
      have KL := Lib.hid (fun (w' : World) (hb' : Below w.heap.size w w') => load_img (own_low H.out.put hb') j hlt)
      have KT := Lib.hid (fun (w' : World) (hb' : Below w.heap.size w w') => (hb'.cell (p := ⟨tb, 1, none⟩) lt).trans (show w.cell? ⟨tb, 1, none⟩ = some (.slice (some ⟨g, 0, none⟩) P.length vc) by
        have := cell_of_block H.out.st 1
        simpa using this))
      have htk : P.take (j + 1) = P.take j ++ [P[j]] := by rw [List.take_succ_eq_append_getElem hlt]
      have hsn := rimgs_snoc l (P.take j) P[j]
      rw [← htk] at hsn
      have hbd' : j = N → shelfE l P[j].1 = 1 := fun e => by subst e; exact HBd.out hlt
      have hgd' : j < N → shelfE l P[j].1 = 0 := fun e => HGd.out j e hlt
      have hil : (rimgs l (P.take j)).length ≤ j := Nat.le_trans (List.length_filter_le _ _) (List.length_take_le _ _)
      have HC := Lib.hid (fun (w' : World) (hs : RShelf w' kb kp l) => rget_any kb kp l P[j].1 w' hs)
      clear htk hbl
      generalize P[j] = x at *
      obtain ⟨i, q⟩ := x
      simp only at hci KA KL hsn hbd' hgd' HC
      obtain ⟨old, hold⟩ : ∃ old, shelfPg l i = old := ⟨_, rfl⟩
      rw [hold] at HC hsn
      clear hold
      have HSn := Lib.hid hsn
      clear hsn
      have mkS : ∀ w' : World, Below wr.heap.size wr w' → w'.cell? ⟨tb, 0, none⟩ = some (.pointer (some ⟨kb, 0, none⟩)) ∧ w'.cell? ⟨tb, 1, none⟩ = some (.slice (some ⟨g, 0, none⟩) P.length vc) ∧ w'.cell? ⟨g, j * 17, none⟩ = some (.int .i64 i) := fun w' h =>
        ⟨(h.cell (p := ⟨tb, 0, none⟩) ltr).trans c0, (h.cell (p := ⟨tb, 1, none⟩) ltr).trans c1, (h.cell (p := ⟨g, j * 17, none⟩) hlg).trans hci⟩
      by_cases hjN : N ≤ j
      · have he := hbd' (by omega)
        rw [he] at HC
        clear hbd' hgd' he KA KL hrow
        go_wp2_with fail
        have BA := ((Below.refl wr.heap.size wr).alloc (Nat.le_refl _) (.cells Pg.zero.cs 41)).drew
        have BD := (Below.refl wr.heap.size wr).drew
        have hsA : wr.heap.size ≤ (wr.alloc (.cells Pg.zero.cs 41)).drew.heap.size := by simp
        have hsB : wr.heap.size < (wr.alloc (.cells Pg.zero.cs 41)).drew.heap.size := by simp
        have hrA : rowAt (wr.alloc (.cells Pg.zero.cs 41)).drew wr.heap.size = some Pg.zero.cs := rowAt_at wr _ _ _ rfl
        go_region_held3 (fun w' => w'.cell? ⟨tb, 0, none⟩ = some (.pointer (some ⟨kb, 0, none⟩)) ∧ w'.cell? ⟨tb, 1, none⟩ = some (.slice (some ⟨g, 0, none⟩) P.length vc) ∧ w'.cell? ⟨g, j * 17, none⟩ = some (.int .i64 i))
          (first
            | exact ⟨c0, c1, hci⟩
            | exact mkS _ BA
            | exact mkS _ hb1
            | exact mkS _ (hb1.alloc hb1.size _)
            | exact mkS _ (below_setRow hb1 _ (Nat.le_refl _))
            | exact mkS _ (below_setRow (hb1.alloc hb1.size _) _ hb1.size))
          (first
            | ((go_at_call 31; refine (HC.out wr.drew HW.out.shelf).mono ?_; rintro e w1 ⟨rfl, hb0⟩; have hb1 := BD.trans (hb0.mono (Nat.le_refl _)); clear hb0))
            | ((go_at_call 31; refine (HC.out _ (HW.out.shelf.below BA)).mono ?_; rintro e w1 ⟨rfl, hb0⟩; have hb1 := BA.trans (hb0.mono hsA); have hr1 := (rowAt_below hb0 hsB).trans hrA; clear hb0)))
        all_goals
          first
            | (generalize hW : w1.setRow wr.heap.size old.cs = W
               have hBW : Below wr.heap.size wr W := by rw [← hW]; exact below_setRow hb1 _ (Nat.le_refl _)
               have hRW : rowAt W wr.heap.size = some old.cs := by rw [← hW]; simp [go_sem, hr1]
               clear hW)
            | (generalize hW : w1.alloc (.cells old.cs 41) = W
               have hBW : Below wr.heap.size wr W := by rw [← hW]; exact hb1.alloc hb1.size _
               have hRW : rowAt W w1.heap.size = some old.cs := by rw [← hW]; exact rowAt_at _ _ _ _ rfl
               have hnb : w1.heap.size < W.heap.size := by rw [← hW]; simp
               clear hW)
          clear BA BD hrA hsA hsB
          go_wp2_with fail
          go_ret2
          exact ⟨HB.out.trans (hBW.mono hzr), fun _ => rfl, fun e => absurd e (by omega)⟩
      · have he := hgd' (by omega)
        rw [he] at HC
        have HR := Lib.hid hrow
        clear hbd' hgd' he hrow
        go_wp2_with fail
        have BA := ((Below.refl wr.heap.size wr).alloc (Nat.le_refl _) (.cells Pg.zero.cs 41)).drew
        have BD := (Below.refl wr.heap.size wr).drew
        have hsA : wr.heap.size ≤ (wr.alloc (.cells Pg.zero.cs 41)).drew.heap.size := by simp
        have hsB : wr.heap.size < (wr.alloc (.cells Pg.zero.cs 41)).drew.heap.size := by simp
        have hrA : rowAt (wr.alloc (.cells Pg.zero.cs 41)).drew wr.heap.size = some Pg.zero.cs := rowAt_at wr _ _ _ rfl
        go_region_held3 (fun w' => w'.cell? ⟨tb, 0, none⟩ = some (.pointer (some ⟨kb, 0, none⟩)) ∧ w'.cell? ⟨tb, 1, none⟩ = some (.slice (some ⟨g, 0, none⟩) P.length vc) ∧ w'.cell? ⟨g, j * 17, none⟩ = some (.int .i64 i))
          (first
            | exact ⟨c0, c1, hci⟩
            | exact mkS _ BA
            | exact mkS _ hb1
            | exact mkS _ (hb1.alloc hb1.size _)
            | exact mkS _ (below_setRow hb1 _ (Nat.le_refl _))
            | exact mkS _ (below_setRow (hb1.alloc hb1.size _) _ hb1.size))
          (first
            | ((go_at_call 31; refine (HC.out wr.drew HW.out.shelf).mono ?_; rintro e w1 ⟨rfl, hb0⟩; have hb1 := BD.trans (hb0.mono (Nat.le_refl _)); clear hb0))
            | ((go_at_call 31; refine (HC.out _ (HW.out.shelf.below BA)).mono ?_; rintro e w1 ⟨rfl, hb0⟩; have hb1 := BA.trans (hb0.mono hsA); have hr1 := (rowAt_below hb0 hsB).trans hrA; clear hb0)))
        all_goals
          first
            | (generalize hW : w1.setRow wr.heap.size old.cs = W
               have hBW : Below wr.heap.size wr W := by rw [← hW]; exact below_setRow hb1 _ (Nat.le_refl _)
               have hRW : rowAt W wr.heap.size = some old.cs := by rw [← hW]; simp [go_sem, hr1]
               clear hW)
            | (generalize hW : w1.alloc (.cells old.cs 41) = W
               have hBW : Below wr.heap.size wr W := by rw [← hW]; exact hb1.alloc hb1.size _
               have hRW : rowAt W w1.heap.size = some old.cs := by rw [← hW]; exact rowAt_at _ _ _ _ rfl
               have hnb : w1.heap.size < W.heap.size := by rw [← hW]; simp
               clear hW)
          clear BA BD hrA hsA hsB
          have hBw := HB.out.trans (hBW.mono hzr)
          have hld := KA.out W.drew hBw.drew
          have hct := KT.out W.drew hBw.drew
          have hld0 := KA.out W hBw
          have hct0 := KT.out W hBw
          have hli := KL.out W.drew hBw.drew
          have hzW := hBW.size
          have hrow := own_low HR.out hBW
          have HBw := Lib.hid hBw
          clear hBw
          cases heq : pgEq old q with
          | true =>
            rw [heq] at HSn
            simp only [if_true] at HSn
            go_wp2_with fail
            go_region
            go_wp2_with fail
            go_roundw
            case rel => exact ⟨j + 1, by omega, by go_num, HBw.out.drew, by rw [HSn.out]; exact hrow.drew⟩
            case measure => simp [intOf]; omega
          | false =>
            rw [heq] at HSn
            go_wp2_with fail
            go_region
            go_wp2_with (at_builtin; refine wpList_append_own _ rfl _ _ 46 rfl w.heap.size 48 i0 _ 17 184 Try.underlying46 hi' hz0 hz1 hz2 rfl (by decide) _ _ _ rfl (hrow.drew.alloc _) ⟨W.heap.size, 0, none⟩ 1 1 (imgCs i q).toList rfl rfl ?c1 ?c2 ?c3 ?c4 ?c5 ?_)
            case c1 => exact World.news_of_block (heap_alloc_new W.drew (.cells (imgCs i q) 48))
            case c2 => intro u hu; simp [imgCs] at hu; rcases hu with rfl | rfl | rfl | rfl | rfl | rfl | rfl | rfl | rfl | rfl | rfl | rfl | rfl | rfl | rfl | rfl | rfl <;> rfl
            case c3 => simp only [maxLen]; omega
            case c4 => omega
            case c5 => first | omega | (simp; omega)
            intro v' w5 hown' hgrow _
            have B6 : Below w.heap.size w w5 := (HBw.out.drew.alloc (by have := HBw.out.size; simpa using this) (.cells (imgCs i q) 48)).grown hgrow (by have := HBw.out.size; simp; omega) (fun q hq => (hrow.lt q hq).1)
            have H5 := Lib.hid hown'
            have HB6 := Lib.hid B6
            clear hrow hgrow hown' B6
            go_wp2_with fail
            go_roundw
            case rel => exact ⟨j + 1, by omega, by go_num, HB6.out, by rw [HSn.out]; simp only [Bool.false_eq_true, if_false, List.length_append, List.length_singleton, imgRow_snoc]; exact H5.out⟩
            case measure => simp [intOf]; omega
    · have hjI : (P.length : Int) ≤ (j : Int) := by omega
      have htk : P.take j = P := List.take_of_length_le (by omega)
      rw [htk] at hrow
      have HR := Lib.hid hrow
      clear hbl hrow htk
      go_wp2_with fail
      go_ret2
      exact ⟨HB.out, fun e => absurd e (by omega), fun _ => ⟨_, rfl, HR.out⟩⟩
end Go.Proofs.Ythehglhbgplfhaa
