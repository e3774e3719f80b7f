/-
  Layer 14 (space): the contract of Forget.
-/
import Derived.Test.YtmbeicijljlejaaSpace11
namespace Go.Proofs.Ytmbeicijljlejaa
open Go.RowKit Go.Joins
set_option linter.unusedVariables false
set_option linter.unusedSimpArgs false

/-- what stands at the head of a round of Forget's loop -/
def ForgetAt (st : Int) (b mb hb pb n : Nat) (l : List Nat) (F : Vol × Pg) (B D : Nat) (d : Pg) (v : Value) (w0 : World) (k : Nat) (wr : World) : Prop :=
  k ≤ l.length ∧ ∃ S m, Half S m n (l.drop k) ∧ frees st (l.drop k) S m = F ∧ StageAt wr b mb hb pb S ∧ w0.grownBy wr (some mb) ∧ rowAt wr D = some d.cs ∧ wr.ownsRow B 3 1 v l.length (idVals l)

theorem idVals_get (l : List Nat) (k : Nat) (h : k < l.length) : (idVals l)[k]? = some (.int .i64 (l[k] : Int)) := by
  simp [idVals, h]

theorem cs_setC (p : Pg) (k : Nat) (h : k < 6) (x : Int) (y : ByteArray) : (p.cs.setIfInBounds (4 + k * 2) (.int .i64 x)).setIfInBounds (4 + k * 2 + 1) (.string y) = (p.setC k x y).cs := by
  rw [cs_setA p k h, cs_setD _ k h]; rfl
theorem grown_below' {w w2 W : World} {r : Option Nat} (h : w.grownBy w2 r) (k : Below w.heap.size w2 W) : w.grownBy W r := grown_below h k (Nat.le_refl _)
theorem empty_lit : (ByteArray.empty : ByteArray) = ⟨#[]⟩ := rfl
theorem used_pos {S : Vol} {d m : Pg} {n : Nat} (h : VolOk S d m n) : 0 < (usedTo m n).length :=
  List.length_pos_of_mem ((usedTo_mem m n 0).2 ⟨by have := h.two; omega, h.z0⟩)
theorem ForgetAt.skip {st : Int} {b mb hb pb n : Nat} {l : List Nat} {F : Vol × Pg} {B D : Nat} {d : Pg} {v : Value} {w0 wr : World} {k : Nat} {S : Vol} {m : Pg} (hk : k < l.length) (h1 : Half S m n (l.drop k)) (h2 : frees st (l.drop k) S m = F)
    (hc : ¬ (2 ≤ l[k] ∧ (stPg S l[k]).s = st)) : Half S m n (l.drop (k + 1)) ∧ frees st (l.drop (k + 1)) S m = F := by
  rw [List.drop_eq_getElem_cons hk] at h1 h2
  rw [frees, if_neg hc] at h2
  exact ⟨h1.skip, h2⟩
theorem ForgetAt.give {st : Int} {b mb hb pb n : Nat} {l : List Nat} {F : Vol × Pg} {B D : Nat} {d : Pg} {v : Value} {w0 wr : World} {k : Nat} {S : Vol} {m : Pg} (hk : k < l.length) (h1 : Half S m n (l.drop k)) (h2 : frees st (l.drop k) S m = F)
    (hc : 2 ≤ l[k] ∧ (stPg S l[k]).s = st) : Half (S.put 1 (markPg m l[k] false)) (markPg m l[k] false) n (l.drop (k + 1)) ∧ frees st (l.drop (k + 1)) (S.put 1 (markPg m l[k] false)) (markPg m l[k] false) = F := by
  rw [List.drop_eq_getElem_cons hk] at h1 h2
  rw [frees, if_pos hc] at h2
  exact ⟨h1.give, h2⟩

set_option maxHeartbeats 4000000 in
set_option maxRecDepth 100000 in
theorem forget_walk (S : Vol) (b mb hb pb : Nat) (d m : Pg) (n : Nat) (w : World) (hs : StageAt w b mb hb pb S) (h : VolOk S d m n) (k : Nat) (hk : k < 6) (ha : d.a k ≠ 0) :
    Calls Try.prog 14 #[.pointer (some ⟨b, 0, none⟩), .int .i64 ((k : Int) + 1)] w fun e w' => e = .returned (.int .i64 0) ∧ w.grownBy w' (some mb) ∧ StageAt w' b mb hb pb (S.forgot d m n k) := by
  obtain ⟨l1, l2, l3, l4⟩ := hs.lt
  have hn := h.map.hi
  have hlen := usedTo_len m n
  have hpos := used_pos h
  have HD := Lib.hid (fun w' hh => dir_ok S b mb hb pb d w' hh h.dir)
  have HU := Lib.hid (fun w' hh => used_any S b mb hb pb m n w' hh h.map)
  have HS := Lib.hid hs
  have ca := cs_a d k hk
  have hn0 : (d.a k == 0) = false := by simp [ha]
  generalize d.a k = a at *
  have HM := Lib.hid h.half
  have HSet := Lib.hid (fun S w' h => set_any S b mb hb pb 0 (d.setC k 0 ByteArray.empty) w' h)
  rw [okSet_one (h.forget k hk).1 0 (by omega) (by omega)] at HSet
  have e0 : chkE true = 0 := rfl
  rw [e0] at HSet
  simp only [if_true] at HSet
  unfold Vol.forgot
  obtain ⟨F, hF⟩ : ∃ F, frees ((k : Int) + 1) (usedTo m n) S m = F := ⟨_, rfl⟩
  rw [hF]
  have HF := Lib.hid hF
  have hdz := fun (x : Int) (y : ByteArray) => cs_setC d k hk x y
  have HZ := Lib.hid hdz
  clear hs h ha e0 hF hdz
  go_enter Try.func14, Try.ntmps14
  go_wp2_with fail
  refine (HD.out _ HS.out).mono ?_; rintro e w1 ⟨rfl, hb1⟩
  have hsz := hb1.size
  have HB1 := Lib.hid hb1
  clear hb1
  go_wp2_with fail
  have B1 : Below w.heap.size w (w1.alloc (.cells d.cs 50)) := HB1.out.alloc (by omega) _
  refine (HU.out _ (HS.out.below B1 ⟨l1, l2, l3, l4⟩)).mono ?_; rintro e w2 ⟨v, rfl, hb2, hown⟩
  have hz2 := hb2.size
  have hst2 := (HS.out.below B1 ⟨l1, l2, l3, l4⟩).below hb2 (by have := World.size_alloc w1 (.cells d.cs 50); omega)
  simp only [World.size_alloc] at hz2
  have R2 : rowAt w2 w1.heap.size = some d.cs := (rowAt_below hb2 (by go_size)).trans (rowAt_at _ _ _ _ rfl)
  have G2 : w.grownBy w2 (some mb) := grown_of_below (B1.trans (hb2.mono (by go_size))) _
  obtain ⟨L, hL⟩ : ∃ L, usedTo m n = L := ⟨_, rfl⟩
  rw [hL] at hown hpos
  rw [World.size_alloc] at hown
  have HA : Hid (ForgetAt ((k : Int) + 1) b mb hb pb n L F (w1.heap.size + 1) w1.heap.size d v w 0 w2) :=
    Lib.hid ⟨Nat.zero_le _, S, m, by rw [← hL]; exact HM.out, by rw [← hL]; exact HF.out, hst2, G2, R2, hown⟩
  have hLl : L.length ≤ 1024 := by rw [← hL]; omega
  obtain ⟨g, vc, hv⟩ := ownsRow_form hown hpos
  clear hown hst2 G2 R2 hz2 hb2 B1 hL HF HM HU HD hlen
  subst hv
  go_wp2_with fail
  go_loopw [48] (fun i wr => ∃ j : Nat, i = .int .i64 j ∧ ForgetAt ((k : Int) + 1) b mb hb pb n L F (w1.heap.size + 1) w1.heap.size d (.slice (some ⟨g, 0, none⟩) L.length vc) w j wr) (fun i _ => L.length - (intOf i).toNat)
  case atStart => exact ⟨0, rfl, HA.out⟩
  case round =>
    obtain ⟨j, rfl, hj, S1, m1, h1, h2, h3, h4, h5, h6⟩ := hrel
    clear HA
    obtain ⟨q1, q2, q3, q4⟩ := h3.lt
    have hgl := h6.lt g rfl
    have hsw := h4.size
    have hgm : g ≠ mb := by omega
    by_cases hlt : j < L.length
    · have hc := (h6.cellAt j (by omega)).trans (idVals_get L j hlt)
      have hid := h1.had L[j] (by rw [List.drop_eq_getElem_cons hlt]; exact List.mem_cons_self ..)
      have he0 := h1.there L[j] hid.1
      have hbit := hid.2
      have hidn := hid.1
      have hn1 := h1.map.hi
      have HSk := Lib.hid (fun hc => ForgetAt.skip (b := b) (mb := mb) (hb := hb) (pb := pb) (B := 0) (D := 0) (d := d) (v := undef) (w0 := w) (wr := w) hlt h1 h2 hc)
      have HGi := Lib.hid (fun hc => ForgetAt.give (b := b) (mb := mb) (hb := hb) (pb := pb) (B := 0) (D := 0) (d := d) (v := undef) (w0 := w) (wr := w) hlt h1 h2 hc)
      have HG := Lib.hid (fun (w' : World) hh (h22 : 2 ≤ L[j]) => give_ok S1 b mb hb pb m1 n w' hh h1.map L[j] h22 hid.1 hid.2)
      have HGet := Lib.hid (fun w' hh => get_any S1 b mb hb pb L[j] w' hh)
      rw [he0] at HGet
      clear h1 h2 hid he0 hbit
      obtain ⟨p, hp⟩ : ∃ p, stPg S1 L[j] = p := ⟨_, rfl⟩
      rw [hp] at HSk HGi HGet
      clear hp
      generalize L[j] = id at *
      have HS3 := Lib.hid h3
      have HG4 := Lib.hid h4
      have HR5 := Lib.hid h5
      have HO6 := Lib.hid h6
      clear h3 h4 h5 h6
      by_cases hle : id ≤ 1
      · have hle' : (id : Int) ≤ 1 := by omega
        go_wp2_with fail
        go_roundw
        case rel => exact ⟨j + 1, by go_num, by omega, S1, m1, (HSk.out (by omega)).1, (HSk.out (by omega)).2, HS3.out, HG4.out, HR5.out, HO6.out⟩
        case measure => simp [intOf]; omega
      · have hle' : ¬ (id : Int) ≤ 1 := by omega
        go_wp2_with fail
        refine (HGet.out _ HS3.out).mono ?_; rintro e w3 ⟨rfl, hb3⟩
        have hz3 := hb3.size
        have hst3 := Lib.hid (HS3.out.below hb3 ⟨q1, q2, q3, q4⟩)
        have hg3 := Lib.hid (HG4.out.trans (grown_of_below hb3 _))
        have hr3 := Lib.hid ((rowAt_below hb3 (by omega)).trans HR5.out)
        have ho3 := Lib.hid (own_below1 HO6.out hb3)
        clear hb3 HGet HS3 HG4 HR5 HO6
        by_cases hps : p.s = (k : Int) + 1
        · have hps' : (p.s == (k : Int) + 1) = true := by simp [hps]
          have HC := Lib.hid hps
          clear hps
          go_wp2_with fail
          refine (HG.out _ (hst3.out.below ((Below.refl _ _).alloc (Nat.le_refl _) _) ⟨by omega, by omega, by omega, by omega⟩) (by omega)).mono ?_; rintro e w4 ⟨rfl, hg4, hs4⟩
          have hz4 := hg4.size
          simp only [World.size_alloc] at hz4
          have hg5 := Lib.hid ((hg3.out.trans (World.grownBy_alloc _ _ _)).trans hg4)
          have hr5 := Lib.hid ((rowAt_grown hg4 (by go_size) (by omega)).trans ((rowAt_past _ _ _ (by omega)).trans hr3.out))
          have ho5 := Lib.hid ((ho3.out.alloc (.cells p.cs 50)).kept hg4 (.inr (by show some g ≠ some mb; simpa using hgm)))
          have hs5 := Lib.hid hs4
          clear hg4 hs4 hg3 hst3 hr3 ho3
          go_wp2_with fail
          go_roundw
          case rel => exact ⟨j + 1, by go_num, by omega, _, _, (HGi.out ⟨by omega, HC.out⟩).1, (HGi.out ⟨by omega, HC.out⟩).2, hs5.out, hg5.out, hr5.out, ho5.out⟩
          case measure => simp [intOf]; omega
        · have hps' : (p.s == (k : Int) + 1) = false := by simp [hps]
          have HC := Lib.hid hps
          clear hps
          go_wp2_with fail
          go_roundw
          case rel => exact ⟨j + 1, by go_num, by omega, S1, m1, (HSk.out (fun hh => HC.out hh.2)).1, (HSk.out (fun hh => HC.out hh.2)).2, hst3.out.below ((Below.refl _ _).alloc (Nat.le_refl _) _) ⟨by omega, by omega, by omega, by omega⟩, hg3.out.trans (World.grownBy_alloc _ _ _), (rowAt_past _ _ _ (by omega)).trans hr3.out, ho3.out.alloc _⟩
          case measure => simp [intOf]; omega
    · have hje : j = L.length := by omega
      subst hje
      rw [List.drop_length] at h2
      have e1 : S1 = F.1 := by rw [← h2]; rfl
      rw [e1] at h3
      have HS3 := Lib.hid h3
      have HG4 := Lib.hid h4
      have hdm : w1.heap.size ≠ mb := by omega
      have cA := (cell_row h5 (4 + k * 2)).trans ca
      have cD := (cell_row h5 (4 + k * 2 + 1)).trans (cs_d d k hk)
      have fA := frozen_row h5 (4 + k * 2)
      have fD := frozen_row h5 (4 + k * 2 + 1)
      have R4 := rowAt_setCell_here _ _ (4 + k * 2) (.int .i64 0) _ h5
      have R5 := rowAt_setCell_here _ _ (4 + k * 2 + 1) (.string ⟨#[]⟩) _ R4
      rw [HZ.out 0 ⟨#[]⟩] at R5
      have BW : Below w.heap.size wr ((wr.setCell ⟨w1.heap.size, 4 + k * 2, none⟩ (.int .i64 0)).setCell ⟨w1.heap.size, 4 + k * 2 + 1, none⟩ (.string ⟨#[]⟩)) := below_setCell (below_setCell (Below.refl _ _) ⟨w1.heap.size, 4 + k * 2, none⟩ (.int .i64 0) (by simpa using hsz)) ⟨w1.heap.size, 4 + k * 2 + 1, none⟩ (.string ⟨#[]⟩) (by simpa using hsz)
      rw [empty_lit] at HSet
      have HBW := Lib.hid BW
      clear e1 h1 h2 h3 h4 h6 R4 BW ca
      generalize d.d k = x at *
      go_wp2_with fail
      refine (HSet.out _ _ (HS3.out.below HBW.out ⟨by omega, by omega, by omega, by omega⟩)).mono ?_; rintro e w7 ⟨rfl, hg7, hs7⟩
      have HS7 := Lib.hid hs7
      have HG7 := Lib.hid hg7
      clear hs7 hg7
      go_wp2_with fail
      go_ret
      exact ⟨rfl, (grown_below' HG4.out HBW.out).trans HG7.out, HS7.out⟩
end Go.Proofs.Ytmbeicijljlejaa
