/-
  Layer 22 (audit): the walk of AuditNew.
-/
import Derived.Test.YtljommhbhpappaaAu12
import Derived.Test.YtljommhbhpappaaLowest
namespace Go.Proofs.Ytljommhbhpappaa
open Go.RowKit Go.Joins
set_option linter.unusedVariables false
set_option linter.unusedSimpArgs false

/-- what Make does to a new volume -/
theorem newMake {S : Vol} {d m : Pg} {n : Nat} {ks : List Int} (h : NewVol S d m n ks (2 + ks.length)) {N : Nat} (hf : S.Fit N) (hn : n ≤ N) {P : Nat → Prop} {w0 w : World} {b hb : Nat} (L : Lay P w0 w b hb S) (kd : Int) :
    Calls Try.prog 40 #[.pointer (some ⟨b, 0, none⟩), .int .i64 kd] w fun e w' => ∃ st er, e = .returned (.tuple #[.int .i64 st, .int .i64 er]) ∧
      ((er ≠ 0 ∧ Lay P w0 w' b hb S) ∨ (er = 0 ∧ ∃ S' d' m', Lay P w0 w' b hb S' ∧ S'.Fit N ∧ S'.base = S.base ∧ NewVol S' d' m' n (ks ++ [kd]) (2 + (ks ++ [kd]).length))) := by
  by_cases hk : kd = 1 ∨ kd = 2 ∨ kd = 3
  · by_cases h6 : ks.length < 6
    · have hbef : ∀ j, j < ks.length → d.a j ≠ 0 := fun j hj => by rw [(h.dir j hj).1]; decide
      have ha := h.free ks.length (Nat.le_refl _) h6
      by_cases hr : 2 + ks.length < n
      · refine (make_lay L h.vol ks.length h6 ha hbef (2 + ks.length) hr (by rw [h.bits _ hr]; simp) (fun j hj => by rw [h.bits j (by omega)]; simpa using hj) kd hk _ rfl).mono ?_
        rintro e w' ⟨rfl, L'⟩
        exact ⟨_, _, rfl, .inr ⟨rfl, _, _, _, L', made_fit h.vol hf hn _ _ _ h6 (by omega) hr, rfl, h.make h6 hr kd hk⟩⟩
      · refine (make_full22 L h.vol ks.length h6 ha hbef (fun j hj => by rw [h.bits j hj]; simp; omega) kd (by omega)).mono ?_
        rintro e w' ⟨rfl, L'⟩
        exact ⟨_, _, rfl, .inl ⟨by decide, L'⟩⟩
    · have hl := h.six
      refine (make_many L h.vol (fun j hj => by rw [(h.dir j (by omega)).1]; decide) kd (by omega)).mono ?_
      rintro e w' ⟨rfl, L'⟩
      exact ⟨_, _, rfl, .inl ⟨by decide, L'⟩⟩
  · refine (make_bad (.pointer (some ⟨b, 0, none⟩)) kd w (by omega)).mono ?_
    rintro e w' ⟨rfl, rfl⟩
    exact ⟨_, _, rfl, .inl ⟨by decide, L⟩⟩

theorem blank_check {w w' : World} {b hb : Nat} (L : Lay (· < w.heap.size) w w' b hb ⟨List.replicate 1024 Pg.zero, []⟩) :
    Calls Try.prog 36 #[.pointer (some ⟨b, 0, none⟩)] w' fun e w2 => ∃ er, er ≠ 0 ∧ e = .returned (.int .i64 er) ∧ Lay (· < w.heap.size) w w2 b hb ⟨List.replicate 1024 Pg.zero, []⟩ := by
  obtain ⟨mb, pb, hs, -⟩ := L.at'
  refine (auCheck_bad (.pointer (some ⟨b, 0, none⟩)) w' (nomap_blank hs (.inr (by decide)))).mono ?_
  rintro e w2 ⟨er, h1, h2, h3⟩
  exact ⟨er, h1, h2, L.step h3⟩
/-- the law's state between rounds -/
def NewAt (w wr : World) (b hb n : Nat) : Prop := ∃ S ks, Lay (· < w.heap.size) w wr b hb S ∧ S.Fit 1024 ∧ (∃ d m, NewVol S d m n ks (2 + ks.length)) ∧ ∃ d m, NewVol ⟨S.base, []⟩ d m n ks (2 + ks.length)
theorem landed_base (S : Vol) : (⟨S.landed.base, []⟩ : Vol) = S.landed := rfl

set_option maxHeartbeats 8000000 in
set_option maxRecDepth 100000 in
theorem new_a (n : Nat) (h4 : 4 ≤ n) (hn : n ≤ 1024) (vp : Option Addr) (len cap : Nat) (zs : List Int) (w : World) (hR : RowOk w vp len zs) :
    Calls Try.prog 8 #[.int .i64 n, .slice vp len cap] w fun e w' => e = .returned (.bool true) ∧ Below w.heap.size w w' := by
  have HA := Lib.hid (fun (w' : World) => awake22 w')
  have HM := Lib.hid (fun (w' : World) => memory_ok 1024 (by omega) (by omega) w')
  rw [show ((1024 : Nat) : Int) = 1024 from rfl] at HM
  have HN := Lib.hid (fun hb pb w' hB h h1 h2 => new_lay hb pb (List.replicate 1024 Pg.zero) w w' hB h h1 h2)
  have HFo := Lib.hid (fun w' b hb (L : Lay (· < w.heap.size) w w' b hb ⟨List.replicate 1024 Pg.zero, []⟩) => format_lay L n h4 hn)
  have HBad := Lib.hid (fun w' b hb L => blank_check (w := w) (w' := w') (b := b) (hb := hb) L)
  have v0 : NewVol (Vol.formed ⟨List.replicate 1024 Pg.zero, []⟩ n) { k := 1 } (newMap n) n [] 2 := NewVol.formed _ _ n h4 hn (by simpa using hn)
  have f0 : (Vol.formed ⟨List.replicate 1024 Pg.zero, []⟩ n).Fit 1024 := formed_fit (by
    have := Vol.Fit.nil (List.replicate 1024 Pg.zero) (by simp)
    simpa using this) h4 hn
  have V0 := Lib.hid v0
  have F0 := Lib.hid f0
  have HL := Lib.hid (fun w' b hb S (L : Lay (· < w.heap.size) w w' b hb S) (h : S.Fit 1024) e => land22 L h e)
  have HD := Lib.hid (fun w' b hb S (L : Lay (· < w.heap.size) w w' b hb S) => L.drop)
  have HR := Lib.hid hR
  have hlen := hR.1
  clear hR v0 f0
  go_enter Try.func8, Try.ntmps8
  go_wp2_with fail
  with_reducible refine (HA.out _).mono ?_; rintro e w0 ⟨rfl, hb0⟩
  have K0 := Lib.hid hb0
  have hz0 := hb0.size
  clear hb0
  go_wp2_with fail
  with_reducible refine (HM.out _).mono ?_; rintro e w1 ⟨hb, pb, rfl, hb1, q1, q2, hs1⟩
  have K1 := Lib.hid (K0.out.trans (hb1.mono hz0))
  have K2 := Lib.hid hs1
  clear hb1 hs1
  go_wp2_with fail
  with_reducible refine (HN.out hb pb _ K1.out K2.out (by omega) (by omega)).mono ?_; rintro e w2 ⟨b1, rfl, L2⟩
  have K3 := Lib.hid L2
  clear L2
  go_wp2_with fail
  with_reducible refine (HBad.out _ _ _ K3.out).mono ?_; rintro e w3 ⟨er, her, rfl, L3⟩
  have he1 : (er == 0) = false := by simpa using her
  obtain ⟨mb3, pb3, hs3, -, -, g1, g2⟩ := L3.at'
  have K4 := Lib.hid L3.low
  have K5 := Lib.hid hs3.2.2.1
  have HG1 : w.heap.size ≤ hb := by simp at g1; omega
  have HG2 : w.heap.size ≤ pb3 := by simp at g2; omega
  clear L3 hs3 g1 g2
  go_wp2_with fail
  with_reducible refine (HN.out hb pb3 _ K4.out K5.out HG1 HG2).mono ?_; rintro e w4 ⟨b, rfl, L4⟩
  have K6 := Lib.hid L4
  clear L4 he1
  go_wp2_with fail
  with_reducible refine (HFo.out _ _ _ K6.out).mono ?_; rintro e w5 ⟨rfl, L5⟩
  have K7 := Lib.hid L5
  clear L5
  go_wp2_with fail
  with_reducible refine (HL.out _ _ _ _ K7.out F0.out 0).mono ?_; rintro e w6 ⟨rfl, L6⟩
  have e6 : (Vol.formed ⟨List.replicate 1024 Pg.zero, []⟩ n).after 0 = (Vol.formed ⟨List.replicate 1024 Pg.zero, []⟩ n).landed := if_pos rfl
  rw [e6] at L6
  have v1 := V0.out.landed F0.out hn
  have f1 := landed_fit F0.out
  have K8 := Lib.hid L6
  have V1 := Lib.hid v1
  have F1 := Lib.hid f1
  have HC1 := Lib.hid (newCheck v1 L6)
  clear L6 v1 f1 e6
  go_wp2_with fail
  with_reducible refine HC1.out.mono ?_; rintro e w7 ⟨rfl, L7⟩
  have ST : Hid (NewAt w w7 b hb n) := Lib.hid ⟨_, [], L7, F1.out, ⟨_, _, V1.out⟩, _, _, V1.out⟩
  clear L7
  go_wp2_with fail
  go_loopw [45] (fun v wr => ∃ i, i ≤ len ∧ v = .int .i64 i ∧ NewAt w wr b hb n) (fun v _ => len - (intOf v).toNat)
  case atStart => exact ⟨0, by omega, rfl, ST.out⟩
  case round =>
    obtain ⟨i, hi, rfl, S, ks, L, hf, ⟨d, m, hv⟩, ⟨d0, m0, hv0⟩⟩ := hrel
    obtain ⟨wo, rfl⟩ : ∃ wo : World, wo = wr := ⟨_, rfl⟩
    have BL := Lib.hid L.low
    by_cases hlt : i < len
    · by_cases h20 : i = 20
      · subst h20
        obtain ⟨rb, ro, hvp, hrb, hcell⟩ := (HR.out.below BL.out).2.resolve_left (by omega)
        subst hvp
        have hc := hcell 20 hlt
        generalize zs.getD 20 0 = kd at *
        clear hcell L hf hv hv0
        go_wp2_with fail
        go_ret
        exact ⟨rfl, BL.out⟩
      · obtain ⟨rb, ro, hvp, hrb, hcell⟩ := (HR.out.below BL.out).2.resolve_left (by omega)
        subst hvp
        have hc := hcell i hlt
        have h20' : ((i : Int) == 20) = false := by simp; omega
        generalize zs.getD i 0 = kd at *
        have HMk := Lib.hid (newMake hv hf hn L kd)
        have HF := Lib.hid hf
        have HV := Lib.hid hv0
        clear hcell L hf hv hv0 h20
        go_wp2_with fail
        with_reducible refine HMk.out.mono ?_; rintro e w8 ⟨st, er, rfl, hcase⟩
        have hcase2 : ∃ S' ks', Lay (· < w.heap.size) w w8 b hb S' ∧ S'.Fit 1024 ∧ ∃ d m, NewVol (S'.after er) d m n ks' (2 + ks'.length) := by
          rcases hcase with ⟨h1, h2⟩ | ⟨h1, S', d', m', h2, h3, h5, h6⟩
          · refine ⟨S, ks, h2, HF.out, d0, m0, ?_⟩
            unfold Vol.after
            rw [if_neg h1]; exact HV.out
          · refine ⟨S', ks ++ [kd], h2, h3, d', m', ?_⟩
            unfold Vol.after
            rw [if_pos h1]; exact h6.landed h3 hn
        obtain ⟨S1, ks1, L8, hf8, d1, m1, hv8⟩ := hcase2
        have HF8 := Lib.hid hf8
        have HV8 := Lib.hid hv8
        have K9 := Lib.hid L8
        clear hcase L8 hf8 hv8
        go_wp2_with fail
        with_reducible refine (HL.out _ _ _ _ K9.out HF8.out er).mono ?_; rintro e w9 ⟨rfl, L9⟩
        have hf9 : (S1.after er).Fit 1024 := by
          unfold Vol.after
          split
          · exact landed_fit HF8.out
          · exact dropped_fit HF8.out
        have hM9 : (S1.after er).M = [] := by
          unfold Vol.after
          split <;> rfl
        generalize S1.after er = S2 at *
        have hC := newCheck HV8.out L9
        rw [if_pos rfl] at hC
        have HC9 := Lib.hid hC
        clear L9 hC
        go_wp2_with fail
        with_reducible refine HC9.out.mono ?_; rintro e w10 ⟨rfl, L10⟩
        have BL2 := Lib.hid L10.low
        by_cases hroom : 2 + ks1.length < n
        · obtain ⟨c, hce⟩ : ∃ c, 2 + ks1.length = c := ⟨_, rfl⟩
          rw [hce] at HV8 hroom
          have hT := Lib.hid (take_lay L10 HV8.out.vol c hroom (by rw [HV8.out.bits _ hroom]; simp) (fun j hj => by rw [HV8.out.bits j (by omega)]; simpa using hj))
          have hv11 := HV8.out.take hroom
          have HV11 := Lib.hid hv11
          have HF11 := Lib.hid (mark_fit HV8.out.vol hf9 hn c true hroom)
          have HF9 := Lib.hid hf9
          have HM9 := Lib.hid hM9
          have HCE := Lib.hid hce
          have hc2 : 2 ≤ c := by omega
          clear L10 hv11 hf9 hM9 hce
          go_wp2_with fail
          with_reducible refine hT.out.mono ?_; rintro e w11 ⟨rfl, L11⟩
          have hC := newCheck HV11.out L11
          rw [if_neg (by have := HCE.out; omega)] at hC
          have HC11 := Lib.hid hC
          clear L11 hC hT
          go_wp2_with fail
          with_reducible refine HC11.out.mono ?_; rintro e w12 ⟨rfl, L12⟩
          have hG := Lib.hid (give_lay L12 HV11.out.vol c hc2 hroom (by rw [HV11.out.bits _ hroom]; simp))
          have hv13 := HV11.out.give (by rw [HCE.out]; exact Nat.le_refl _)
          have HV13 := Lib.hid hv13
          have HF13 := Lib.hid (mark_fit HV11.out.vol HF11.out hn c false hroom)
          clear L12 hv13
          go_wp2_with fail
          with_reducible refine hG.out.mono ?_; rintro e w13 ⟨rfl, L13⟩
          have hC := newCheck HV13.out L13
          rw [if_pos HCE.out.symm] at hC
          have HC13 := Lib.hid hC
          clear L13 hC hG
          go_wp2_with fail
          with_reducible refine HC13.out.mono ?_; rintro e w14 ⟨rfl, L14⟩
          have HL14 := Lib.hid L14
          clear L14
          go_wp2_with fail
          go_roundw
          case rel =>
            refine ⟨i + 1, by omega, by go_num, _, ks1, HL14.out, HF13.out, ⟨_, _, by rw [HCE.out]; exact HV13.out⟩, d1, m1, ?_⟩
            rw [HCE.out]
            have e1 : (⟨((S2.put 1 (markPg m1 c true)).put 1 (markPg (markPg m1 c true) c false)).base, []⟩ : Vol) = S2 := by
              show (⟨S2.base, []⟩ : Vol) = S2
              exact vol_nil HM9.out
            rw [e1]; exact HV8.out
          case measure => simp [intOf]; omega
        · have hT := Lib.hid (takeNone_lay L10 HV8.out.vol (fun j hj => by rw [HV8.out.bits j hj]; simp; omega))
          clear L10 hf9 hM9
          go_wp2_with fail
          with_reducible refine hT.out.mono ?_; rintro e w11 ⟨rfl, L11⟩
          have HL11 := Lib.hid L11
          clear L11 hT
          go_wp2_with fail
          with_reducible refine (HD.out _ _ _ _ HL11.out).mono ?_; rintro e w12 ⟨rfl, L12⟩
          have BF := Lib.hid L12.low
          clear L12
          go_wp2_with fail
          go_ret
          exact ⟨rfl, BF.out⟩
    · have hie : i = len := by omega
      subst hie
      clear L hf hv hv0
      go_wp2_with fail
      go_ret
      exact ⟨rfl, BL.out⟩
end Go.Proofs.Ytljommhbhpappaa
