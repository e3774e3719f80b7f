/-
  Layer 9 (locks): slices.IndexFunc and slices.DeleteFunc on wishes (written by gen_lkw.py out of the texts on holds).
-/
import Derived.Test.YtileamjmhhifaaaGreatLk4
namespace Go.Proofs.YtileamjmhhifaaaGreat
open Go.RowKit Go.Joins Go.Sort
set_option linter.unusedVariables false
set_option linter.unusedSimpArgs false

/-- the first of a list -/
def idxPw (p : Ws → Bool) : List Ws → Nat → Int
  | [], _ => -1
  | h :: r, i => if p h then i else idxPw p r (i + 1)
theorem idxPw_eq (p : Ws → Bool) : ∀ (H : List Ws) (i k : Nat) (hk : k < H.length), (∀ j (hj : j < k), p H[j] = false) → p H[k] = true → idxPw p H i = ((i + k : Nat) : Int)
  | [], _, k, hk, _, _ => by simp at hk
  | h :: r, i, 0, hk, _, h2 => by simp only [List.getElem_cons_zero] at h2; simp [idxPw, h2]
  | h :: r, i, k + 1, hk, h1, h2 => by
    have e : p h = false := h1 0 (by omega)
    rw [idxPw, e, if_neg (by simp), idxPw_eq p r (i + 1) k (by simpa using hk) (fun j hj => h1 (j + 1) (by omega)) h2]
    congr 1; omega
theorem idxPw_none (p : Ws → Bool) : ∀ (H : List Ws) (i : Nat), (∀ h ∈ H, p h = false) → idxPw p H i = -1
  | [], _, _ => rfl
  | h :: r, i, h1 => by rw [idxPw, h1 h (List.mem_cons_self ..), if_neg (by simp), idxPw_none p r (i + 1) fun y hy => h1 y (List.mem_cons_of_mem _ hy)]
/-- what a closure that takes a hold is -/
def PredW (g : Nat) (lb : Array Value) (p : Ws → Bool) (w : World) : Prop :=
  ∀ (W : World) (h : Ws), Below w.heap.size w W → Calls Tryz.prog g (#[.agg #[.int .i64 h.x, .int .i64 h.m]] ++ lb) W fun e w' => e = .returned (.bool (p h)) ∧ Gr W w'

set_option maxHeartbeats 2000000 in
set_option maxRecDepth 100000 in
theorem indexFw_any (g : Nat) (lb : Array Value) (hf : ∀ args w, (callFunc g args).run Tryz.prog w = .ok (.enter g args) w) (p : Ws → Bool) (B : Nat) (v : Value) (H : List Ws) (w : World) (ho : w.ownsRow B 64 2 v H.length (wsRow H)) (hp : PredW g lb p w) :
    Calls Tryz.prog 49 #[v, .func (.func g) #[] lb] w fun e w' => e = .returned (.int .i64 (idxPw p H 0)) ∧ Gr w w' := by
  obtain ⟨a, cap, rfl, hcap, hmx, ha⟩ := own_cap ho
  have hlen : H.length ≤ 9223372036854775807 := by simp only [maxLen] at hmx; omega
  have HO := Lib.hid ho
  have HP := Lib.hid hp
  clear ho hp hcap
  go_enter Tryz.func49, Tryz.ntmps49
  go_wp2_with fail
  go_loopw [5, 8] (fun _ i wr => ∃ k : Nat, k ≤ H.length ∧ i = .int .i64 k ∧ Gr w wr ∧ (∀ j (hj : j < k) (hl : j < H.length), p H[j] = false)) (fun _ i _ => H.length - (intOf i).toNat)
  case atStart => exact ⟨0, by omega, rfl, Gr.refl _, fun j hj => by omega⟩
  case round =>
    obtain ⟨k, hk, rfl, hG, hall⟩ := hrel
    have HG := Lib.hid hG
    have hB := hG.below
    clear hG
    obtain ⟨wo, rfl⟩ : ∃ wo : World, wo = wr := ⟨_, rfl⟩
    have HB := Lib.hid hB
    have HA := Lib.hid hall
    clear hall
    by_cases hlt : k < H.length
    · obtain ⟨gb, rfl, hgb, hgl⟩ := ha.resolve_left (by omega)
      have hc := HP.out wo H[k] hB
      have hcs := ws_cells (own_keep HO.out fun q hq => by simp only [Value.ownBlock, Option.some.injEq] at hq; subst hq; exact hB.block _ hgl) k hlt
      have HT : Hid (p H[k] = true → idxPw p H 0 = (k : Int)) := Lib.hid fun h1 => by rw [idxPw_eq p H 0 k hlt (fun j hj => HA.out j hj (by omega)) h1]; omega
      have HF : Hid (p H[k] = false → ∀ j (hj : j < k + 1) (hl : j < H.length), p H[j] = false) := Lib.hid fun h1 j hj hl => by
        by_cases e : j = k
        · subst e; exact h1
        · exact HA.out j (by omega) hl
      obtain ⟨c0, c1⟩ := hcs
      have hki : decide ((k : Int) < (H.length : Int)) = true := by simp; omega
      generalize H[k] = h at *
      obtain ⟨q, hq⟩ : ∃ q, p h = q := ⟨_, rfl⟩
      rw [hq] at hc
      have HQ := Lib.hid hq
      clear hB hq
      cases q with
      | true =>
        have HE := Lib.hid (HT.out HQ.out)
        clear HT HF HQ
        go_wp2_with fail
        refine hc.mono ?_; rintro e w1 ⟨rfl, hb1⟩
        go_wp2_with fail
        go_ret
        exact ⟨by rw [HE.out]; rfl, HG.out.trans hb1⟩
      | false =>
        have HE := Lib.hid (HF.out HQ.out)
        clear HT HF HQ
        go_wp2_with fail
        refine hc.mono ?_; rintro e w1 ⟨rfl, hb1⟩
        have HB1 := Lib.hid hb1
        clear hb1
        go_wp2_with fail
        exact ⟨⟨k + 1, by omega, by go_num, HG.out.trans HB1.out, HE.out⟩, by simp [intOf]; omega⟩
    · have hki : decide ((k : Int) < (H.length : Int)) = false := by simp; omega
      have hkk : k = H.length := by omega
      have HE : Hid (idxPw p H 0 = -1) := Lib.hid (idxPw_none p H 0 fun h hh => by
        obtain ⟨j, hj, rfl⟩ := List.mem_iff_getElem.1 hh
        exact HA.out j (by omega) hj)
      have HB := Lib.hid hB
      clear hB
      go_wp2_with fail
      go_ret
      exact ⟨by rw [HE.out]; rfl, HG.out⟩

theorem flat_takeW (L : List Ws) (k : Nat) : (wsRow L).take (k * 2) = wsRow (L.take k) := flat_take Ws.l_len L k
theorem idxPw_cases (p : Ws → Bool) (H : List Ws) : (idxPw p H 0 = -1 ∧ ∀ h ∈ H, p h = false) ∨ ∃ i, i < H.length ∧ idxPw p H 0 = (i : Int) ∧ (∀ j (hj : j < i) (hl : j < H.length), p H[j] = false) ∧ ∀ (hi : i < H.length), p H[i] = true := by
  induction H with
  | nil => exact .inl ⟨rfl, fun h hh => by cases hh⟩
  | cons x r ih =>
    by_cases hx : p x = true
    · refine .inr ⟨0, by simp, by simp [idxPw, hx], fun j hj => by omega, fun _ => hx⟩
    · have hx' : p x = false := by simpa using hx
      have e : ∀ (L : List Ws) (i : Nat), idxPw p L (i + 1) = if idxPw p L i = -1 then -1 else idxPw p L i + 1 := by
        intro L
        induction L with
        | nil => intro i; simp [idxPw]
        | cons y s ih2 =>
          intro i
          by_cases hy : p y = true
          · simp only [idxPw, hy, if_true]
            rw [if_neg (by omega)]; omega
          · simp only [idxPw, hy, if_false]
            exact ih2 (i + 1)
      rcases ih with ⟨h1, h2⟩ | ⟨i, h1, h2, h3, h4⟩
      · refine .inl ⟨by simp only [idxPw, hx', if_neg (show ¬ false = true by simp)]; rw [e, h1, if_pos rfl], fun h hh => ?_⟩
        rcases List.mem_cons.1 hh with rfl | hh
        · exact hx'
        · exact h2 h hh
      · refine .inr ⟨i + 1, by simp; omega, ?_, fun j hj hl => ?_, fun hi => ?_⟩
        · simp only [idxPw, hx', if_neg (show ¬ false = true by simp)]
          rw [e, h2, if_neg (by omega)]; omega
        · cases j with
          | zero => exact hx'
          | succ j => exact h3 j (by omega) (by simpa using hl)
        · exact h4 (by simpa using hi)

set_option maxHeartbeats 4000000 in
set_option maxRecDepth 100000 in
theorem deleteFw_any (g : Nat) (lb : Array Value) (hf : ∀ args w, (callFunc g args).run Tryz.prog w = .ok (.enter g args) w) (p : Ws → Bool) (B : Nat) (v : Value) (H : List Ws) (w : World) (ho : w.ownsRow B 64 2 v H.length (wsRow H))
    (hp : ∀ (W : World) (h : Ws), Moved (fun i => v.ownBlock = some i) w W → Calls Tryz.prog g (#[.agg #[.int .i64 h.x, .int .i64 h.m]] ++ lb) W fun e w' => e = .returned (.bool (p h)) ∧ Gr W w') :
    Calls Tryz.prog 22 #[v, .func (.func g) #[] lb] w fun e w' => ∃ v', e = .returned v' ∧ w'.ownsRow B 64 2 v' (H.filter fun h => !p h).length (wsRow (H.filter fun h => !p h)) ∧ v'.ownBlock = v.ownBlock ∧ Moved (fun i => v.ownBlock = some i) w w' := by
  have HIx := Lib.hid (indexFw_any g lb hf p B v H w ho (fun W h hb => hp W h (.of_below hb)))
  rcases idxPw_cases p H with ⟨hi, hall⟩ | ⟨i, hi1, hi, hlow, hat⟩
  · rw [hi] at HIx
    have hfil : H.filter (fun h => !p h) = H := by
      rw [List.filter_eq_self]
      intro a ha
      simp [hall a ha]
    have HO := Lib.hid ho
    clear ho hp hi hall
    rw [hfil]
    go_enter Tryz.func22, Tryz.ntmps22
    go_wp2_with fail
    refine HIx.out.mono ?_; rintro e w1 ⟨rfl, hb1g⟩; have hb1 := hb1g.below; clear hb1g
    go_wp2_with fail
    go_ret
    exact ⟨_, rfl, own_keep HO.out (fun q hq => hb1.block _ (HO.out.lt q hq).2), rfl, .of_below hb1⟩
  · rw [hi] at HIx
    obtain ⟨a, cap, rfl, hcap, hmx, ha⟩ := own_cap ho
    have hlen : H.length ≤ 9223372036854775807 := by simp only [maxLen] at hmx; omega
    obtain ⟨gb, rfl, hgb, hgl⟩ := ha.resolve_left (by omega)
    obtain ⟨hs1, hs2⟩ := midL_start (fun h => !p h) H i hi1 (fun j hj hl => by simp [hlow j hj hl]) (by simp [hat hi1])
    have HS1 := Lib.hid hs1
    have HS2 := Lib.hid hs2
    have HO := Lib.hid ho
    have HP := Lib.hid hp
    have hi0 : ((i : Int) == -1) = false := beq_eq_false_iff_ne.2 (by omega)
    have hRl : (H.filter fun h => !p h).length < H.length := by
      have h1 := List.length_filter_lt_length_iff_exists (l := H) (p := fun h => !p h)
      exact h1.2 ⟨H[i], List.getElem_mem hi1, by simp [hat hi1]⟩
    clear ho hp hlow hat hs1 hs2 hi
    go_enter Tryz.func22, Tryz.ntmps22
    go_wp2_with fail
    refine HIx.out.mono ?_; rintro e w1 ⟨rfl, hb1g⟩; have hb1 := hb1g.below; clear hb1g
    have O1 := Lib.hid (own_keep HO.out (fun q hq => by simp only [Value.ownBlock, Option.some.injEq] at hq; subst hq; exact hb1.block _ hgl))
    have M1 : Hid (Moved (· = gb) w w1) := Lib.hid (.of_below hb1)
    clear hb1
    go_wp2_with fail
    go_loopw [5, 6, 7] (fun ti tj _ wr => ∃ j, j ≤ H.length ∧ tj = .int .i64 j ∧ ti = .int .i64 ((H.take j).filter fun h => !p h).length ∧ wr.ownsRow B 64 2 (.slice (some ⟨gb, 0, none⟩) H.length cap) H.length (wsRow (midL (fun h => !p h) H j)) ∧ Moved (· = gb) w wr) (fun _ tj _ _ => H.length - (intOf tj).toNat)
    case atStart => exact ⟨i + 1, by omega, by go_num, by rw [HS2.out], by rw [HS1.out]; exact O1.out, M1.out⟩
    case round =>
      obtain ⟨j, hj, rfl, rfl, hown, hM⟩ := hrel
      obtain ⟨wo, rfl⟩ : ∃ wo : World, wo = wr := ⟨_, rfl⟩
      have hz := hM.size
      have hml := midL_len (fun h => !p h) H j hj
      have hfl := filt_len (fun h => !p h) H j
      by_cases hlt : j < H.length
      · have hki : decide ((j : Int) < (H.length : Int)) = true := by simp; omega
        have hget := midL_get (fun h => !p h) H j hlt
        obtain ⟨c0, c1⟩ := ws_cells hown j (by omega)
        have hge : (midL (fun h => !p h) H j)[j]'(by omega) = H[j] := by
          rw [List.getElem?_eq_getElem (by omega)] at hget
          exact Option.some.inj hget
        rw [hge] at c0 c1
        have hc := HP.out (wo.alloc (.cells #[.int .i64 H[j].x, .int .i64 H[j].m] 64)) H[j] ((hM.mono fun k _ hk => by simp only [Value.ownBlock, Option.some.injEq]; exact hk.symm).alloc _)
        have HD : Hid (p H[j] = true → midL (fun h => !p h) H (j + 1) = midL (fun h => !p h) H j ∧ ((H.take (j + 1)).filter fun h => !p h).length = ((H.take j).filter fun h => !p h).length) := Lib.hid fun h1 => midL_drop (fun h => !p h) H j hlt (by simp [h1])
        have HK : Hid (p H[j] = false → midL (fun h => !p h) H (j + 1) = (midL (fun h => !p h) H j).set ((H.take j).filter fun h => !p h).length H[j] ∧ ((H.take (j + 1)).filter fun h => !p h).length = ((H.take j).filter fun h => !p h).length + 1) := Lib.hid fun h1 => midL_keep (fun h => !p h) H j hlt (by simp [h1])
        have HOw := Lib.hid hown
        have HM := Lib.hid hM
        clear hown hM hget hge
        generalize midL (fun h => !p h) H j = C at *
        generalize ((H.take j).filter fun h => !p h).length = n0 at *
        generalize H[j] = h at *
        obtain ⟨q, hq⟩ : ∃ q, p h = q := ⟨_, rfl⟩
        rw [hq] at hc
        have HQ := Lib.hid hq
        clear hq
        cases q with
        | true =>
          obtain ⟨e1, e2⟩ := HD.out HQ.out
          have E1 := Lib.hid e1
          have E2 := Lib.hid e2
          clear HD HK HQ e1 e2
          go_wp2_with fail
          refine hc.mono ?_; rintro e w2 ⟨rfl, hb2g⟩; have hb2 := hb2g.below; clear hb2g
          have HB2 := Lib.hid hb2
          clear hb2
          go_wp2_with fail
          refine ⟨⟨j + 1, by omega, by go_num, by rw [E2.out], ?_, (HM.out.alloc _).below HB2.out⟩, by simp [intOf]; omega⟩
          rw [E1.out]
          exact own_keep (HOw.out.alloc _) (fun q hq => HB2.out.block _ ((HOw.out.alloc _).lt q hq).2)
        | false =>
          obtain ⟨e1, e2⟩ := HK.out HQ.out
          have E1 := Lib.hid e1
          have E2 := Lib.hid e2
          clear HD HK HQ e1 e2
          go_wp2_with fail
          refine hc.mono ?_; rintro e w2 ⟨rfl, hb2g⟩; have hb2 := hb2g.below; clear hb2g
          have O2 := own_keep (HOw.out.alloc _) (fun q hq => hb2.block _ ((HOw.out.alloc _).lt q hq).2)
          have b0 := (hb2.cell (p := ⟨wo.heap.size, 0, none⟩) (by simp)).trans (World.cell?_alloc_mark wo _ _ (0, 0) 0)
          have b1 := (hb2.cell (p := ⟨wo.heap.size, 1, none⟩) (by simp)).trans (World.cell?_alloc_mark wo _ _ (0, 0) 1)
          simp only [List.getElem?_toArray, List.getElem?_cons_succ, List.getElem?_cons_zero] at b0 b1
          obtain ⟨d0, d1⟩ := ws_cells O2 n0 (by omega)
          have f0 := own_frozen O2 (n0 * 2)
          have f1 := own_frozen O2 (n0 * 2 + 1)
          have HB2 := Lib.hid hb2
          have HO2 := Lib.hid O2
          have hnlt : decide ((n0 : Int) < (H.length : Int)) = true := by simp; omega
          clear hb2 O2
          go_wp2_with fail
          refine ⟨⟨j + 1, by omega, by go_num, by rw [E2.out]; go_num, ?_, (((HM.out.alloc _).below HB2.out).setCell (.inl rfl) _).setCell (.inl rfl) _⟩, by simp [intOf]; omega⟩
          rw [E1.out, wsRow_set _ _ _ (by omega)]
          exact own_set (own_set HO2.out _ (by omega) _) _ (by omega) _
      · have hki : decide ((j : Int) < (H.length : Int)) = false := by simp; omega
        have hjj : j = H.length := by omega
        subst hjj
        have hn1 : ((H.take H.length).filter fun h => !p h).length = (H.filter fun h => !p h).length := by rw [List.take_length]
        have hla := midL_all (fun h => !p h) H
        have hnl : (H.filter fun h => !p h).length ≤ H.length := List.length_filter_le ..
        obtain ⟨wc, hcl, hoc, hmc⟩ := run_clear_row (t := 55) (e := 64) wo 2 Tryz.underlying55 (.agg #[.int .i64 0, .int .i64 0]) (fun w => by kernel_rfl) rfl (by intro v hv; simp [Value.cells] at hv; subst hv; rfl) 0 B gb H.length cap 64 _ hown (H.filter fun h => !p h).length hnl (by omega) (cap - (H.filter fun h => !p h).length)
        rw [flat_takeW, hla] at hoc
        have hcl' := hcl
        have HOC := Lib.hid hoc
        have HMC := Lib.hid hmc
        have HM := Lib.hid hM
        rw [hn1]
        clear hown hM hoc hmc hla hn1 hml hfl
        generalize hR : (H.filter fun h => !p h) = R at *
        have HR := Lib.hid hR
        clear hR
        have hcR : ¬ cap - R.length = 0 := by omega
        have hcR2 : cap ≠ R.length := by omega
        go_wp2_with fail
        go_ret
        refine ⟨_, rfl, ?_, rfl, ?_⟩
        · rw [HR.out]; exact HOC.out
        · exact (HM.out.mono fun k _ hk => by simp only [Value.ownBlock, Option.some.injEq]; exact hk.symm).trans (HMC.out.mono fun k _ hk => .inl (by simp only [Value.ownBlock, Option.some.injEq]; exact hk.symm))
end Go.Proofs.YtileamjmhhifaaaGreat
