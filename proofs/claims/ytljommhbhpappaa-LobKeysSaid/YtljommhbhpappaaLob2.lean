/-
  Layer 17 (lob): the steps from one state of an object to another.
-/
import Derived.Test.YtljommhbhpappaaLob1
namespace Go.Proofs.Ytljommhbhpappaa
open Go.RowKit Go.Joins
set_option linter.unusedVariables false
set_option linter.unusedSimpArgs false

/-- a step: its kind, key and value -/
abbrev Stp := Int × ByteArray × ByteArray
def stpCs (x : Stp) : Array Value := #[.int .i64 x.1, .string x.2.1, .string x.2.2]
def stpRow (l : List Stp) : List Value := l.flatMap fun x => (stpCs x).toList
theorem stpRow_append (a b : List Stp) : stpRow (a ++ b) = stpRow a ++ stpRow b := by simp [stpRow]
def stepAt (num : Int) (fr to : List ByteArray) (i : Nat) : List Stp :=
  if to.length ≤ i then [(16, key4 num i, ByteArray.empty)]
  else if fr.length ≤ i then [(13, key4 num i, to.getD i ByteArray.empty)]
  else if fr.getD i ByteArray.empty = to.getD i ByteArray.empty then [] else [(15, key4 num i, to.getD i ByteArray.empty)]
def stepsTo (num : Int) (fr to : List ByteArray) (k : Nat) : List Stp := (List.range k).flatMap (stepAt num fr to)
theorem stepsTo_succ (num : Int) (fr to : List ByteArray) (k : Nat) : stepsTo num fr to (k + 1) = stepsTo num fr to k ++ stepAt num fr to k := by
  simp [stepsTo, List.range_succ]
theorem stepAt_len (num : Int) (fr to : List ByteArray) (k : Nat) : (stepAt num fr to k).length ≤ 1 := by
  unfold stepAt
  split
  · simp
  · split
    · simp
    · split <;> simp
theorem stepsTo_len (num : Int) (fr to : List ByteArray) : ∀ k, (stepsTo num fr to k).length ≤ k
  | 0 => by simp [stepsTo]
  | k + 1 => by
    have := stepsTo_len num fr to k
    have := stepAt_len num fr to k
    rw [stepsTo_succ, List.length_append]
    omega
/-- strings that stand in memory, where a slice points -/
def StrAt (w : World) (a : Option Addr) (I : List ByteArray) : Prop :=
  I.length ≤ 100000 ∧ (I.length = 0 ∨ ∃ b, a = some ⟨b, 0, none⟩ ∧ b < w.heap.size ∧ ∀ (i : Nat) (h : i < I.length), w.cell? ⟨b, i, none⟩ = some (.string I[i]))
theorem StrAt.below {w w' : World} {a : Option Addr} {I : List ByteArray} (h : StrAt w a I) (hb : Below w.heap.size w w') : StrAt w' a I := by
  refine ⟨h.1, ?_⟩
  rcases h.2 with h0 | ⟨b, rfl, h1, h2⟩
  · exact .inl h0
  · exact .inr ⟨b, rfl, Nat.lt_of_lt_of_le h1 hb.size, fun i hi => (hb.cell (p := ⟨b, i, none⟩) h1).trans (h2 i hi)⟩
theorem own_lo17 {w : World} {b s n k : Nat} {e : TypeId} {v : Value} {xs : List Value} (h : w.ownsRow b e s v n xs) (hk : k < b) : some k ≠ v.ownBlock := fun h2 => by
  have := (h.lt _ h2.symm).1; omega
theorem infoStp : (Try.prog.info? 47).map (fun i => (i.zero, i.size, i.bytes)) = some (some (.agg #[.int .i64 0, .string ⟨#[]⟩, .string ⟨#[]⟩]), 3, 40) := by kernel_rfl

set_option maxHeartbeats 4000000 in
set_option maxRecDepth 100000 in
theorem steps_any (num : Int) (fa ta : Option Addr) (fc tc : Nat) (fr to : List ByteArray) (w : World) (hf : StrAt w fa fr) (ht : StrAt w ta to) :
    Calls Try.prog 61 #[.int .i64 num, .slice fa fr.length fc, .slice ta to.length tc] w fun e w' => ∃ v, e = .returned v ∧ Below w.heap.size w w' ∧ w'.ownsRow w.heap.size 47 3 v (stepsTo num fr to (max fr.length to.length)).length (stpRow (stepsTo num fr to (max fr.length to.length))) := by
  obtain ⟨i0, hi, hz0, hz1, hz2⟩ := info_parts infoStp
  have HF := Lib.hid hf
  have HT := Lib.hid ht
  have hfl := hf.1
  have htl := ht.1
  clear hf ht
  obtain ⟨M, hM⟩ : ∃ M, max fr.length to.length = M := ⟨_, rfl⟩
  rw [hM]
  have hmx : max (fr.length : Int) (to.length : Int) = (M : Int) := by omega
  have hM1 : M ≤ 100000 := by omega
  have HK := Lib.hid (fun k w' => lkey_any num (k : Int) w')
  go_enter Try.func61, Try.ntmps61
  go_wp2_with fail
  go_loopw [7, 14] (fun l v wr => ∃ k : Nat, k ≤ M ∧ v = .int .i64 k ∧ wr.ownsRow w.heap.size 47 3 l (stepsTo num fr to k).length (stpRow (stepsTo num fr to k)) ∧ Below w.heap.size w wr) (fun _ v _ => M - (intOf v).toNat)
  case atStart => exact ⟨0, by omega, rfl, World.ownsRow_nil _ _ _ _, Below.refl _ _⟩
  case round =>
    obtain ⟨k, hk, rfl, hown, hbw⟩ := hrel
    have hz := hbw.size
    have HKk := Lib.hid (HK.out (k : Nat))
    have hlen := stepsTo_len num fr to k
    by_cases hkM : k < M
    · have hsucc := stepsTo_succ num fr to k
      by_cases h1 : to.length ≤ k
      · have hst : stepAt num fr to k = [(16, key4 num k, ByteArray.empty)] := by simp [stepAt, h1]
        have h1i : decide ((to.length : Int) ≤ (k : Int)) = true := by simp; omega
        rw [hst] at hsucc
        have HS := Lib.hid hsucc
        clear hsucc hst
        generalize stepsTo num fr to k = R at *
        generalize key4 num (k : Int) = ky at *
        go_wp2_with fail
        refine (HKk.out _).mono ?_; rintro e w3 ⟨rfl, hb3⟩
        have hz3 := hb3.size
        have hown3 := own_below1 hown hb3
        have hbw3 : Below w.heap.size w w3 := hbw.trans (hb3.mono hz)
        clear hb3 hown
        go_wp2_with (at_builtin; refine wpList_append_own _ rfl _ _ 32 rfl w.heap.size 47 i0 _ 3 40 Try.underlying32 hi hz0 hz1 hz2 rfl (by decide) _ _ _ rfl (hown3.alloc _) ⟨w3.heap.size, 0, none⟩ 1 1 (stpCs (16, ky, ByteArray.empty)).toList rfl rfl ?c1 ?c2 ?c3 ?c4 ?c5 ?_)
        case c1 => exact World.news_of_block (cs := stpCs (16, ky, ByteArray.empty)) (t := 47) (fr := (0, 0)) (heap_alloc_new w3 _)
        case c2 => intro u hu; simp [stpCs] at hu; rcases hu with rfl | rfl | rfl <;> rfl
        case c3 => simp only [maxLen]; omega
        case c4 => omega
        case c5 => first | omega | (simp; omega)
        intro v' w5 hown' hgrow _
        have hb5 : Below w.heap.size w w5 := (hbw3.alloc (by omega) _).grown hgrow (by go_size) (fun q hq => (hown3.lt q hq).1)
        clear hown3 hgrow
        go_wp2_with fail
        refine ⟨⟨k + 1, by omega, by go_num, ?_, hb5⟩, ?_⟩
        · rw [HS.out, stpRow_append]; simpa [stpRow] using hown'
        · simp [intOf]; omega
      · have hTr := HT.out
        obtain ⟨bt, rfl, hbt, hcell⟩ := hTr.2.resolve_left (by omega)
        have hct := (hbw.cell (p := ⟨bt, k, none⟩) hbt).trans (hcell k (by omega))
        have hbtr : bt < wr.heap.size := by omega
        have h1i : decide ((to.length : Int) ≤ (k : Int)) = false := by simp; omega
        have hgd : to.getD k ByteArray.empty = to[k] := by simp [List.getD, List.getElem?_eq_getElem (by omega : k < to.length)]
        clear hTr hcell
        by_cases h2 : fr.length ≤ k
        · have hst : stepAt num fr to k = [(13, key4 num k, to[k])] := by
            unfold stepAt; rw [if_neg h1, if_pos h2, hgd]
          have h2i : decide ((fr.length : Int) ≤ (k : Int)) = true := by simp; omega
          rw [hst] at hsucc
          have HS := Lib.hid hsucc
          clear hsucc hst hgd
          generalize stepsTo num fr to k = R at *
          generalize key4 num (k : Int) = ky at *
          have hk0 : (0 : Int) ≤ (k : Int) := Int.natCast_nonneg _
          have hk1 : (k : Int) < (to.length : Int) := by omega
          generalize to[k] = x at *
          go_wp2_with fail
          have hne := own_lo17 hown hbt
          have hone : ∀ u ∈ (stpCs (13, ky, x)).toList, u.oneCell' = true := by
            intro u hu; simp [stpCs] at hu; rcases hu with rfl | rfl | rfl <;> rfl
          go_region_held3 (fun W => W.cell? ⟨bt, k, none⟩ = some (.string x))
            (first
              | assumption
              | exact (hb3.cell (p := ⟨bt, k, none⟩) hbtr).trans hct
              | go_keep
              | exact hc7)
            (first
              | ((go_at_call 15; refine (HKk.out _).mono ?_; rintro e w3 ⟨rfl, hb3⟩; have hz3 : wr.heap.size ≤ w3.heap.size := hb3.size; have hown3 := own_below1 hown.drew hb3; have hc3 := (hb3.cell (p := ⟨bt, k, none⟩) hbtr).trans hct))
              | ((refine step_append_lies _ (by rfl) _ _ _ (by rfl) w.heap.size 47 i0 _ 3 40 Try.underlying32 hi hz0 hz1 hz2 rfl (by omega) _ R.length _ (by rfl) (hown3.alloc _) ⟨w3.heap.size, 0, none⟩ 1 1 (stpCs (13, ky, x)).toList (by rfl) (by rfl) (World.news_of_block (cs := stpCs (13, ky, x)) (t := 47) (fr := (0, 0)) (heap_alloc_new w3 _)) hone (by omega) (by simp only [maxLen]; omega) (by omega) (by simp; omega) (w3.heap.size + 1) (by simp) ?_; intro gg cap w7 hown7 hgrow hat hltg; have hc7 : w7.cell? ⟨bt, k, none⟩ = some (.string x) := by rw [hgrow.cell_far _ (by simp; omega) hne]; exact (((Below.refl w3.heap.size w3).alloc (Nat.le_refl _) _).cell (p := ⟨bt, k, none⟩) (by show bt < w3.heap.size; omega)).trans hc3)))
          all_goals
            have hb5 : Below w.heap.size w w7 := ((hbw.drew.trans (hb3.mono hz)).alloc (by omega) _).grown hgrow (by simp; omega) (fun q hq => (hown3.lt q hq).1)
            clear hown3 hgrow hown
            go_wp2_with fail
            refine ⟨⟨k + 1, by omega, by go_num, ?_, hb5⟩, ?_⟩
            · rw [HS.out, stpRow_append]; simpa [stpRow] using hown7
            · simp [intOf]; omega
        · have hTf := HF.out
          obtain ⟨bf, rfl, hbf, hcelf⟩ := hTf.2.resolve_left (by omega)
          have hcf := (hbw.cell (p := ⟨bf, k, none⟩) hbf).trans (hcelf k (by omega))
          have hbfr : bf < wr.heap.size := by omega
          have h2i : decide ((fr.length : Int) ≤ (k : Int)) = false := by simp; omega
          have hgf : fr.getD k ByteArray.empty = fr[k] := by simp [List.getD, List.getElem?_eq_getElem (by omega : k < fr.length)]
          clear hTf hcelf
          have hk0 : (0 : Int) ≤ (k : Int) := Int.natCast_nonneg _
          have hk1 : (k : Int) < (to.length : Int) := by omega
          have hk2 : (k : Int) < (fr.length : Int) := by omega
          have hne := own_lo17 hown hbt
          have hbeq := beq_eq fr[k] to[k]
          by_cases he : fr[k] = to[k]
          · have hst : stepAt num fr to k = [] := by
              unfold stepAt; rw [if_neg h1, if_neg h2, hgd, hgf, if_pos he]
            have hq : (fr[k].toList != to[k].toList) = false := by rw [he]; simp
            have hq2 : (fr[k].toList == to[k].toList) = true := by rw [he]; simp
            rw [hst, List.append_nil] at hsucc
            have HS := Lib.hid hsucc
            clear hsucc hst hgd hgf he hbeq
            generalize stepsTo num fr to k = R at *
            generalize fr[k] = y at *
            generalize to[k] = x at *
            go_wp2_with fail
            go_region_held3 (fun W => W.cell? ⟨bt, k, none⟩ = some (.string x) ∧ W.cell? ⟨bf, k, none⟩ = some (.string y))
              (exact ⟨hct, hcf⟩)
              (fail)
            all_goals
              go_wp2_with fail
              refine ⟨⟨k + 1, by omega, by go_num, ?_, hbw.drew⟩, ?_⟩
              · rw [HS.out]; exact hown.drew
              · simp [intOf]; omega
          · have hst : stepAt num fr to k = [(15, key4 num k, to[k])] := by
              unfold stepAt; rw [if_neg h1, if_neg h2, hgd, hgf, if_neg he]
            have hq : (fr[k].toList != to[k].toList) = true := by simp only [bne, hbeq]; simp [he]
            have hq2 : (fr[k].toList == to[k].toList) = false := by rw [hbeq]; simp [he]
            rw [hst] at hsucc
            have HS := Lib.hid hsucc
            clear hsucc hst hgd hgf he hbeq
            generalize stepsTo num fr to k = R at *
            generalize fr[k] = y at *
            generalize to[k] = x at *
            generalize key4 num (k : Int) = ky at *
            go_wp2_with fail
            go_region_held3 (fun W => W.cell? ⟨bt, k, none⟩ = some (.string x) ∧ W.cell? ⟨bf, k, none⟩ = some (.string y))
              (exact ⟨hct, hcf⟩)
              (fail)
            all_goals
              have hone : ∀ u ∈ (stpCs (15, ky, x)).toList, u.oneCell' = true := by
                intro u hu; simp [stpCs] at hu; rcases hu with rfl | rfl | rfl <;> rfl
              go_wp2_with fail
              go_region_held3 (fun W => W.cell? ⟨bt, k, none⟩ = some (.string x))
                (first
                  | exact hct
                  | exact (hb3.cell (p := ⟨bt, k, none⟩) hbtr).trans hct
                  | go_keep
                  | exact hc7)
                (first
                  | ((go_at_call 15; refine (HKk.out _).mono ?_; rintro e w3 ⟨rfl, hb3⟩; have hz3 : wr.heap.size ≤ w3.heap.size := hb3.size; have hown3 := own_below1 hown.drew.drew hb3; have hc3 := (hb3.cell (p := ⟨bt, k, none⟩) hbtr).trans hct))
                  | ((refine step_append_lies _ (by rfl) _ _ _ (by rfl) w.heap.size 47 i0 _ 3 40 Try.underlying32 hi hz0 hz1 hz2 rfl (by omega) _ R.length _ (by rfl) (hown3.alloc _) ⟨w3.heap.size, 0, none⟩ 1 1 (stpCs (15, ky, x)).toList (by rfl) (by rfl) (World.news_of_block (cs := stpCs (15, ky, x)) (t := 47) (fr := (0, 0)) (heap_alloc_new w3 _)) hone (by omega) (by simp only [maxLen]; omega) (by omega) (by simp; omega) (w3.heap.size + 1) (by simp) ?_; intro gg cap w7 hown7 hgrow hat hltg; have hc7 : w7.cell? ⟨bt, k, none⟩ = some (.string x) := by rw [hgrow.cell_far _ (by simp; omega) hne]; exact (((Below.refl w3.heap.size w3).alloc (Nat.le_refl _) _).cell (p := ⟨bt, k, none⟩) (by show bt < w3.heap.size; omega)).trans hc3)))
              all_goals
                have hb5 : Below w.heap.size w w7 := ((hbw.drew.drew.trans (hb3.mono hz)).alloc (by omega) _).grown hgrow (by simp; omega) (fun q hq => (hown3.lt q hq).1)
                clear hown3 hgrow hown
                go_wp2_with fail
                refine ⟨⟨k + 1, by omega, by go_num, ?_, hb5⟩, ?_⟩
                · rw [HS.out, stpRow_append]; simpa [stpRow] using hown7
                · simp [intOf]; omega
    · have hke : k = M := by omega
      subst hke
      go_wp2_with fail
      go_ret
      exact ⟨_, rfl, hbw, hown⟩
end Go.Proofs.Ytljommhbhpappaa
