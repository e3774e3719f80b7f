/-
  Layer 17 (lob): the document's answer: steps.
-/
import Derived.Test.YtljommhbhpappaaLr17c
import Derived.Test.YtljommhbhpappaaLr17b
namespace Go.Proofs.Ytljommhbhpappaa
open Go.RowKit Go.Joins
set_option linter.unusedVariables false
set_option linter.unusedSimpArgs false

/-- two rows that lie in different blocks -/
def Apart17 (a b : Value) : Prop := ∀ q, a.ownBlock = some q → b.ownBlock ≠ some q
theorem Apart17.symm {a b : Value} (h : Apart17 a b) : Apart17 b a := fun q h1 h2 => h q h2 h1
theorem Apart17.ne {a b : Value} (h : Apart17 a b) : b.ownBlock = none ∨ b.ownBlock ≠ a.ownBlock := by
  cases e : b.ownBlock with
  | none => exact .inl rfl
  | some q => exact .inr fun e2 => h q e2.symm e
theorem Apart17.app {w : World} {a b a' : Value} {B s n N : Nat} {e : TypeId} {xs : List Value} (h : Apart17 a b) (hb : w.ownsRow B e s b n xs) (hat : a'.ownBlock = a.ownBlock ∨ a'.ownBlock = some N) (hN : w.heap.size ≤ N) : Apart17 a' b := fun q h1 h2 => by
  rcases hat with e | e
  · exact h q (e ▸ h1) h2
  · rw [e] at h1
    cases h1
    have := (hb.lt _ h2).2
    omega

set_option maxHeartbeats 16000000 in
set_option maxRecDepth 100000 in
theorem osteps_any (num : Int) (hnum : 0 ≤ num ∧ num < 1000) (fa ta : Option Addr) (fc tc : Nat) (fr to : List ByteArray) (w : World) (hf : StrAt w fa fr) (ht : StrAt w ta to) (hfl : fr.length ≤ 1000) (htl : to.length ≤ 1000) :
    Calls Try.prog 30 #[.int .i64 num, .slice fa fr.length fc, .slice ta to.length tc] w fun e w' => ∃ v1 v2 v3, e = .returned (.tuple #[v1, v2, v3]) ∧ Below w.heap.size w w' ∧
      w'.ownsRow w.heap.size 3 1 v1 (stepsTo num fr to (max fr.length to.length)).length ((stepsTo num fr to (max fr.length to.length)).map fun x => .int .i64 x.1) ∧
      w'.ownsRow w.heap.size 9 1 v2 (stepsTo num fr to (max fr.length to.length)).length ((stepsTo num fr to (max fr.length to.length)).map fun x => .string x.2.1) ∧
      w'.ownsRow w.heap.size 9 1 v3 (stepsTo num fr to (max fr.length to.length)).length ((stepsTo num fr to (max fr.length to.length)).map fun x => .string x.2.2) := by
  obtain ⟨j0, ji, jz0, jz1, jz2⟩ := info_parts infoInt22
  obtain ⟨q0, qi, qz0, qz1, qz2⟩ := info_parts infoStr17
  have HF := Lib.hid hf
  have HT := Lib.hid ht
  clear hf ht
  obtain ⟨M, hM⟩ : ∃ M, max fr.length to.length = M := ⟨_, rfl⟩
  rw [hM]
  have HM := Lib.hid hM
  have HL := Lib.hid (stepsTo_len num fr to)
  have hM1 : M ≤ 1000 := by omega
  have HK := Lib.hid (fun (k : Nat) (hk : k ≤ 1000) w' => rkey_any num (k : Int) (by omega) (by omega) w')
  clear hM
  go_enter Try.func30, Try.ntmps30
  go_wp2_with fail
  go_loopw [9, 10, 11, 12] (fun vk vy vv v wr => ∃ (k : Nat), k ≤ M ∧ v = .int .i64 k ∧ Below w.heap.size w wr ∧ Apart17 vy vv ∧ ∃ R : List Stp, stepsTo num fr to k = R ∧ wr.ownsRow w.heap.size 3 1 vk R.length (R.map fun x => .int .i64 x.1) ∧ wr.ownsRow w.heap.size 9 1 vy R.length (R.map fun x => .string x.2.1) ∧ wr.ownsRow w.heap.size 9 1 vv R.length (R.map fun x => .string x.2.2)) (fun _ _ _ v _ => M - (intOf v).toNat)
  case atStart => exact ⟨0, by omega, rfl, Below.refl _ _, fun q h => (by cases h), [], rfl, World.ownsRow_nil _ _ _ _, World.ownsRow_nil _ _ _ _, World.ownsRow_nil _ _ _ _⟩
  case round =>
    obtain ⟨k, hk, rfl, hbw, hap, R, hR, hok, hoy, hov⟩ := hrel
    have hz := hbw.size
    have hlen := HL.out k
    rw [hR] at hlen
    have hM2 := HM.out
    by_cases hkM : k < M
    · have hsucc := stepsTo_succ num fr to k
      rw [hR] at hsucc
      have HKk := Lib.hid (HK.out k (by omega))
      have HAP := Lib.hid hap
      have HOY := Lib.hid hoy
      have HOV := Lib.hid hov
      have HN1 := Lib.hid (own_ne hoy hok (by decide))
      have HN2 := Lib.hid (own_ne hov hok (by decide))
      clear hap hoy hov hM2 hR
      by_cases h1 : to.length ≤ k
      · have hlt : (k : Int) < (fr.length : Int) := by have := HM.out; omega
        have hst : stepAt num fr to k = [(16, key4 num k, ByteArray.empty)] := by simp [stepAt, h1]
        have h1i : decide ((to.length : Int) ≤ (k : Int)) = true := by simp; omega
        have h3i : decide ((k : Int) < (fr.length : Int)) = true := by simpa using hlt
        rw [hst] at hsucc
        have HS := Lib.hid hsucc
        clear hsucc hst
        generalize key4 num (k : Int) = ky at *
        go_wp2_with (at_builtin; refine wpList_append_own _ rfl _ _ 28 rfl w.heap.size 3 j0 _ 1 8 Try.underlying28 ji jz0 jz1 jz2 rfl (by decide) _ _ _ rfl (hok.alloc _) ⟨wr.heap.size, 0, none⟩ 1 1 [.int .i64 16] rfl rfl ?a1k ?a2k ?a3k ?a4k ?a5k ?_)
        case a1k => exact cell_one_new _ _ _
        case a2k => simp [Value.oneCell']
        case a3k => simp only [maxLen]; omega
        case a4k => omega
        case a5k => first | omega | (simp; omega)
        intro v5 w5 hok5 hgrow5 _
        have hb5 : Below w.heap.size w w5 := (hbw.alloc hz _).grown hgrow5 (by go_size) (fun q hq => (hok.lt q hq).1)
        have hy5 := (HOY.out.alloc (.cells #[.int .i64 16] 3)).kept hgrow5 HN1.out
        have hv5 := (HOV.out.alloc (.cells #[.int .i64 16] 3)).kept hgrow5 HN2.out
        have HY5 := Lib.hid hy5
        have HV5 := Lib.hid hv5
        have HK5 := Lib.hid hok5
        have B5 := Lib.hid hb5
        have hz5 := hb5.size
        clear hok hgrow5 hb5 hy5 hv5 hok5
        go_wp2_with fail
        with_reducible refine (HKk.out _).mono ?_; rintro e w6 ⟨rfl, hb6⟩
        have hz6 := hb6.size
        have hb6w := B5.out.trans (hb6.mono hz5)
        have hy6 := own_low22 HY5.out hb6
        have hv6 := own_low22 HV5.out hb6
        have hk6 := own_low22 HK5.out hb6
        have HV6 := Lib.hid hv6
        have HK6 := Lib.hid hk6
        have B6 := Lib.hid hb6w
        have hz6w := hb6w.size
        have HN6 := Lib.hid (own_ne hk6 hy6 (by decide))
        clear hb6 hb6w hv6 hk6
        go_wp2_with (at_builtin; refine wpList_append_own_at _ rfl _ _ 27 rfl w.heap.size 9 q0 _ 1 16 Try.underlying27 qi qz0 qz1 qz2 rfl (by decide) _ _ _ rfl (hy6.alloc _) ⟨w6.heap.size, 0, none⟩ 1 1 [.string ky] rfl rfl ?a1y ?a2y ?a3y ?a4y ?a5y ?_)
        case a1y => exact cell_one_new _ _ _
        case a2y => simp [Value.oneCell']
        case a3y => simp only [maxLen]; omega
        case a4y => omega
        case a5y => first | omega | (simp; omega)
        intro v7 w7 hy7 hgrow7 _ hat7
        have hb7 : Below w.heap.size w w7 := (B6.out.alloc hz6w _).grown hgrow7 (by go_size) (fun q hq => (hy6.lt q hq).1)
        have hk7 := (HK6.out.alloc (.cells #[.string ky] 9)).kept hgrow7 HN6.out
        have hv7 := (HV6.out.alloc (.cells #[.string ky] 9)).kept hgrow7 HAP.out.ne
        have hap7 := HAP.out.app (HV6.out.alloc (.cells #[.string ky] 9)) hat7 (by first | exact Nat.le_refl _ | go_size)
        have HAP7 := Lib.hid hap7
        have HY7 := Lib.hid hy7
        have HK7 := Lib.hid hk7
        have B7 := Lib.hid hb7
        have hz7 := hb7.size
        have HN7 := Lib.hid (own_ne hk7 hv7 (by decide))
        clear hy6 hgrow7 hat7 hap7 hy7 hk7 hb7
        go_wp2_with (at_builtin; refine wpList_append_own_at _ rfl _ _ 27 rfl w.heap.size 9 q0 _ 1 16 Try.underlying27 qi qz0 qz1 qz2 rfl (by decide) _ _ _ rfl (hv7.alloc _) ⟨w7.heap.size, 0, none⟩ 1 1 [.string ByteArray.empty] rfl rfl ?a1v ?a2v ?a3v ?a4v ?a5v ?_)
        case a1v => exact cell_one_new _ _ _
        case a2v => simp [Value.oneCell']
        case a3v => simp only [maxLen]; omega
        case a4v => omega
        case a5v => first | omega | (simp; omega)
        intro v8 w8 hv8 hgrow8 _ hat8
        have hb8 : Below w.heap.size w w8 := (B7.out.alloc hz7 _).grown hgrow8 (by go_size) (fun q hq => (hv7.lt q hq).1)
        have hk8 := (HK7.out.alloc (.cells #[.string ByteArray.empty] 9)).kept hgrow8 HN7.out
        have hy8 := (HY7.out.alloc (.cells #[.string ByteArray.empty] 9)).kept hgrow8 HAP7.out.symm.ne
        have hap8 := (HAP7.out.symm.app (HY7.out.alloc (.cells #[.string ByteArray.empty] 9)) hat8 (by first | exact Nat.le_refl _ | go_size)).symm
        clear hv7 hgrow8 hat8
        go_wp2_with fail
        refine ⟨⟨k + 1, by omega, by go_num, hb8, hap8, R ++ [(16, ky, ByteArray.empty)], HS.out, ?_, ?_, ?_⟩, ?_⟩
        · simpa using hk8
        · simpa using hy8
        · simpa using hv8
        · simp [intOf]; omega
      · have hTr := HT.out
        obtain ⟨bt, rfl, hbt, hcell⟩ := hTr.2.resolve_left (by omega)
        have hct := (hbw.cell (p := ⟨bt, k, none⟩) hbt).trans (hcell k (by omega))
        have hbtr : bt < wr.heap.size := by omega
        have h1i : decide ((to.length : Int) ≤ (k : Int)) = false := by simp; omega
        have hgd : to.getD k ByteArray.empty = to[k] := by simp [List.getD, List.getElem?_eq_getElem (by omega : k < to.length)]
        have hk0 : (0 : Int) ≤ (k : Int) := Int.natCast_nonneg _
        have hk1 : (k : Int) < (to.length : Int) := by omega
        have h4i : decide ((k : Int) < (to.length : Int)) = true := by simpa using hk1
        clear hTr hcell
        by_cases h2 : fr.length ≤ k
        · have hst : stepAt num fr to k = [(13, key4 num k, to[k])] := by
            unfold stepAt; rw [if_neg h1, if_pos h2, hgd]
          have h2i : decide ((fr.length : Int) ≤ (k : Int)) = true := by simp; omega
          have h3i : decide ((k : Int) < (fr.length : Int)) = false := by simp; omega
          have h3j : ¬ k < fr.length := by omega
          rw [hst] at hsucc
          have HS := Lib.hid hsucc
          clear hsucc hst hgd
          generalize to[k] = x at *
          generalize key4 num (k : Int) = ky at *
          go_wp2_with (at_builtin; refine wpList_append_own _ rfl _ _ 28 rfl w.heap.size 3 j0 _ 1 8 Try.underlying28 ji jz0 jz1 jz2 rfl (by decide) _ _ _ rfl (hok.alloc _) ⟨wr.heap.size, 0, none⟩ 1 1 [.int .i64 13] rfl rfl ?b1k ?b2k ?b3k ?b4k ?b5k ?_)
          case b1k => exact cell_one_new _ _ _
          case b2k => simp [Value.oneCell']
          case b3k => simp only [maxLen]; omega
          case b4k => omega
          case b5k => first | omega | (simp; omega)
          intro v5 w5 hok5 hgrow5 _
          have hb5 : Below w.heap.size w w5 := (hbw.alloc hz _).grown hgrow5 (by go_size) (fun q hq => (hok.lt q hq).1)
          have hy5 := (HOY.out.alloc (.cells #[.int .i64 13] 3)).kept hgrow5 HN1.out
          have hv5 := (HOV.out.alloc (.cells #[.int .i64 13] 3)).kept hgrow5 HN2.out
          have HY5 := Lib.hid hy5
          have HV5 := Lib.hid hv5
          have HK5 := Lib.hid hok5
          have B5 := Lib.hid hb5
          have hz5 := hb5.size
          clear hok hgrow5 hb5 hy5 hv5 hok5
          go_wp2_with fail
          with_reducible refine (HKk.out _).mono ?_; rintro e w6 ⟨rfl, hb6⟩
          have hz6 := hb6.size
          have hb6w := B5.out.trans (hb6.mono hz5)
          have hy6 := own_low22 HY5.out hb6
          have hv6 := own_low22 HV5.out hb6
          have hk6 := own_low22 HK5.out hb6
          have HV6 := Lib.hid hv6
          have HK6 := Lib.hid hk6
          have B6 := Lib.hid hb6w
          have hz6w := hb6w.size
          have HN6 := Lib.hid (own_ne hk6 hy6 (by decide))
          clear hb6 hb6w hv6 hk6
          go_wp2_with (at_builtin; refine wpList_append_own_at _ rfl _ _ 27 rfl w.heap.size 9 q0 _ 1 16 Try.underlying27 qi qz0 qz1 qz2 rfl (by decide) _ _ _ rfl (hy6.alloc _) ⟨w6.heap.size, 0, none⟩ 1 1 [.string ky] rfl rfl ?b1y ?b2y ?b3y ?b4y ?b5y ?_)
          case b1y => exact cell_one_new _ _ _
          case b2y => simp [Value.oneCell']
          case b3y => simp only [maxLen]; omega
          case b4y => omega
          case b5y => first | omega | (simp; omega)
          intro v7 w7 hy7 hgrow7 _ hat7
          have hb7 : Below w.heap.size w w7 := (B6.out.alloc hz6w _).grown hgrow7 (by go_size) (fun q hq => (hy6.lt q hq).1)
          have hk7 := (HK6.out.alloc (.cells #[.string ky] 9)).kept hgrow7 HN6.out
          have hv7 := (HV6.out.alloc (.cells #[.string ky] 9)).kept hgrow7 HAP.out.ne
          have hap7 := HAP.out.app (HV6.out.alloc (.cells #[.string ky] 9)) hat7 (by first | exact Nat.le_refl _ | go_size)
          have HAP7 := Lib.hid hap7
          have HY7 := Lib.hid hy7
          have HK7 := Lib.hid hk7
          have B7 := Lib.hid hb7
          have hz7 := hb7.size
          have HN7 := Lib.hid (own_ne hk7 hv7 (by decide))
          clear hy6 hgrow7 hat7 hap7 hy7 hk7 hb7
          go_wp2_with (at_builtin; refine wpList_append_own_at _ rfl _ _ 27 rfl w.heap.size 9 q0 _ 1 16 Try.underlying27 qi qz0 qz1 qz2 rfl (by decide) _ _ _ rfl (hv7.alloc _) ⟨w7.heap.size, 0, none⟩ 1 1 [.string x] rfl rfl ?b1v ?b2v ?b3v ?b4v ?b5v ?_)
          case b1v => exact cell_one_new _ _ _
          case b2v => simp [Value.oneCell']
          case b3v => simp only [maxLen]; omega
          case b4v => omega
          case b5v => first | omega | (simp; omega)
          intro v8 w8 hv8 hgrow8 _ hat8
          have hb8 : Below w.heap.size w w8 := (B7.out.alloc hz7 _).grown hgrow8 (by go_size) (fun q hq => (hv7.lt q hq).1)
          have hk8 := (HK7.out.alloc (.cells #[.string x] 9)).kept hgrow8 HN7.out
          have hy8 := (HY7.out.alloc (.cells #[.string x] 9)).kept hgrow8 HAP7.out.symm.ne
          have hap8 := (HAP7.out.symm.app (HY7.out.alloc (.cells #[.string x] 9)) hat8 (by first | exact Nat.le_refl _ | go_size)).symm
          clear hv7 hgrow8 hat8
          go_wp2_with fail
          refine ⟨⟨k + 1, by omega, by go_num, hb8, hap8, R ++ [(13, ky, x)], HS.out, ?_, ?_, ?_⟩, ?_⟩
          · simpa using hk8
          · simpa using hy8
          · simpa using hv8
          · simp [intOf]; omega
        · have hTf := HF.out
          obtain ⟨bf, rfl, hbf, hcelf⟩ := hTf.2.resolve_left (by omega)
          have hcf := (hbw.cell (p := ⟨bf, k, none⟩) hbf).trans (hcelf k (by omega))
          have hbfr : bf < wr.heap.size := by omega
          have h2i : decide ((fr.length : Int) ≤ (k : Int)) = false := by simp; omega
          have hgf : fr.getD k ByteArray.empty = fr[k] := by simp [List.getD, List.getElem?_eq_getElem (by omega : k < fr.length)]
          have hk2 : (k : Int) < (fr.length : Int) := by omega
          have h3i : decide ((k : Int) < (fr.length : Int)) = true := by simpa using hk2
          have hbeq := beq_eq fr[k] to[k]
          clear hTf hcelf
          by_cases he : fr[k] = to[k]
          · have hst : stepAt num fr to k = [] := by
              unfold stepAt; rw [if_neg h1, if_neg h2, hgd, hgf, if_pos he]
            have hq : (fr[k].toList != to[k].toList) = false := by rw [he]; simp
            have hq2 : (fr[k].toList == to[k].toList) = true := by rw [he]; simp
            rw [hst, List.append_nil] at hsucc
            have HS := Lib.hid hsucc
            clear hsucc hst hgd hgf he hbeq
            generalize fr[k] = y at *
            generalize to[k] = x at *
            go_wp2_with fail
            go_region_held3 (fun W => W.cell? ⟨bt, k, none⟩ = some (.string x) ∧ W.cell? ⟨bf, k, none⟩ = some (.string y))
              (exact ⟨hct, hcf⟩)
              (fail)
            all_goals
              go_wp2_with fail
              refine ⟨⟨k + 1, by omega, by go_num, hbw.drew, HAP.out, R, HS.out, hok.drew, HOY.out.drew, HOV.out.drew⟩, ?_⟩
              simp [intOf]; omega
          · have hst : stepAt num fr to k = [(15, key4 num k, to[k])] := by
              unfold stepAt; rw [if_neg h1, if_neg h2, hgd, hgf, if_neg he]
            have hq : (fr[k].toList != to[k].toList) = true := by simp only [bne, hbeq]; simp [he]
            have hq2 : (fr[k].toList == to[k].toList) = false := by rw [hbeq]; simp [he]
            rw [hst] at hsucc
            have HS := Lib.hid hsucc
            clear hsucc hst hgd hgf he hbeq
            generalize fr[k] = y at *
            generalize to[k] = x at *
            go_wp2_with fail
            go_region_held3 (fun W => W.cell? ⟨bt, k, none⟩ = some (.string x) ∧ W.cell? ⟨bf, k, none⟩ = some (.string y))
              (exact ⟨hct, hcf⟩)
              (fail)
            all_goals
              generalize key4 num (k : Int) = ky at *
              go_wp2_with (at_builtin; refine wpList_append_own _ rfl _ _ 28 rfl w.heap.size 3 j0 _ 1 8 Try.underlying28 ji jz0 jz1 jz2 rfl (by decide) _ _ _ rfl (hok.drew.alloc _) ⟨wr.heap.size, 0, none⟩ 1 1 [.int .i64 15] rfl rfl ?c1k ?c2k ?c3k ?c4k ?c5k ?_)
              case c1k => exact cell_one_new _ _ _
              case c2k => simp [Value.oneCell']
              case c3k => simp only [maxLen]; omega
              case c4k => omega
              case c5k => first | omega | (simp; omega)
              intro v5 w5 hok5 hgrow5 _
              have hb5 : Below w.heap.size w w5 := (hbw.drew.alloc hz _).grown hgrow5 (by go_size) (fun q hq => (hok.drew.lt q hq).1)
              have hy5 := (HOY.out.drew.alloc (.cells #[.int .i64 15] 3)).kept hgrow5 HN1.out
              have hv5 := (HOV.out.drew.alloc (.cells #[.int .i64 15] 3)).kept hgrow5 HN2.out
              have HY5 := Lib.hid hy5
              have HV5 := Lib.hid hv5
              have HK5 := Lib.hid hok5
              have B5 := Lib.hid hb5
              have hz5 := hb5.size
              clear hok hgrow5 hb5 hy5 hv5 hok5
              go_wp2_with fail
              with_reducible refine (HKk.out _).mono ?_; rintro e w6 ⟨rfl, hb6⟩
              have hz6 := hb6.size
              have hb6w := B5.out.trans (hb6.mono hz5)
              have hy6 := own_low22 HY5.out hb6
              have hv6 := own_low22 HV5.out hb6
              have hk6 := own_low22 HK5.out hb6
              have HV6 := Lib.hid hv6
              have HK6 := Lib.hid hk6
              have B6 := Lib.hid hb6w
              have hz6w := hb6w.size
              have HN6 := Lib.hid (own_ne hk6 hy6 (by decide))
              clear hb6 hb6w hv6 hk6
              go_wp2_with (at_builtin; refine wpList_append_own_at _ rfl _ _ 27 rfl w.heap.size 9 q0 _ 1 16 Try.underlying27 qi qz0 qz1 qz2 rfl (by decide) _ _ _ rfl (hy6.alloc _) ⟨w6.heap.size, 0, none⟩ 1 1 [.string ky] rfl rfl ?c1y ?c2y ?c3y ?c4y ?c5y ?_)
              case c1y => exact cell_one_new _ _ _
              case c2y => simp [Value.oneCell']
              case c3y => simp only [maxLen]; omega
              case c4y => omega
              case c5y => first | omega | (simp; omega)
              intro v7 w7 hy7 hgrow7 _ hat7
              have hb7 : Below w.heap.size w w7 := (B6.out.alloc hz6w _).grown hgrow7 (by go_size) (fun q hq => (hy6.lt q hq).1)
              have hk7 := (HK6.out.alloc (.cells #[.string ky] 9)).kept hgrow7 HN6.out
              have hv7 := (HV6.out.alloc (.cells #[.string ky] 9)).kept hgrow7 HAP.out.ne
              have hap7 := HAP.out.app (HV6.out.alloc (.cells #[.string ky] 9)) hat7 (by first | exact Nat.le_refl _ | go_size)
              have HAP7 := Lib.hid hap7
              have HY7 := Lib.hid hy7
              have HK7 := Lib.hid hk7
              have B7 := Lib.hid hb7
              have hz7 := hb7.size
              have HN7 := Lib.hid (own_ne hk7 hv7 (by decide))
              clear hy6 hgrow7 hat7 hap7 hy7 hk7 hb7
              go_wp2_with (at_builtin; refine wpList_append_own_at _ rfl _ _ 27 rfl w.heap.size 9 q0 _ 1 16 Try.underlying27 qi qz0 qz1 qz2 rfl (by decide) _ _ _ rfl (hv7.alloc _) ⟨w7.heap.size, 0, none⟩ 1 1 [.string x] rfl rfl ?c1v ?c2v ?c3v ?c4v ?c5v ?_)
              case c1v => exact cell_one_new _ _ _
              case c2v => simp [Value.oneCell']
              case c3v => simp only [maxLen]; omega
              case c4v => omega
              case c5v => first | omega | (simp; omega)
              intro v8 w8 hv8 hgrow8 _ hat8
              have hb8 : Below w.heap.size w w8 := (B7.out.alloc hz7 _).grown hgrow8 (by go_size) (fun q hq => (hv7.lt q hq).1)
              have hk8 := (HK7.out.alloc (.cells #[.string x] 9)).kept hgrow8 HN7.out
              have hy8 := (HY7.out.alloc (.cells #[.string x] 9)).kept hgrow8 HAP7.out.symm.ne
              have hap8 := (HAP7.out.symm.app (HY7.out.alloc (.cells #[.string x] 9)) hat8 (by first | exact Nat.le_refl _ | go_size)).symm
              clear hv7 hgrow8 hat8
              go_wp2_with fail
              refine ⟨⟨k + 1, by omega, by go_num, hb8, hap8, R ++ [(15, ky, x)], HS.out, ?_, ?_, ?_⟩, ?_⟩
              · simpa using hk8
              · simpa using hy8
              · simpa using hv8
              · simp [intOf]; omega
    · have hke : k = M := by omega
      subst hke
      have h3i : ¬ k < fr.length := by have := HM.out; omega
      have h4i : ¬ k < to.length := by have := HM.out; omega
      have h5i : decide ((k : Int) < (fr.length : Int)) = false := by simp; omega
      have h6i : decide ((k : Int) < (to.length : Int)) = false := by simp; omega
      clear hap
      subst hR
      clear hM2
      go_wp2_with fail
      refine bodyPost_ret (results_tmp3 rfl _ _ _) rfl ?_
      exact ⟨_, _, _, rfl, hbw, by simpa using hok, by simpa using hoy, by simpa using hov⟩
end Go.Proofs.Ytljommhbhpappaa
