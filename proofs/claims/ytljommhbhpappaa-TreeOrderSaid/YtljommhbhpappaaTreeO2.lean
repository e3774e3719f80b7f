/-
  Layer 16 (tree): the walk of TreeOrder.
-/
import Derived.Test.YtljommhbhpappaaTreeO
namespace Go.Proofs.Ytljommhbhpappaa
open Go.RowKit Go.Joins
set_option linter.unusedVariables false
set_option linter.unusedSimpArgs false

theorem wrap64_id {x : Int} (h1 : -9223372036854775808 ≤ x) (h2 : x ≤ 9223372036854775807) : wrap64 x = x := by unfold wrap64; omega
theorem tmod_emod (x n : Int) : (x.tmod n) % n = x % n := by rw [Int.tmod_def, Int.sub_mul_emod_self_left]
theorem at_num (turn : Int) (n i : Nat) (hn : 0 < n) (h60 : n ≤ 60) (hi : i < n) : (wrap64 ((wrap64 ((i : Int) + turn.tmod n)).tmod n + n)).tmod n = ((i : Int) + turn) % n := by
  have hn' : (0 : Int) < n := by omega
  have a1 := Int.tmod_lt_of_pos turn hn'
  have a2 := Int.lt_tmod_of_pos turn hn'
  have ha := tmod_emod turn n
  generalize turn.tmod n = t at *
  rw [wrap64_id (x := (i : Int) + t) (by omega) (by omega)]
  have b1 := Int.tmod_lt_of_pos ((i : Int) + t) hn'
  have b2 := Int.lt_tmod_of_pos ((i : Int) + t) hn'
  have hb := tmod_emod ((i : Int) + t) n
  generalize ((i : Int) + t).tmod n = u at *
  rw [wrap64_id (x := u + n) (by omega) (by omega), Int.tmod_eq_emod_of_nonneg (a := u + n) (by omega), Int.add_emod_right, hb, Int.add_emod, ha, ← Int.add_emod]
theorem rfold_len (most : Nat) (key : ByteArray) : ∀ (L acc : List NC), acc.length ≤ most → (rfold most key acc L).length ≤ most
  | [], acc, h => h
  | c :: r, acc, h => by
    show (rfold most key (rstep most key acc c) r).length ≤ most
    refine rfold_len most key r _ ?_
    unfold rstep
    split
    · rename_i hh; rw [List.length_append]; simp; omega
    · exact h
theorem rangeL_len (key : ByteArray) (most : Nat) (F : List NC) : (rangeL key most F).length ≤ most := rfold_len most key F [] (Nat.zero_le _)

/-- what Range tells of the keys, as a value -/
def FinAt (I : List ByteArray) (sb : Nat) (w : World) (s : Value) : Prop := ∃ a cp F, s = .slice a (rangeL ByteArray.empty 64 F).length cp ∧ PairsAt w a (rangeL ByteArray.empty 64 F) ∧ (∀ n, a = some ⟨n, 0, none⟩ → sb < n) ∧ Rising F ∧ Laid (fun q => ∃ j, j < I.length ∧ I.getD j ByteArray.empty = q) F
theorem FinAt.below {I : List ByteArray} {sb : Nat} {w w' : World} {s : Value} (h : FinAt I sb w s) (hb : Below w.heap.size w w') : FinAt I sb w' s := by
  obtain ⟨a, cp, F, h1, h2, h3, h4, h5⟩ := h
  exact ⟨a, cp, F, h1, h2.below hb, h3, h4, h5⟩
theorem FinAt.poke {I : List ByteArray} {sb : Nat} {w : World} {s : Value} (h : FinAt I sb w s) (i : Nat) (v : Value) : FinAt I sb (w.setCell ⟨sb, i, none⟩ v) s := by
  obtain ⟨a, cp, F, h1, h2, h3, h4, h5⟩ := h
  refine ⟨a, cp, F, h1, ?_, h3, h4, h5⟩
  rcases h2 with h0 | ⟨n, rfl, q1, q2⟩
  · exact .inl h0
  · have := h3 n rfl
    refine .inr ⟨n, rfl, by simpa [World.setCell] using q1, fun k hk j u hu => ?_⟩
    rw [World.cell?_setCell_other _ _ _ _ (by intro e; have := congrArg Addr.block e; simp at this; omega)]
    exact q2 k hk j u hu

set_option maxHeartbeats 4000000 in
set_option maxRecDepth 100000 in
theorem order_walk (a : Option Addr) (len cap : Nat) (I : List ByteArray) (turn : Int) (w : World) (hI : StrsIn w a len I) :
    Calls Try.prog 10 #[.slice a len cap, .int .i64 turn] w fun e w' => e = .returned (.bool true) ∧ Below w.heap.size w w' := by
  have HA := Lib.hid (fun w' => awake16 w')
  have HV := Lib.hid (fun w' => volume16 100 (by omega) (by omega) w')
  have HIn := Lib.hid hI
  have hlen := hI.1
  clear hI
  by_cases hl : len ≤ 60
  · have hl1 : decide ((60 : Int) < (len : Int)) = false := by simp; omega
    go_enter Try.func10, Try.ntmps10
    go_wp2_with fail
    refine (HA.out _).mono ?_; rintro e w1 ⟨rfl, hb1⟩
    have B1 := Lib.hid hb1
    have hz1 := hb1.size
    clear hb1
    go_wp2_with fail
    go_loopw [21] (fun v wr => ∃ (kk : Nat) (s0 s1 : Value), kk ≤ 2 ∧ v = .int .i64 kk ∧ Below w.heap.size w wr ∧ w1.heap.size < wr.heap.size ∧ wr.heap[w1.heap.size]? = some (.cells #[s0, s1] 99) ∧ (1 ≤ kk → FinAt I w1.heap.size wr s0) ∧ (2 ≤ kk → FinAt I w1.heap.size wr s1)) (fun v _ => 2 - (intOf v).toNat)
    case atStart => exact ⟨0, .slice none 0 0, .slice none 0 0, by omega, rfl, B1.out.alloc (by omega) _, by go_size, heap_alloc_new w1 _, fun h => by omega, fun h => by omega⟩
    case round =>
      obtain ⟨kk, s0, s1, hk2, rfl, hBo, hzo, hsee, hf0, hf1⟩ := hrel
      obtain ⟨wo, rfl⟩ : ∃ wo : World, wo = wr := ⟨_, rfl⟩
      by_cases hk : kk < 2
      · by_cases hk1 : 1 ≤ kk
        · have hkb : ((kk : Int) == 1) = true := by simp; omega
          have hkd : decide ((kk : Int) = 1) = true := by simp; omega
          have HKK := Lib.hid (show kk = 1 by omega)
          have HRg := Lib.hid (fun S F (hh : Has S 100 2 F) b mb hb pb w' hs => op_range hh ByteArray.empty 64 (by simp) (by omega) b mb hb pb wo w' hs)
          go_wp2_with fail
          refine (HV.out _).mono ?_; rintro e w2 ⟨b, mb, hb, pb, rfl, h2⟩
          have O2 := Lib.hid h2
          clear h2
          go_wp2_with fail
          go_loopw [33] (fun v wi => ∃ (i : Nat) (S : Vol) (F : List NC), i ≤ len ∧ v = .int .i64 i ∧ One wo wi b mb hb pb S ∧ AtN S 100 2 F (3 + i) ∧ Laid (fun q => ∃ j, j < i ∧ I.getD (atI turn len j) ByteArray.empty = q) F) (fun v _ => len - (intOf v).toNat)
          case atStart => exact ⟨0, _, [], by omega, rfl, O2.out, I0_atN 100 (by omega) (by omega), fun x => ⟨fun h => (by cases h), fun h => by obtain ⟨j, hj, -⟩ := h.2.2.2; omega⟩⟩
          case round =>
            obtain ⟨i, S, F, hi, rfl, hO, hA, hLd⟩ := hrel
            obtain ⟨wi, rfl⟩ : ∃ wi : World, wi = wr := ⟨_, rfl⟩
            by_cases hlt : i < len
            · have hVr := HIn.out.below (hBo.trans (hO.low.mono hBo.size))
              have hIl := HIn.out.2.1
              obtain ⟨bv, off, hvp, hbv, hrow⟩ := hVr.2.2.resolve_left (by omega)
              subst hvp
              have hat := atI_lt (turn := turn) (n := len) (i := i) (by omega)
              have hcl := hrow (atI turn len i) (by omega)
              rw [show I[atI turn len i]'(by omega) = I.getD (atI turn len i) ByteArray.empty from by simp [List.getD, List.getElem?_eq_getElem (show atI turn len i < I.length by omega)]] at hcl
              have hPu := op_order hA (by omega) hLd (I.getD (atI turn len i) ByteArray.empty) b mb hb pb wo wi hO
              generalize hkx : I.getD (atI turn len i) ByteArray.empty = kx at *
              have HKx := Lib.hid hkx
              have hnum := at_num turn len i (by omega) (by omega) hlt
              have hE1 := Int.emod_nonneg ((i : Int) + turn) (by omega : (len : Int) ≠ 0)
              have hE2 := Int.emod_lt_of_pos ((i : Int) + turn) (by omega : (0 : Int) < len)
              have hdef : (turn.tmod 2 = 0 → (((i : Int) + turn) % len) = (atI turn len i : Nat)) ∧ (turn.tmod 2 ≠ 0 → wrap64 ((len : Int) - 1 - ((i : Int) + turn) % len) = (atI turn len i : Nat)) := by
                unfold atI
                constructor
                · intro c; rw [if_pos c]; omega
                · intro c; rw [if_neg c, wrap64_id (by omega) (by omega)]; omega
              have hat' : ((atI turn len i : Nat) : Int) < (len : Int) := by omega
              generalize ((i : Int) + turn) % len = E at *
              obtain ⟨ai, hai⟩ : ∃ ai, atI turn len i = ai := ⟨_, rfl⟩
              rw [hai] at hcl hat' hdef
              have hln0 : ¬ (len : Int) = 0 := by omega
              have HPu := Lib.hid hPu
              clear hVr hrow hbv hO hA hLd hPu hkx hat hai
              by_cases c2 : turn.tmod 2 = 0
              · have hEa := hdef.1 c2
                rw [hEa] at hnum
                have hc1 : (turn.tmod 2 == 0) = true := by simp [c2]
                have hc2 : (turn.tmod 2 != 0) = false := by simp [c2]
                clear hdef hEa hE1 hE2
                go_wp2_with fail
                refine HPu.out.mono ?_; rintro e w5 ⟨u, er, S', F', rfl, q1, q2, q3, q4, q5⟩
                have O5 := Lib.hid (q1.alloc (.cells u.cs 86))
                have HL5 := Lib.hid (land16 q2 er b mb hb pb wo _ O5.out)
                have A5 := Lib.hid q3
                have D5 := Lib.hid q4
                clear q1 q2 q3 q4
                go_wp2_with fail
                refine HL5.out.mono ?_; rintro e w6 ⟨rfl, o6, -, -⟩
                have O6 := Lib.hid o6
                clear o6
                have D6h : Hid (Laid (fun q => ∃ j, j < i + 1 ∧ I.getD (atI turn len j) ByteArray.empty = q) F') := Lib.hid (fun x => (D5.out x).trans ⟨fun ⟨h1, h2, h3, h4⟩ => ⟨h1, h2, h3, by
                    rcases h4 with ⟨j, hj, h4⟩ | h4
                    · exact ⟨j, by omega, h4⟩
                    · exact ⟨i, by omega, by rw [HKx.out]; exact h4.symm⟩⟩, fun ⟨h1, h2, h3, j, hj, h4⟩ => ⟨h1, h2, h3, by
                    by_cases c : j < i
                    · exact .inl ⟨j, c, h4⟩
                    · have : j = i := by omega
                      subst this
                      exact .inr (by rw [← h4]; exact HKx.out)⟩⟩)
                rcases q5 with rfl | rfl | rfl
                all_goals
                  go_wp2_with fail
                  first
                    | exact ⟨⟨i + 1, _, F', by omega, by go_num, O6.out, A5.out, D6h.out⟩, by simp [intOf]; omega⟩
                    | (go_roundw; case rel => exact ⟨i + 1, _, F', by omega, by go_num, O6.out, A5.out, D6h.out⟩; case measure => simp [intOf]; omega)
              · have hEa := hdef.2 c2
                have hc1 : (turn.tmod 2 == 0) = false := by simp [c2]
                have hc2 : (turn.tmod 2 != 0) = true := by simp [c2]
                clear hdef hE1 hE2
                go_wp2_with fail
                refine HPu.out.mono ?_; rintro e w5 ⟨u, er, S', F', rfl, q1, q2, q3, q4, q5⟩
                have O5 := Lib.hid (q1.alloc (.cells u.cs 86))
                have HL5 := Lib.hid (land16 q2 er b mb hb pb wo _ O5.out)
                have A5 := Lib.hid q3
                have D5 := Lib.hid q4
                clear q1 q2 q3 q4
                go_wp2_with fail
                refine HL5.out.mono ?_; rintro e w6 ⟨rfl, o6, -, -⟩
                have O6 := Lib.hid o6
                clear o6
                have D6h : Hid (Laid (fun q => ∃ j, j < i + 1 ∧ I.getD (atI turn len j) ByteArray.empty = q) F') := Lib.hid (fun x => (D5.out x).trans ⟨fun ⟨h1, h2, h3, h4⟩ => ⟨h1, h2, h3, by
                    rcases h4 with ⟨j, hj, h4⟩ | h4
                    · exact ⟨j, by omega, h4⟩
                    · exact ⟨i, by omega, by rw [HKx.out]; exact h4.symm⟩⟩, fun ⟨h1, h2, h3, j, hj, h4⟩ => ⟨h1, h2, h3, by
                    by_cases c : j < i
                    · exact .inl ⟨j, c, h4⟩
                    · have : j = i := by omega
                      subst this
                      exact .inr (by rw [← h4]; exact HKx.out)⟩⟩)
                rcases q5 with rfl | rfl | rfl
                all_goals
                  go_wp2_with fail
                  first
                    | exact ⟨⟨i + 1, _, F', by omega, by go_num, O6.out, A5.out, D6h.out⟩, by simp [intOf]; omega⟩
                    | (go_roundw; case rel => exact ⟨i + 1, _, F', by omega, by go_num, O6.out, A5.out, D6h.out⟩; case measure => simp [intOf]; omega)
            · have hke : i = len := by omega
              have hIl := HIn.out.2.1
              have HFi : Hid (Rising F ∧ Laid (fun q => ∃ j, j < I.length ∧ I.getD j ByteArray.empty = q) F) := Lib.hid ⟨(Has.of_at hA.at_).rising, fun x => (hLd x).trans ⟨fun ⟨h1, h2, h3, j, hj, h4⟩ => ⟨h1, h2, h3, atI turn len j, by have := atI_lt (turn := turn) (n := len) (i := j) (by omega); omega, h4⟩, fun ⟨h1, h2, h3, j, hj, h4⟩ => ⟨h1, h2, h3, by obtain ⟨i2, q1, q2⟩ := atI_onto (turn := turn) (n := len) (j := j) (by omega); exact ⟨i2, by omega, by rw [q2]; exact h4⟩⟩⟩⟩
              have HR := Lib.hid (HRg.out S F (Has.of_at hA.at_) b mb hb pb wi hO)
              have hlow := hO.low
              have hzi := hlow.size
              clear hA hLd hO hke
              go_wp2_with fail
              refine HR.out.mono ?_; rintro e w7 ⟨v7, rfl, o7, hb7, hown7⟩
              obtain ⟨a7, p7, rfl, P7⟩ := pairsAt_own hown7
              have hz7 := o7.low.size
              have hsee7 : w7.heap[w1.heap.size]? = some (.cells #[s0, s1] 99) := (o7.low.block w1.heap.size hzo).trans hsee
              have cc : w7.cell? ⟨w1.heap.size, kk, none⟩ = some s1 := by rw [HKK.out]; exact cell_row (rowAt_of hsee7) 1
              have ff : w7.frozen? ⟨w1.heap.size, kk, none⟩ = false := by simp [World.frozen?, hsee7]
              have hsee8 : (w7.setCell ⟨w1.heap.size, kk, none⟩ (.slice a7 (rangeL ByteArray.empty 64 F).length p7)).heap[w1.heap.size]? = some (.cells #[s0, .slice a7 (rangeL ByteArray.empty 64 F).length p7] 99) := by rw [HKK.out]; exact setCell_block hsee7 1 _
              have hfa : FinAt I w1.heap.size w7 (.slice a7 (rangeL ByteArray.empty 64 F).length p7) := ⟨a7, p7, F, rfl, P7, fun n hn => by
                  subst hn
                  have := (hown7.lt n rfl).1
                  omega, HFi.out.1, HFi.out.2⟩
              have HX := Lib.hid (hfa.poke kk (.slice a7 (rangeL ByteArray.empty 64 F).length p7))
              have HB7 : Hid (Below w.heap.size w (w7.setCell ⟨w1.heap.size, kk, none⟩ (.slice a7 (rangeL ByteArray.empty 64 F).length p7))) := Lib.hid (below_setCell (hBo.trans (o7.low.mono hBo.size)) _ _ (by show w.heap.size ≤ w1.heap.size; omega))
              have H0 := Lib.hid (fun h => ((hf0 h).below o7.low).poke kk (.slice a7 (rangeL ByteArray.empty 64 F).length p7))
              have H8 := Lib.hid hsee8
              have hz8 : w1.heap.size < (w7.setCell ⟨w1.heap.size, kk, none⟩ (.slice a7 (rangeL ByteArray.empty 64 F).length p7)).heap.size := by
                have : (w7.setCell ⟨w1.heap.size, kk, none⟩ (.slice a7 (rangeL ByteArray.empty 64 F).length p7)).heap.size = w7.heap.size := by simp [World.setCell]
                omega
              clear hb7 hown7 P7 hfa hf0 hf1 hsee hsee7 hsee8 o7 hBo
              generalize (rangeL ByteArray.empty 64 F).length = nl at *
              go_wp2_with fail
              first
                | exact ⟨⟨kk + 1, s0, _, by omega, by go_num, HB7.out, hz8, H8.out, fun _ => H0.out hk1, fun _ => HX.out⟩, by simp [intOf]; omega⟩
                | (go_roundw; case rel => exact ⟨kk + 1, s0, _, by omega, by go_num, HB7.out, hz8, H8.out, fun _ => H0.out hk1, fun _ => HX.out⟩; case measure => simp [intOf]; omega)
        · have hkb : ((kk : Int) == 1) = false := by simp; omega
          have hkd : decide ((kk : Int) = 1) = false := by simp; omega
          have HKK := Lib.hid (show kk = 0 by omega)
          have HRg := Lib.hid (fun S F (hh : Has S 100 2 F) b mb hb pb w' hs => op_range hh ByteArray.empty 64 (by simp) (by omega) b mb hb pb wo w' hs)
          go_wp2_with fail
          refine (HV.out _).mono ?_; rintro e w2 ⟨b, mb, hb, pb, rfl, h2⟩
          have O2 := Lib.hid h2
          clear h2
          go_wp2_with fail
          go_loopw [33] (fun v wi => ∃ (i : Nat) (S : Vol) (F : List NC), i ≤ len ∧ v = .int .i64 i ∧ One wo wi b mb hb pb S ∧ AtN S 100 2 F (3 + i) ∧ Laid (fun q => ∃ j, j < i ∧ I.getD j ByteArray.empty = q) F) (fun v _ => len - (intOf v).toNat)
          case atStart => exact ⟨0, _, [], by omega, rfl, O2.out, I0_atN 100 (by omega) (by omega), fun x => ⟨fun h => (by cases h), fun h => by obtain ⟨j, hj, -⟩ := h.2.2.2; omega⟩⟩
          case round =>
            obtain ⟨i, S, F, hi, rfl, hO, hA, hLd⟩ := hrel
            obtain ⟨wi, rfl⟩ : ∃ wi : World, wi = wr := ⟨_, rfl⟩
            by_cases hlt : i < len
            · have hVr := HIn.out.below (hBo.trans (hO.low.mono hBo.size))
              have hIl := HIn.out.2.1
              obtain ⟨bv, off, hvp, hbv, hrow⟩ := hVr.2.2.resolve_left (by omega)
              subst hvp
              have hcl := hrow i (by omega)
              rw [show I[i]'(by omega) = I.getD i ByteArray.empty from by simp [List.getD, List.getElem?_eq_getElem (show i < I.length by omega)]] at hcl
              have hPu := op_order hA (by omega) hLd (I.getD i ByteArray.empty) b mb hb pb wo wi hO
              generalize hkx : I.getD i ByteArray.empty = kx at *
              have HKx := Lib.hid hkx
              have HPu := Lib.hid hPu
              clear hVr hrow hbv hO hA hLd hPu hkx
              go_wp2_with fail
              refine HPu.out.mono ?_; rintro e w5 ⟨u, er, S', F', rfl, q1, q2, q3, q4, q5⟩
              have O5 := Lib.hid (q1.alloc (.cells u.cs 86))
              have HL5 := Lib.hid (land16 q2 er b mb hb pb wo _ O5.out)
              have A5 := Lib.hid q3
              have D5 := Lib.hid q4
              clear q1 q2 q3 q4
              go_wp2_with fail
              refine HL5.out.mono ?_; rintro e w6 ⟨rfl, o6, -, -⟩
              have O6 := Lib.hid o6
              clear o6
              have D6h : Hid (Laid (fun q => ∃ j, j < i + 1 ∧ I.getD j ByteArray.empty = q) F') := Lib.hid (fun x => (D5.out x).trans ⟨fun ⟨h1, h2, h3, h4⟩ => ⟨h1, h2, h3, by
                  rcases h4 with ⟨j, hj, h4⟩ | h4
                  · exact ⟨j, by omega, h4⟩
                  · exact ⟨i, by omega, by rw [HKx.out]; exact h4.symm⟩⟩, fun ⟨h1, h2, h3, j, hj, h4⟩ => ⟨h1, h2, h3, by
                  by_cases c : j < i
                  · exact .inl ⟨j, c, h4⟩
                  · have : j = i := by omega
                    subst this
                    exact .inr (by rw [← h4]; exact HKx.out)⟩⟩)
              rcases q5 with rfl | rfl | rfl
              all_goals
                go_wp2_with fail
                first
                  | exact ⟨⟨i + 1, _, F', by omega, by go_num, O6.out, A5.out, D6h.out⟩, by simp [intOf]; omega⟩
                  | (go_roundw; case rel => exact ⟨i + 1, _, F', by omega, by go_num, O6.out, A5.out, D6h.out⟩; case measure => simp [intOf]; omega)
            · have hke : i = len := by omega
              have hIl := HIn.out.2.1
              have HFi : Hid (Rising F ∧ Laid (fun q => ∃ j, j < I.length ∧ I.getD j ByteArray.empty = q) F) := Lib.hid ⟨(Has.of_at hA.at_).rising, by rw [hIl, ← hke]; exact hLd⟩
              have HR := Lib.hid (HRg.out S F (Has.of_at hA.at_) b mb hb pb wi hO)
              have hlow := hO.low
              have hzi := hlow.size
              clear hA hLd hO hke
              go_wp2_with fail
              refine HR.out.mono ?_; rintro e w7 ⟨v7, rfl, o7, hb7, hown7⟩
              obtain ⟨a7, p7, rfl, P7⟩ := pairsAt_own hown7
              have hz7 := o7.low.size
              have hsee7 : w7.heap[w1.heap.size]? = some (.cells #[s0, s1] 99) := (o7.low.block w1.heap.size hzo).trans hsee
              have cc : w7.cell? ⟨w1.heap.size, kk, none⟩ = some s0 := by rw [HKK.out]; exact cell_row (rowAt_of hsee7) 0
              have ff : w7.frozen? ⟨w1.heap.size, kk, none⟩ = false := by simp [World.frozen?, hsee7]
              have hsee8 : (w7.setCell ⟨w1.heap.size, kk, none⟩ (.slice a7 (rangeL ByteArray.empty 64 F).length p7)).heap[w1.heap.size]? = some (.cells #[.slice a7 (rangeL ByteArray.empty 64 F).length p7, s1] 99) := by rw [HKK.out]; exact setCell_block hsee7 0 _
              have hfa : FinAt I w1.heap.size w7 (.slice a7 (rangeL ByteArray.empty 64 F).length p7) := ⟨a7, p7, F, rfl, P7, fun n hn => by
                  subst hn
                  have := (hown7.lt n rfl).1
                  omega, HFi.out.1, HFi.out.2⟩
              have HX := Lib.hid (hfa.poke kk (.slice a7 (rangeL ByteArray.empty 64 F).length p7))
              have HB7 : Hid (Below w.heap.size w (w7.setCell ⟨w1.heap.size, kk, none⟩ (.slice a7 (rangeL ByteArray.empty 64 F).length p7))) := Lib.hid (below_setCell (hBo.trans (o7.low.mono hBo.size)) _ _ (by show w.heap.size ≤ w1.heap.size; omega))
              have H0 := Lib.hid (fun h => ((hf0 h).below o7.low).poke kk (.slice a7 (rangeL ByteArray.empty 64 F).length p7))
              have H8 := Lib.hid hsee8
              have hz8 : w1.heap.size < (w7.setCell ⟨w1.heap.size, kk, none⟩ (.slice a7 (rangeL ByteArray.empty 64 F).length p7)).heap.size := by
                have : (w7.setCell ⟨w1.heap.size, kk, none⟩ (.slice a7 (rangeL ByteArray.empty 64 F).length p7)).heap.size = w7.heap.size := by simp [World.setCell]
                omega
              clear hb7 hown7 P7 hfa hf0 hf1 hsee hsee7 hsee8 o7 hBo
              generalize (rangeL ByteArray.empty 64 F).length = nl at *
              go_wp2_with fail
              first
                | exact ⟨⟨kk + 1, _, s1, by omega, by go_num, HB7.out, hz8, H8.out, fun _ => HX.out, fun h => by omega⟩, by simp [intOf]; omega⟩
                | (go_roundw; case rel => exact ⟨kk + 1, _, s1, by omega, by go_num, HB7.out, hz8, H8.out, fun _ => HX.out, fun h => by omega⟩; case measure => simp [intOf]; omega)
      · obtain ⟨a1, p1, F1, rfl, P1, -, r1, l1⟩ := hf0 (by omega)
        obtain ⟨a2, p2, F2, rfl, P2, -, r2, l2⟩ := hf1 (by omega)
        obtain rfl := laid_ext l1 l2 r1 r2
        have cc0 := cell_row (rowAt_of hsee) 0
        have cc1 := cell_row (rowAt_of hsee) 1
        simp only [List.getElem?_toArray, List.getElem?_cons_succ, List.getElem?_cons_zero] at cc0 cc1
        have HS := Lib.hid (same16 a1 a2 p1 p2 (rangeL ByteArray.empty 64 F1) wo P1 P2 (by have := rangeL_len ByteArray.empty 64 F1; omega))
        have HB := Lib.hid hBo
        clear hf0 hf1 P1 P2 l1 l2 r1 r2 hsee hBo
        generalize (rangeL ByteArray.empty 64 F1).length = nl at *
        go_wp2_with fail
        refine HS.out.mono ?_; rintro e w7 ⟨rfl, hb7⟩
        have B7 := Lib.hid (HB.out.trans (hb7.mono HB.out.size))
        clear hb7
        go_wp2_with fail
        go_ret
        exact ⟨rfl, B7.out⟩
  · have hl1 : decide ((60 : Int) < (len : Int)) = true := by simp; omega
    go_enter Try.func10, Try.ntmps10
    go_wp2_with fail
    refine (HA.out _).mono ?_; rintro e w1 ⟨rfl, hb1⟩
    have B1 := Lib.hid hb1
    clear hb1
    go_wp2_with fail
    go_ret
    exact ⟨rfl, B1.out⟩
end Go.Proofs.Ytljommhbhpappaa
