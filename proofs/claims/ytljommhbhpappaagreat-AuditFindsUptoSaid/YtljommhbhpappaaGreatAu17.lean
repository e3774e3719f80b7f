/-
  Layer 22 (audit): leaves that are spoilt: two cells in the wrong order.
-/
import Derived.Test.YtljommhbhpappaaGreatAu16
namespace Go.Proofs.YtljommhbhpappaaGreat
open Go.RowKit Go.Joins
set_option linter.unusedVariables false
set_option linter.unusedSimpArgs false

set_option maxHeartbeats 4000000 in
set_option maxRecDepth 100000 in
theorem ncheck_fall (st nx : Int) (L : List NC) (h6 : L.length ≤ 6) (h2 : 2 ≤ L.length) (hok : ∀ c ∈ L, c.leaf) (hr : KLt L[1].key L[0].key) (w : World) :
    Calls Tryz.prog 76 #[(ndPg 0 st nx L).v] w fun e w' => e = .returned (.int .i64 40) ∧ Below w.heap.size w w' := by
  have HK := Lib.hid (fun i (hi : i < L.length) w' => key_ok L[i].st L[i].key L[i].rest (hok _ (List.getElem_mem hi)).ok.1 (hok _ (List.getElem_mem hi)).2.2.1 (by have := (hok _ (List.getElem_mem hi)).2.2.2; omega) w')
  have HA := Lib.hid (fun i (hi : i < 6) => nd_a 0 st nx L i hi)
  have HD := Lib.hid (fun i (hi : i < 6) => nd_d 0 st nx L i hi)
  have HL := Lib.hid hok
  have HR := Lib.hid hr
  have hk : (ndPg 0 st nx L).k = 4 := rfl
  have hl : (ndPg 0 st nx L).l = 0 := rfl
  clear hok hr
  generalize ndPg 0 st nx L = p at *
  go_enter Tryz.func76, Tryz.ntmps76
  go_wp2_with fail
  go_loopw [3, 4, 20] (fun last sm i wr => ∃ k : Nat, k ≤ 1 ∧ i = .int .i64 k ∧ Below (w.heap.size + 1) (w.alloc (.cells p.cs 38)) wr ∧ last = .string (lastK L k).1 ∧ sm = .bool (lastK L k).2) (fun _ _ i _ => 6 - (intOf i).toNat)
  case atStart => exact ⟨0, by omega, rfl, Below.refl _ _, by rw [lastK_zero]; exact ⟨rfl, rfl⟩⟩
  case round =>
    obtain ⟨k, hk6, rfl, hb, rfl, rfl⟩ := hrel
    have hsz := hb.size
    rw [World.size_alloc] at hsz
    have hlt : k < 6 := by omega
    have hkL : k < L.length := by omega
    by_cases htt : True
    · by_cases htt2 : True
      · have hidx := index6 p k hlt
        rw [HA.out k hlt, HD.out k hlt, stL_get hkL, dL_get hkL] at hidx
        have hd : L[k].d = tx L[k].key ++ L[k].rest := rfl
        rw [hd] at hidx
        have HKk := Lib.hid (HK.out k hkL)
        have HLS := Lib.hid (lastK_succ hkL)
        have hlf := HL.out _ (List.getElem_mem hkL)
        have hprev : ∀ j, (hj : j < L.length) → k = j + 1 → KLt L[k].key L[j].key := fun j hj e => by
          obtain rfl : j = 0 := by omega
          subst e
          exact HR.out
        generalize L[k] = c at *
        obtain ⟨ck, cs, cr⟩ := c
        obtain ⟨l1, l2, l3, l4⟩ := hlf
        simp only at hidx HKk HLS hprev l1 l2 l3 l4
        have hne := sem_f l2
        have hcs : (cs == 0) = false := by rcases l1 with e | e <;> subst e <;> rfl
        have hcr : decide ((20 : Int) < (cr.size : Int)) = false := by simp; omega
        generalize hdd : tx ck ++ cr = dd at *
        clear hd hdd
        rcases lastK_any L k (by omega) with ⟨hk0, hlk⟩ | ⟨j, hj, hkj, hlk⟩
        · rw [hlk]
          clear hprev
          have hidx0 := hidx
          rw [show ((k : Nat) : Int) = 0 from by omega] at hidx0
          go_wp2_with fail
          refine (HKk.out _).mono ?_; rintro e w3 ⟨rfl, hb3⟩
          have hz3 := hb3.size
          rw [World.size_alloc] at hz3
          have RR := ((rowAt_below hb3 (by go_size)).trans ((rowAt_past _ _ _ (by omega)).trans (rowAt_below hb (n := w.heap.size) (by omega)))).trans (rowAt_at w p.cs 38 _ rfl)
          have c1 : w3.cell? ⟨w.heap.size, 1, none⟩ = some (.int .i64 0) := (cell_row RR 1).trans (by rw [← hl]; rfl)
          have B3 : Hid (Below (w.heap.size + 1) (w.alloc (.cells p.cs 38)) w3) := Lib.hid ((hb.alloc hsz _).trans (hb3.mono (by go_size)))
          have RC := (rowAt_below hb3 (n := wr.heap.size) (by go_size)).trans (rowAt_at wr #[.int .i64 cs, .string dd] 35 _ rfl)
          have c0 := cell_row RC 0
          simp only [List.getElem?_toArray, List.getElem?_cons_succ, List.getElem?_cons_zero] at c0
          clear hb3 RR hb
          have HLS1 := HLS.out
          rw [hk0] at HLS1
          go_wp2_with fail
          all_goals
            refine ⟨⟨1, by omega, rfl, B3.out, ?_⟩, ?_⟩
            · rw [HLS1]; exact ⟨rfl, rfl⟩
            · rw [hk0]; simp [intOf]
        · rw [hlk]
          have hpr := hprev j hj hkj
          subst hkj
          have hidx0 := hidx
          rw [show ((j + 1 : Nat) : Int) = (j : Int) + 1 from by omega] at hidx0
          have RR0 := (rowAt_below hb (n := w.heap.size) (by omega)).trans (rowAt_at w p.cs 38 _ rfl)
          have RR1 := (rowAt_past wr (.cells #[.int .i64 cs, .string dd] 35) w.heap.size (by omega)).trans RR0
          have cP := (cell_row RR1 (4 + j * 2)).trans (cs_a p j (by omega))
          rw [HA.out j (by omega), stL_get hj] at cP
          have hsj : (L[j].st == 0) = false := by simpa using (HL.out _ (List.getElem_mem hj)).ok.1
          generalize L[j].st = sj at *
          generalize hjk : L[j].key = jk at *
          have hcm : decide (Lib.compareBytes ck.data.toList jk.data.toList ≤ 0) = true := by simp only [decide_eq_true_eq]; rw [cmp_le]; exact hpr.asymm
          have HCm := Lib.hid (fun w' => scompare ck jk w')
          generalize Lib.compareBytes ck.data.toList jk.data.toList = cmp at *
          clear hprev
          go_wp2_with fail
          refine (HKk.out _).mono ?_; rintro e w3 ⟨rfl, hb3⟩
          have hz3 := hb3.size
          rw [World.size_alloc] at hz3
          have RR := ((rowAt_below hb3 (by go_size)).trans RR1)
          have c1 : w3.cell? ⟨w.heap.size, 1, none⟩ = some (.int .i64 0) := (cell_row RR 1).trans (by rw [← hl]; rfl)
          have B3 : Hid (Below (w.heap.size + 1) (w.alloc (.cells p.cs 38)) w3) := Lib.hid ((hb.alloc hsz _).trans (hb3.mono (by go_size)))
          have RC := (rowAt_below hb3 (n := wr.heap.size) (by go_size)).trans (rowAt_at wr #[.int .i64 cs, .string dd] 35 _ rfl)
          have c0 := cell_row RC 0
          simp only [List.getElem?_toArray, List.getElem?_cons_succ, List.getElem?_cons_zero] at c0
          clear hb3 RR hb
          go_wp2_with fail
          refine (HCm.out _).mono ?_; rintro e w4 ⟨rfl, rfl⟩
          have BF := Lib.hid (((Below.refl w.heap.size w).alloc (Nat.le_refl _) (.cells p.cs 38)).trans (B3.out.mono (by omega)))
          go_wp2_with fail
          go_ret
          exact ⟨rfl, BF.out⟩
      · exact absurd trivial htt2
    · exact absurd trivial htt
/-- the first two cells, each in the other's place -/
def swapPg (p : Pg) : Pg := (p.setC 0 (p.a 1) (p.d 1)).setC 1 (p.a 0) (p.d 0)
theorem swap_two (st nx : Int) (c0 c1 : NC) (r : List NC) : swapPg (ndPg 0 st nx (c0 :: c1 :: r)) = ndPg 0 st nx (c1 :: c0 :: r) := rfl
set_option maxHeartbeats 4000000 in
set_option maxRecDepth 100000 in
theorem ncheck_hole (st nx : Int) (c : NC) (hc : c.leaf) (w : World) :
    Calls Tryz.prog 76 #[(swapPg (ndPg 0 st nx [c])).v] w fun e w' => e = .returned (.int .i64 40) ∧ Below w.heap.size w w' := by
  have hk : (swapPg (ndPg 0 st nx [c])).k = 4 := rfl
  have hl : (swapPg (ndPg 0 st nx [c])).l = 0 := rfl
  have HA0 := Lib.hid (show (swapPg (ndPg 0 st nx [c])).a 0 = 0 from rfl)
  have HD0 := Lib.hid (show (swapPg (ndPg 0 st nx [c])).d 0 = ByteArray.empty from rfl)
  have HA1 := Lib.hid (show (swapPg (ndPg 0 st nx [c])).a 1 = c.st from rfl)
  have hcs : (c.st == 0) = false := by rcases hc.1 with e | e <;> rw [e] <;> rfl
  generalize swapPg (ndPg 0 st nx [c]) = p at *
  go_enter Tryz.func76, Tryz.ntmps76
  go_wp2_with fail
  go_loopw [20] (fun i wr => ∃ k : Nat, k ≤ 1 ∧ i = .int .i64 k ∧ Below (w.heap.size + 1) (w.alloc (.cells p.cs 38)) wr) (fun i _ => 6 - (intOf i).toNat)
  case atStart => exact ⟨0, by omega, rfl, Below.refl _ _⟩
  case round =>
    obtain ⟨k, hk1, rfl, hb⟩ := hrel
    have hsz := hb.size
    rw [World.size_alloc] at hsz
    have HB := Lib.hid hb
    have hk01 : k = 0 ∨ k = 1 := by omega
    rcases hk01 with rfl | rfl
    · have hidx := index6 p 0 (by omega)
      rw [HA0.out, HD0.out, show ((0 : Nat) : Int) = 0 from rfl] at hidx
      clear hb
      go_wp2_with fail
      go_roundw
      case rel => exact ⟨1, by omega, by go_num, HB.out.alloc hsz _⟩
      case measure => simp [intOf]
    · have hidx := index6 p 1 (by omega)
      rw [HA1.out, show ((1 : Nat) : Int) = 1 from rfl] at hidx
      have RR0 := (rowAt_below hb (n := w.heap.size) (by omega)).trans (rowAt_at w p.cs 38 _ rfl)
      generalize p.d 1 = dd at *
      have cP := (cell_row ((rowAt_past wr (.cells #[.int .i64 c.st, .string dd] 35) w.heap.size (by omega)).trans RR0) (4 + 0 * 2)).trans (cs_a p 0 (by omega))
      rw [HA0.out] at cP
      have BF := Lib.hid (((Below.refl w.heap.size w).alloc (Nat.le_refl _) (.cells p.cs 38)).trans ((HB.out.alloc hsz (.cells #[.int .i64 c.st, .string dd] 35)).mono (by omega)))
      generalize c.st = cs at *
      clear hb RR0
      go_wp2_with fail
      go_ret
      exact ⟨rfl, BF.out⟩
end Go.Proofs.YtljommhbhpappaaGreat
