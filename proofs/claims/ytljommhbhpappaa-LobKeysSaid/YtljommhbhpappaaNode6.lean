/-
  Layer 5 (node): Check of an inner node that is one.
-/
import Derived.Test.YtljommhbhpappaaNode5
namespace Go.Proofs.Ytljommhbhpappaa
open Go.RowKit Go.Joins
set_option linter.unusedVariables false
set_option linter.unusedSimpArgs false

/-- an inner node's cell that may be -/
def NC.inner (c : NC) : Prop := c.st = 1 ∧ c.key.size ≤ 8 ∧ ∃ ch : Int, 1 ≤ ch ∧ ch < 1024 ∧ c.rest = le4 ch
theorem NC.inner.ok {c : NC} (h : c.inner) : c.ok := by
  obtain ⟨h1, h2, ch, h3, h4, h5⟩ := h
  exact ⟨by rw [h1]; decide, h2, by rw [h5, le4_size]; omega⟩
/-- only the first key is empty -/
theorem Rising.full {L : List NC} (h : Rising L) {j k : Nat} (hk : k < L.length) (hj : j < k) : L[k].key ≠ ByteArray.empty := fun e => by
  have := List.pairwise_iff_getElem.1 h j k (by omega) hk hj
  rw [e] at this
  exact KLt.empty _ this

theorem lastK_six {L : List NC} (h : 0 < L.length) (h6 : L.length ≤ 6) : (lastK L 6).2 = true := by
  unfold lastK
  rw [List.take_of_length_le h6, List.getLast?_eq_some_getLast (List.ne_nil_of_length_pos h)]

set_option maxHeartbeats 4000000 in
set_option maxRecDepth 100000 in
theorem ncheck_inner (lv st nx : Int) (hlv : 0 < lv) (L : List NC) (h6 : L.length ≤ 6) (hok : ∀ c ∈ L, c.inner) (hr : Rising L) (h0 : ∃ hp : 0 < L.length, L[0].key = ByteArray.empty) (w : World) :
    Calls Try.prog 106 #[(ndPg lv st nx L).v] w fun e w' => e = .returned (.int .i64 0) ∧ Below w.heap.size w w' := by
  have HK := Lib.hid (fun i (hi : i < L.length) w' => key_ok L[i].st L[i].key L[i].rest (hok _ (List.getElem_mem hi)).ok.1 (hok _ (List.getElem_mem hi)).2.1 (by have := (hok _ (List.getElem_mem hi)).ok.2.2; omega) w')
  have HA := Lib.hid (fun i (hi : i < 6) => nd_a lv st nx L i hi)
  have HD := Lib.hid (fun i (hi : i < 6) => nd_d lv st nx L i hi)
  have HL := Lib.hid hok
  have HR := Lib.hid hr
  have hk : (ndPg lv st nx L).k = 4 := rfl
  have hl : (ndPg lv st nx L).l = lv := rfl
  obtain ⟨hp0, hk00⟩ := h0
  have hll1 : (lv == 0) = false := by simp; omega
  have hll2 : decide (lv < 0) = false := by simp; omega
  have hll3 : decide (0 < lv) = true := by simp; omega
  have hlv0 : ¬ lv = 0 := by omega
  have hlv1 : ¬ lv < 0 := by omega
  clear hok hr
  generalize ndPg lv st nx L = p at *
  go_enter Try.func106, Try.ntmps106
  go_wp2_with fail
  go_loopw [3, 4, 20] (fun last sm i wr => ∃ k : Nat, k ≤ 6 ∧ i = .int .i64 k ∧ Below (w.heap.size + 1) (w.alloc (.cells p.cs 112)) wr ∧ last = .string (lastK L k).1 ∧ sm = .bool (lastK L k).2) (fun _ _ i _ => 6 - (intOf i).toNat)
  case atStart => exact ⟨0, by omega, rfl, Below.refl _ _, by rw [lastK_zero]; exact ⟨rfl, rfl⟩⟩
  case round =>
    obtain ⟨k, hk6, rfl, hb, rfl, rfl⟩ := hrel
    have hsz := hb.size
    rw [World.size_alloc] at hsz
    by_cases hlt : k < 6
    · by_cases hkL : k < L.length
      · have hidx := index6 p k hlt
        rw [HA.out k hlt, HD.out k hlt, stL_get hkL, dL_get hkL] at hidx
        have hd : L[k].d = tx L[k].key ++ L[k].rest := rfl
        rw [hd] at hidx
        have HKk := Lib.hid (HK.out k hkL)
        have HLS := Lib.hid (lastK_succ hkL)
        have hlf := HL.out _ (List.getElem_mem hkL)
        have hprev : ∀ j, (hj : j < L.length) → k = j + 1 → KLt L[j].key L[k].key := fun j hj e => by subst e; exact HR.out.next hkL
        have hemp : 0 < k → L[k].key ≠ ByteArray.empty := fun h => HR.out.full hkL h
        have hemp0 : k = 0 → L[k].key = ByteArray.empty := fun e => by subst e; exact hk00
        generalize L[k] = c at *
        obtain ⟨ck, cs, cr⟩ := c
        obtain ⟨l1, l2, ch, l3, l4, l5⟩ := hlf
        simp only at hidx HKk HLS hprev hemp hemp0 l1 l2 l5
        subst l5 l1
        have HCh := Lib.hid (fun w' => nchild_ok 1 ck ch (by decide) l2 l3 l4 w')
        have hch : (ch == 0) = false := by simp; omega
        generalize le4 ch = cr at *
        generalize hdd : tx ck ++ cr = dd at *
        clear hd hdd
        rcases lastK_any L k (by omega) with ⟨hk0, hlk⟩ | ⟨j, hj, hkj, hlk⟩
        · rw [hlk]
          clear hprev
          have hce := hemp0 hk0
          subst hce
          have hidx0 := hidx
          rw [show ((k : Nat) : Int) = 0 from by omega] at hidx0
          go_wp2_with fail
          refine (HKk.out _).mono ?_; rintro e w3 ⟨rfl, hb3⟩
          have hz3 := hb3.size
          rw [World.size_alloc] at hz3
          have RR := ((rowAt_below hb3 (by go_size)).trans ((rowAt_past _ _ _ (by omega)).trans (rowAt_below hb (n := w.heap.size) (by omega)))).trans (rowAt_at w p.cs 112 _ rfl)
          have c1 : w3.cell? ⟨w.heap.size, 1, none⟩ = some (.int .i64 lv) := (cell_row RR 1).trans (by rw [← hl]; rfl)
          have B3 : Hid (Below (w.heap.size + 1) (w.alloc (.cells p.cs 112)) w3) := Lib.hid ((hb.alloc hsz _).trans (hb3.mono (by go_size)))
          have RC := (rowAt_below hb3 (n := wr.heap.size) (by go_size)).trans (rowAt_at wr #[.int .i64 1, .string dd] 84 _ rfl)
          have c0 := cell_row RC 0
          have c01 := cell_row RC 1
          simp only [List.getElem?_toArray, List.getElem?_cons_succ, List.getElem?_cons_zero] at c0 c01
          clear hb3 RR hb
          have HLS1 := HLS.out
          rw [hk0] at HLS1
          go_wp2_with fail
          refine (HCh.out _).mono ?_; rintro e w5 ⟨rfl, hb5⟩
          have B5 : Hid (Below (w.heap.size + 1) (w.alloc (.cells p.cs 112)) w5) := Lib.hid (B3.out.trans (hb5.mono (by have := B3.out.size; rw [World.size_alloc] at this; exact this)))
          clear hb5
          go_wp2_with fail
          all_goals
            refine ⟨⟨1, by omega, rfl, B5.out, ?_⟩, ?_⟩
            · rw [HLS1]; exact ⟨rfl, rfl⟩
            · rw [hk0]; simp [intOf]
        · rw [hlk]
          have hpr := hprev j hj hkj
          have hne := sem_f (hemp (by omega))
          subst hkj
          have hidx0 := hidx
          rw [show ((j + 1 : Nat) : Int) = (j : Int) + 1 from by omega] at hidx0
          have RR0 := (rowAt_below hb (n := w.heap.size) (by omega)).trans (rowAt_at w p.cs 112 _ rfl)
          have RR1 := (rowAt_past wr (.cells #[.int .i64 1, .string dd] 84) w.heap.size (by omega)).trans RR0
          have cP := (cell_row RR1 (4 + j * 2)).trans (cs_a p j (by omega))
          rw [HA.out j (by omega), stL_get hj] at cP
          have hsj : (L[j].st == 0) = false := by simpa using (NC.inner.ok (HL.out _ (List.getElem_mem hj))).1
          generalize L[j].st = sj at *
          generalize hjk : L[j].key = jk at *
          have hcm : decide (Lib.compareBytes ck.data.toList jk.data.toList ≤ 0) = false := by simp only [decide_eq_false_iff_not]; rw [cmp_le]; exact fun h => h hpr
          have HCm := Lib.hid (fun w' => scompare ck jk w')
          generalize Lib.compareBytes ck.data.toList jk.data.toList = cmp at *
          clear hprev
          go_wp2_with fail
          refine (HKk.out _).mono ?_; rintro e w3 ⟨rfl, hb3⟩
          have hz3 := hb3.size
          rw [World.size_alloc] at hz3
          have RR := ((rowAt_below hb3 (by go_size)).trans RR1)
          have c1 : w3.cell? ⟨w.heap.size, 1, none⟩ = some (.int .i64 lv) := (cell_row RR 1).trans (by rw [← hl]; rfl)
          have B3 : Hid (Below (w.heap.size + 1) (w.alloc (.cells p.cs 112)) w3) := Lib.hid ((hb.alloc hsz _).trans (hb3.mono (by go_size)))
          have RC := (rowAt_below hb3 (n := wr.heap.size) (by go_size)).trans (rowAt_at wr #[.int .i64 1, .string dd] 84 _ rfl)
          have c0 := cell_row RC 0
          have c01 := cell_row RC 1
          simp only [List.getElem?_toArray, List.getElem?_cons_succ, List.getElem?_cons_zero] at c0 c01
          clear hb3 RR hb
          go_wp2_with fail
          refine (HCm.out _).mono ?_; rintro e w4 ⟨rfl, rfl⟩
          go_wp2_with fail
          refine (HCh.out _).mono ?_; rintro e w5 ⟨rfl, hb5⟩
          have B5 : Hid (Below (w.heap.size + 1) (w.alloc (.cells p.cs 112)) w5) := Lib.hid (B3.out.trans (hb5.mono (by have := B3.out.size; rw [World.size_alloc] at this; exact this)))
          clear hb5
          go_wp2_with fail
          all_goals
            refine ⟨⟨j + 1 + 1, by omega, by go_num, B5.out, ?_⟩, ?_⟩
            · rw [HLS.out]; exact ⟨rfl, rfl⟩
            · simp [intOf]; omega
      · have hidx := index6 p k hlt
        rw [HA.out k hlt, HD.out k hlt, stL_out (by omega), dL_out (by omega)] at hidx
        have HLP := Lib.hid (lastK_past (L := L) (k := k) (by omega))
        go_wp2_with fail
        go_roundw
        case rel =>
          refine ⟨k + 1, by omega, by go_num, hb.alloc hsz _, ?_⟩
          rw [HLP.out]; exact ⟨rfl, rfl⟩
        case measure => simp [intOf]; omega
    · have hke : k = 6 := by omega
      subst hke
      have hl6 := lastK_six hp0 h6
      have R1 := (rowAt_below hb (n := w.heap.size) (by omega)).trans (rowAt_at w p.cs 112 _ rfl)
      have HB := Lib.hid (((Below.refl w.heap.size w).alloc (Nat.le_refl _) (.cells p.cs 112)).trans (hb.mono (by omega)))
      have c1 : wr.cell? ⟨w.heap.size, 1, none⟩ = some (.int .i64 lv) := (cell_row R1 1).trans (by rw [← hl]; rfl)
      clear hb
      go_wp2_with fail
      go_ret
      exact ⟨rfl, HB.out⟩
end Go.Proofs.Ytljommhbhpappaa
