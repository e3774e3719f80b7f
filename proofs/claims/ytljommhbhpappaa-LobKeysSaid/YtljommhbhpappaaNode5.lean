/-
  Layer 5 (node): Check of a node that is one.
-/
import Derived.Test.YtljommhbhpappaaNode4
namespace Go.Proofs.Ytljommhbhpappaa
open Go.RowKit Go.Joins
set_option linter.unusedVariables false
set_option linter.unusedSimpArgs false

set_option maxHeartbeats 1000000 in
set_option maxRecDepth 100000 in
theorem cmpString (a b : ByteArray) (w : World) :
    Calls Try.prog 124 #[.string a, .string b] w fun e w' => e = .returned (.int .i64 (Lib.compareBytes a.data.toList b.data.toList)) ∧ w = w' := by
  go_enter Try.func124, Try.ntmps124
  go_wp2
  rw [run_callFunc_extern Try.func137 (by kernel_rfl) (by kernel_rfl) (by kernel_rfl) (e := Extern.BytealgCompare.compare) (by kernel_rfl), Lib.run_compareString]
  simp only [Result.andThen]
  rw [Oper.upon_value]
  go_wp2
  go_ret
  exact ⟨rfl, rfl⟩
set_option maxHeartbeats 1000000 in
theorem scompare (a b : ByteArray) (w : World) :
    Calls Try.prog 118 #[.string a, .string b] w fun e w' => e = .returned (.int .i64 (Lib.compareBytes a.data.toList b.data.toList)) ∧ w = w' := by
  go_enter Try.func118, Try.ntmps118
  go_wp2_with fail
  refine (cmpString _ _ _).mono ?_; rintro e w' ⟨rfl, rfl⟩
  go_wp2_with fail
  go_ret
  exact ⟨rfl, rfl⟩

/-- keys that rise -/
def Rising (L : List NC) : Prop := L.Pairwise fun a b => KLt a.key b.key
theorem Rising.next {L : List NC} (h : Rising L) {k : Nat} (hk : k + 1 < L.length) : KLt L[k].key L[k + 1].key := List.pairwise_iff_getElem.1 h k (k + 1) (by omega) hk (by omega)
/-- a leaf's cell that may be -/
def NC.leaf (c : NC) : Prop := (c.st = 1 ∨ c.st = 2) ∧ c.key ≠ ByteArray.empty ∧ c.key.size ≤ 8 ∧ c.rest.size ≤ 20
theorem NC.leaf.ok {c : NC} (h : c.leaf) : c.ok := ⟨by rcases h.1 with e | e <;> rw [e] <;> decide, h.2.2.1, by have := h.2.2.2; omega⟩

/-- the last key that was looked at, and whether there was one -/
def lastK (L : List NC) (k : Nat) : ByteArray × Bool := match (L.take k).getLast? with | some c => (c.key, true) | none => (ByteArray.empty, false)
theorem lastK_zero (L : List NC) : lastK L 0 = (ByteArray.empty, false) := by simp [lastK]
theorem lastK_succ {L : List NC} {k : Nat} (h : k < L.length) : lastK L (k + 1) = (L[k].key, true) := by
  unfold lastK
  have e : L.take (k + 1) = L.take k ++ [L[k]] := by rw [List.take_add_one, List.getElem?_eq_getElem h]; rfl
  rw [e, List.getLast?_concat]
theorem lastK_past {L : List NC} {k : Nat} (h : L.length ≤ k) : lastK L (k + 1) = lastK L k := by
  unfold lastK
  rw [List.take_of_length_le h, List.take_of_length_le (by omega)]
theorem lastK_any (L : List NC) (k : Nat) (h : k ≤ L.length) : (k = 0 ∧ lastK L k = (ByteArray.empty, false)) ∨ (∃ j, ∃ hj : j < L.length, k = j + 1 ∧ lastK L k = (L[j].key, true)) := by
  rcases k with _ | j
  · exact .inl ⟨rfl, lastK_zero L⟩
  · exact .inr ⟨j, h, rfl, lastK_succ h⟩

set_option maxHeartbeats 4000000 in
set_option maxRecDepth 100000 in
theorem ncheck_leaf (st nx : Int) (L : List NC) (h6 : L.length ≤ 6) (hok : ∀ c ∈ L, c.leaf) (hr : Rising L) (w : World) :
    Calls Try.prog 106 #[(ndPg 0 st nx L).v] w fun e w' => e = .returned (.int .i64 0) ∧ Below w.heap.size w w' := by
  have HK := Lib.hid (fun i (hi : i < L.length) w' => key_ok L[i].st L[i].key L[i].rest (hok _ (List.getElem_mem hi)).ok.1 (hok _ (List.getElem_mem hi)).2.2.1 (by have := (hok _ (List.getElem_mem hi)).2.2.2; omega) w')
  have HA := Lib.hid (fun i (hi : i < 6) => nd_a 0 st nx L i hi)
  have HD := Lib.hid (fun i (hi : i < 6) => nd_d 0 st nx L i hi)
  have HL := Lib.hid hok
  have HR := Lib.hid hr
  have hk : (ndPg 0 st nx L).k = 4 := rfl
  have hl : (ndPg 0 st nx L).l = 0 := rfl
  clear hok hr
  generalize ndPg 0 st nx L = p at *
  go_enter Try.func106, Try.ntmps106
  go_wp2_with fail
  go_loopw [3, 4, 20] (fun last sm i wr => ∃ k : Nat, k ≤ 6 ∧ i = .int .i64 k ∧ Below (w.heap.size + 1) (w.alloc (.cells p.cs 112)) wr ∧ last = .string (lastK L k).1 ∧ sm = .bool (lastK L k).2) (fun _ _ i _ => 6 - (intOf i).toNat)
  case atStart => exact ⟨0, by omega, rfl, Below.refl _ _, by rw [lastK_zero]; exact ⟨rfl, rfl⟩⟩
  case round =>
    obtain ⟨k, hk6, rfl, hb, rfl, rfl⟩ := hrel
    have hsz := hb.size
    rw [World.size_alloc] at hsz
    by_cases hlt : k < 6
    · by_cases hkL : k < L.length
      · have hidx := index6 p k hlt
        rw [HA.out k hlt, HD.out k hlt, stL_get hkL, dL_get hkL] at hidx
        have hd : L[k].d = tx L[k].key ++ L[k].rest := rfl
        rw [hd] at hidx
        have HKk := Lib.hid (HK.out k hkL)
        have HLS := Lib.hid (lastK_succ hkL)
        have hlf := HL.out _ (List.getElem_mem hkL)
        have hprev : ∀ j, (hj : j < L.length) → k = j + 1 → KLt L[j].key L[k].key := fun j hj e => by subst e; exact HR.out.next hkL
        generalize L[k] = c at *
        obtain ⟨ck, cs, cr⟩ := c
        obtain ⟨l1, l2, l3, l4⟩ := hlf
        simp only at hidx HKk HLS hprev l1 l2 l3 l4
        have hne := sem_f l2
        have hcs : (cs == 0) = false := by rcases l1 with e | e <;> subst e <;> rfl
        have hcr : decide ((20 : Int) < (cr.size : Int)) = false := by simp; omega
        generalize hdd : tx ck ++ cr = dd at *
        clear hd hdd
        rcases lastK_any L k (by omega) with ⟨hk0, hlk⟩ | ⟨j, hj, hkj, hlk⟩
        · rw [hlk]
          clear hprev
          have hidx0 := hidx
          rw [show ((k : Nat) : Int) = 0 from by omega] at hidx0
          go_wp2_with fail
          refine (HKk.out _).mono ?_; rintro e w3 ⟨rfl, hb3⟩
          have hz3 := hb3.size
          rw [World.size_alloc] at hz3
          have RR := ((rowAt_below hb3 (by go_size)).trans ((rowAt_past _ _ _ (by omega)).trans (rowAt_below hb (n := w.heap.size) (by omega)))).trans (rowAt_at w p.cs 112 _ rfl)
          have c1 : w3.cell? ⟨w.heap.size, 1, none⟩ = some (.int .i64 0) := (cell_row RR 1).trans (by rw [← hl]; rfl)
          have B3 : Hid (Below (w.heap.size + 1) (w.alloc (.cells p.cs 112)) w3) := Lib.hid ((hb.alloc hsz _).trans (hb3.mono (by go_size)))
          have RC := (rowAt_below hb3 (n := wr.heap.size) (by go_size)).trans (rowAt_at wr #[.int .i64 cs, .string dd] 84 _ rfl)
          have c0 := cell_row RC 0
          simp only [List.getElem?_toArray, List.getElem?_cons_succ, List.getElem?_cons_zero] at c0
          clear hb3 RR hb
          have HLS1 := HLS.out
          rw [hk0] at HLS1
          go_wp2_with fail
          all_goals
            refine ⟨⟨1, by omega, rfl, B3.out, ?_⟩, ?_⟩
            · rw [HLS1]; exact ⟨rfl, rfl⟩
            · rw [hk0]; simp [intOf]
        · rw [hlk]
          have hpr := hprev j hj hkj
          subst hkj
          have hidx0 := hidx
          rw [show ((j + 1 : Nat) : Int) = (j : Int) + 1 from by omega] at hidx0
          have RR0 := (rowAt_below hb (n := w.heap.size) (by omega)).trans (rowAt_at w p.cs 112 _ rfl)
          have RR1 := (rowAt_past wr (.cells #[.int .i64 cs, .string dd] 84) w.heap.size (by omega)).trans RR0
          have cP := (cell_row RR1 (4 + j * 2)).trans (cs_a p j (by omega))
          rw [HA.out j (by omega), stL_get hj] at cP
          have hsj : (L[j].st == 0) = false := by simpa using (HL.out _ (List.getElem_mem hj)).ok.1
          generalize L[j].st = sj at *
          generalize hjk : L[j].key = jk at *
          have hcm : decide (Lib.compareBytes ck.data.toList jk.data.toList ≤ 0) = false := by simp only [decide_eq_false_iff_not]; rw [cmp_le]; exact fun h => h hpr
          have HCm := Lib.hid (fun w' => scompare ck jk w')
          generalize Lib.compareBytes ck.data.toList jk.data.toList = cmp at *
          clear hprev
          go_wp2_with fail
          refine (HKk.out _).mono ?_; rintro e w3 ⟨rfl, hb3⟩
          have hz3 := hb3.size
          rw [World.size_alloc] at hz3
          have RR := ((rowAt_below hb3 (by go_size)).trans RR1)
          have c1 : w3.cell? ⟨w.heap.size, 1, none⟩ = some (.int .i64 0) := (cell_row RR 1).trans (by rw [← hl]; rfl)
          have B3 : Hid (Below (w.heap.size + 1) (w.alloc (.cells p.cs 112)) w3) := Lib.hid ((hb.alloc hsz _).trans (hb3.mono (by go_size)))
          have RC := (rowAt_below hb3 (n := wr.heap.size) (by go_size)).trans (rowAt_at wr #[.int .i64 cs, .string dd] 84 _ rfl)
          have c0 := cell_row RC 0
          simp only [List.getElem?_toArray, List.getElem?_cons_succ, List.getElem?_cons_zero] at c0
          clear hb3 RR hb
          go_wp2_with fail
          refine (HCm.out _).mono ?_; rintro e w4 ⟨rfl, rfl⟩
          go_wp2_with fail
          all_goals
            refine ⟨⟨j + 1 + 1, by omega, by go_num, B3.out, ?_⟩, ?_⟩
            · rw [HLS.out]; exact ⟨rfl, rfl⟩
            · simp [intOf]; omega
      · have hidx := index6 p k hlt
        rw [HA.out k hlt, HD.out k hlt, stL_out (by omega), dL_out (by omega)] at hidx
        have HLP := Lib.hid (lastK_past (L := L) (k := k) (by omega))
        go_wp2_with fail
        go_roundw
        case rel =>
          refine ⟨k + 1, by omega, by go_num, hb.alloc hsz _, ?_⟩
          rw [HLP.out]; exact ⟨rfl, rfl⟩
        case measure => simp [intOf]; omega
    · have hke : k = 6 := by omega
      subst hke
      have R1 := (rowAt_below hb (n := w.heap.size) (by omega)).trans (rowAt_at w p.cs 112 _ rfl)
      have HB := Lib.hid (((Below.refl w.heap.size w).alloc (Nat.le_refl _) (.cells p.cs 112)).trans (hb.mono (by omega)))
      have c1 : wr.cell? ⟨w.heap.size, 1, none⟩ = some (.int .i64 0) := (cell_row R1 1).trans (by rw [← hl]; rfl)
      clear hb
      go_wp2_with fail
      go_ret
      exact ⟨rfl, HB.out⟩
end Go.Proofs.Ytljommhbhpappaa
