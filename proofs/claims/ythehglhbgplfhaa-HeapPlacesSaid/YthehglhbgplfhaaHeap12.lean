/-
  Layer 15 (heap): the walk of HeapPlaces.
-/
import Derived.Test.YthehglhbgplfhaaHeap11
import Derived.Test.YthehglhbgplfhaaFrame15
namespace Go.Proofs.Ythehglhbgplfhaa
open Go.RowKit Go.Joins
set_option linter.unusedVariables false
set_option linter.unusedSimpArgs false

@[go_sem] theorem run_eq_cell10 (a b : Int) (x y : ByteArray) (w : World) : (Op.equalIn 10000 34 (.agg #[.int .i64 a, .string x]) (.agg #[.int .i64 b, .string y])).run Try.prog w = .ok (cellEq a b x y) w := run_eq_cell 9998 a b x y w
theorem cellEq_self (a : Int) (x : ByteArray) : cellEq a a x x = true := (cellEq_iff a a x x).2 ⟨rfl, rfl⟩

/-- how many records a page, a chain holds -/
def lv (p : Pg) : Nat := (if p.a 0 = 1 then 1 else 0) + (if p.a 1 = 1 then 1 else 0) + (if p.a 2 = 1 then 1 else 0) + (if p.a 3 = 1 then 1 else 0) + (if p.a 4 = 1 then 1 else 0) + (if p.a 5 = 1 then 1 else 0)
def lvC (C : List Pg) : Nat := (C.map lv).sum
theorem lv_set (p : Pg) (i : Nat) (hi : i < 6) (h : p.a i ≠ 1) (d : ByteArray) : lv (p.setC i 1 d) = lv p + 1 := by
  have e : ∀ j, j < 6 → (p.setC i 1 d).a j = if j = i then 1 else p.a j := fun j hj => a_setC p i j hi hj 1 d
  unfold lv
  rw [e 0 (by omega), e 1 (by omega), e 2 (by omega), e 3 (by omega), e 4 (by omega), e 5 (by omega)]
  have h6 : i = 0 ∨ i = 1 ∨ i = 2 ∨ i = 3 ∨ i = 4 ∨ i = 5 := by omega
  rcases h6 with rfl | rfl | rfl | rfl | rfl | rfl <;> simp [h] <;> omega
theorem lv_full {p : Pg} (h : ∀ j, j < 6 → p.a j = 1) : lv p = 6 := by
  unfold lv
  rw [h 0 (by omega), h 1 (by omega), h 2 (by omega), h 3 (by omega), h 4 (by omega), h 5 (by omega)]
  rfl
theorem lvC_set : ∀ (C : List Pg) (k : Nat) (hk : k < C.length) (p : Pg), lvC (C.set k p) + lv C[k] = lvC C + lv p
  | c :: r, 0, _, p => by simp [lvC]; omega
  | c :: r, k + 1, hk, p => by
    have := lvC_set r k (by simpa using hk) p
    simp [lvC] at this ⊢
    omega
theorem lvC_full : ∀ (C : List Pg), (∀ k (h : k < C.length), lv C[k] = 6) → lvC C = 6 * C.length
  | [], _ => rfl
  | c :: r, h => by
    have h0 := h 0 (by simp)
    have h1 := lvC_full r (fun k hk => h (k + 1) (by simpa using hk))
    simp [lvC] at h0 h1 ⊢
    omega
theorem place_live {id : Int} {p : Pg} (h : placeI [] 0 id p = -1) : lv p = 6 := by
  rcases placeI_cases [] 0 id p with ⟨-, h2⟩ | ⟨i, -, h2, -⟩
  · refine lv_full fun j hj => ?_
    have := h2 j hj
    simp only [freeAt, inRow, List.range_zero, List.any_nil, Bool.not_false, Bool.and_true, Bool.not_eq_false', decide_eq_true_eq] at this
    exact this
  · rw [h] at h2; omega
theorem lvC_grown (C : List Pg) (hp : 0 < C.length) : lvC (grownC C) = lvC C := by
  have h := lvC_set C (C.length - 1) (by omega) ((C.getD (C.length - 1) Pg.zero).link ((2 + C.length : Nat) : Int))
  have h1 : lv ((C.getD (C.length - 1) Pg.zero).link ((2 + C.length : Nat) : Int)) = lv C[C.length - 1] := by
    rw [last_get hp]; rfl
  rw [h1] at h
  have h2 : lvC (grownC C) = lvC (C.set (C.length - 1) ((C.getD (C.length - 1) Pg.zero).link ((2 + C.length : Nat) : Int))) + lv freshH := by
    simp [grownC, lvC]
  have h3 : lv freshH = 0 := by decide
  omega
/-- an insert that keeps nothing: at most one page more, one record more -/
theorem ins_count {S S1 : Vol} {n : Nat} {C : List Pg} {g k i : Nat} {q : Pg} (h : InsAt S n C [] 0 g k S1 q) (hi : i < 6) (hp : placeI [] 0 ((2 + k : Nat) : Int) q = (i : Int)) (hC : 0 < C.length) (val : ByteArray) (j : Nat) (h1 : lvC C = j) (h2 : 6 * C.length ≤ j + 6) :
    lvC ((growN g C).set k (q.setC i 1 val)) = j + 1 ∧ 6 * ((growN g C).set k (q.setC i 1 val)).length ≤ j + 1 + 6 := by
  have hg : g ≤ 1 := by
    by_cases hg : 1 < g
    · obtain ⟨id, hid⟩ := h.more hg
      rw [place_fresh] at hid; cases hid
    · omega
  have hq := h.pg h.lt
  have hfr : q.a i ≠ 1 := by
    rcases placeI_cases [] 0 ((2 + k : Nat) : Int) q with ⟨h3, -⟩ | ⟨i', -, h3, h4, -⟩
    · rw [hp] at h3; omega
    · have : i' = i := by rw [hp] at h3; omega
      subst this
      simp only [freeAt, Bool.and_eq_true, Bool.not_eq_true', decide_eq_false_iff_not] at h4
      exact h4.1
  have hs := lvC_set (growN g C) k h.lt (q.setC i 1 val)
  rw [hq, lv_set q i hi hfr] at hs
  rw [List.length_set, growN_len]
  have hg2 : g = 0 ∨ g = 1 := by omega
  rcases hg2 with rfl | rfl
  · have e : lvC (growN 0 C) = lvC C := rfl
    omega
  · have e : lvC (growN 1 C) = lvC C := lvC_grown C hC
    have hf := (h.fresh (by omega)).2.2
    have hful := lvC_full C (fun k hk => place_live (hf k hk))
    omega

/-- where HeapPlaces stands behind j values -/
def PlacesAt (w wr : World) (b mb hb pb : Nat) (j : Nat) : Prop :=
  ∃ S C, One w wr b mb hb pb S ∧ HeapOk S 40 C ∧ lvC C = j ∧ 6 * C.length ≤ j + 6

set_option maxHeartbeats 4000000 in
set_option maxRecDepth 100000 in
theorem places_walk (vp : Option Addr) (len cap : Nat) (V : List ByteArray) (w : World) (hV : StrsIn w vp len V) :
    Calls Try.prog 3 #[.slice vp len cap] w fun e w' => e = .returned (.bool true) ∧ Below w.heap.size w w' := by
  have HA := Lib.hid (fun (w' : World) => awake15 w')
  have HM := Lib.hid (fun (w' : World) => memory_ok 40 (by omega) (by omega) w')
  have HN := Lib.hid (fun hb pb w' hB h h2 => new_one hb pb (List.replicate 40 Pg.zero) w w' hB h h2)
  have HFo := Lib.hid (fun b mb hb pb w' hs => format_start 40 40 (by omega) (by omega) b mb hb pb w' hs)
  have HMa := Lib.hid (fun b mb hb pb w' hs => make_start 40 40 (by omega) (by omega) (by omega) b mb hb pb w' hs)
  have HV := Lib.hid hV
  have hl1 := hV.1
  have hl2 := hV.2.1
  clear hV
  by_cases h100 : 100 < len
  · go_enter Try.func3, Try.ntmps3
    go_wp2_with fail
    refine (HA.out _).mono ?_; rintro e w0 ⟨rfl, hb0⟩
    have K0 := Lib.hid hb0
    clear hb0
    go_wp2_with fail
    refine (HM.out _).mono ?_; rintro e w1 ⟨hb, pb, rfl, hb1, q1, q2, hs1⟩
    have hz := K0.out.size
    have K1 : Hid (Below w.heap.size w w1) := Lib.hid (K0.out.trans (hb1.mono hz))
    have K2 := Lib.hid hs1
    clear hb1 hs1
    go_wp2_with fail
    refine (HN.out hb pb _ K1.out K2.out (by omega)).mono ?_; rintro e w2 ⟨b, mb, rfl, h2⟩
    have K3 := Lib.hid h2
    clear h2
    go_wp2_with fail
    go_ret
    exact ⟨rfl, K3.out.low⟩
  · go_enter Try.func3, Try.ntmps3
    go_wp2_with fail
    refine (HA.out _).mono ?_; rintro e w0 ⟨rfl, hb0⟩
    have K0 := Lib.hid hb0
    clear hb0
    go_wp2_with fail
    refine (HM.out _).mono ?_; rintro e w1 ⟨hb, pb, rfl, hb1, q1, q2, hs1⟩
    have hz := K0.out.size
    have K1 : Hid (Below w.heap.size w w1) := Lib.hid (K0.out.trans (hb1.mono hz))
    have K2 := Lib.hid hs1
    clear hb1 hs1
    go_wp2_with fail
    refine (HN.out hb pb _ K1.out K2.out (by omega)).mono ?_; rintro e w2 ⟨b, mb, rfl, h2⟩
    have K3 := Lib.hid h2
    clear h2
    go_wp2_with fail
    refine (HFo.out b mb hb pb _ K3.out.st).mono ?_; rintro e w3 ⟨rfl, g3, s3⟩
    have K4 := Lib.hid (K3.out.grow g3 s3)
    clear g3 s3
    go_wp2_with fail
    refine (HMa.out b mb hb pb _ K4.out.st).mono ?_; rintro e w4 ⟨rfl, g4, s4⟩
    have K5 : Hid (PlacesAt w w4 b mb hb pb 0) := Lib.hid ⟨_, _, K4.out.grow g4 s4, H0_ok 40 40 (by omega) (by omega) (by omega), by decide, by simp⟩
    clear g4 s4
    go_wp2_with fail
    go_loopw [34] (fun i wr => ∃ j : Nat, j ≤ len ∧ i = .int .i64 j ∧ PlacesAt w wr b mb hb pb j) (fun i _ => len - (intOf i).toNat)
    case atStart => exact ⟨0, by omega, rfl, K5.out⟩
    case round =>
      obtain ⟨j, hj, rfl, S, C, hO, hH, hlv, hlen⟩ := hrel
      have HO := Lib.hid hO
      have HH := Lib.hid hH
      by_cases hlt : j < len
      · have hVr := HV.out.below hO.low
        obtain ⟨bv, off, hvp, hbv, hrow⟩ := hVr.2.2.resolve_left (by omega)
        subst hvp
        have hc := hrow j (by omega)
        generalize V[j] = val at *
        by_cases hval : 32 < val.size
        · have HL := Lib.hid (fun (w' : World) => insert_long val (.pointer (some ⟨b, 0, none⟩)) (.int .i64 1) none 0 0 hval w')
          have hv2 : decide ((32 : Int) < (val.size : Int)) = true := by simp; omega
          clear hVr hrow hbv hO hH
          go_wp2_with fail
          refine (HL.out _).mono ?_; rintro e w5 ⟨rfl, hb5⟩
          have K6 := Lib.hid ((HO.out.below hb5).alloc (.cells Un.zero.cs 36))
          clear hb5
          go_wp2_with fail
          go_ret
          exact ⟨rfl, K6.out.low⟩
        · have HI := Lib.hid (insert_any hH b mb hb pb val (by omega) none 0 0 [] wr hO.st (RowOk.none' wr))
          have hp0 := hH.pos
          clear hVr hrow hbv hO hH
          go_wp2_with fail
          refine HI.out.mono ?_; rintro e w5 (⟨g, k, i, S1, q, rfl, ho⟩ | ⟨S1, rfl, hbd⟩)
          · have hA := ho.at'
            have hq := hA.pg hA.lt
            have hhd := hA.heap.head k hA.lt
            have hokq := hA.heap.ok k hA.lt
            have htop := hA.heap.top
            have hkl := hA.lt
            have hi := ho.six
            rw [hq] at hhd hokq
            have hokp := ok_setC hokq i hi 1 val (by simp [okC]; omega)
            have hsc := h_setC q i hi 1 val
            have hH' : HeapOk (S1.put ((2 + k : Nat) : Int) (q.setC i 1 val)) 40 ((growN g C).set k (q.setC i 1 val)) := hA.heap.set k hA.lt _ hokp (by rw [hq]; exact ⟨hsc.1, hsc.2.2.1, hsc.2.2.2⟩)
            have hcnt := ins_count hA hi ho.place hp0 val j hlv hlen
            have hO' := HO.out.grow ho.grown ho.stage
            obtain ⟨p, hp⟩ : ∃ p, q.setC i 1 val = p := ⟨_, rfl⟩
            have pa : p.a i = 1 := by rw [← hp, a_setC q i i hi hi, if_pos rfl]
            have pd : p.d i = val := by rw [← hp, d_setC q i i hi hi, if_pos rfl]
            have ps : p.s = 1 := by rw [← hp, hsc.2.2.1]; exact hhd.2.1
            rw [hp] at hH' hcnt hO'
            obtain ⟨u, hu⟩ : ∃ u : Un, ({ kind := 1, page := ((2 + k : Nat) : Int), slot := (i : Int), st := q.a i, d := q.d i } : Un) = u := ⟨_, rfl⟩
            have hu2 : u.page = ((2 + k : Nat) : Int) := by rw [← hu]
            have hu3 : u.slot = (i : Int) := by rw [← hu]
            rw [hu]
            obtain ⟨id, hid⟩ : ∃ id : Int, ((2 + k : Nat) : Int) * 8 + (i : Int) = id := ⟨_, rfl⟩
            rw [hid]
            have h8 : id / 8 = ((2 + k : Nat) : Int) := by omega
            have m8 : id % 8 = (i : Int) := by omega
            have id0 : 0 ≤ id := by omega
            have id1 : id < 9223372036854775808 := by omega
            have HP := Lib.hid (show PlacesAt w w5 b mb hb pb (j + 1) from ⟨_, _, hO', hH', hcnt.1, hcnt.2⟩)
            have hO2 := hO'.alloc (.cells u.cs 36)
            have hg := get_any _ b mb hb pb ((2 + k : Nat) : Int) _ hO2.st
            rw [stPg_put, stE_put, if_pos rfl, if_pos rfl] at hg
            have HG := Lib.hid hg
            have HO2 := Lib.hid hO2
            have hidc := fun (w' : World) => id_any ((2 + k : Nat) : Int) (i : Int) w' (by omega) (by omega) (by omega) (by omega)
            rw [hid] at hidc
            have HId := Lib.hid hidc
            clear hidc
            have Ru := rowAt_at w5 u.cs 36 _ rfl
            have HH' := Lib.hid hH'
            have HCnt := Lib.hid hcnt
            have HId2 := Lib.hid hid
            have hk40 : ((2 + k : Nat) : Int) < 40 := by rw [growN_len] at *; omega
            have hi6 : (i : Int) < 6 := by omega
            have hceq := cellEq_self 1 val
            clear hA ho hq hhd hokq hokp hsc hH' hcnt hO' hp hu hO2 hg hlv hlen hid hval htop hkl
            go_wp2_with fail
            refine HG.out.mono ?_; rintro e w6 ⟨rfl, hb6⟩
            have K6 := Lib.hid (HO2.out.below hb6)
            have hz6 := hb6.size
            rw [World.size_alloc] at hz6
            have Ru6 : rowAt (w6.alloc (.cells p.cs 41)) w5.heap.size = some u.cs := (rowAt_past _ _ _ (by omega)).trans ((rowAt_below hb6 (by simp)).trans Ru)
            have cu2 : (w6.alloc (.cells p.cs 41)).cell? ⟨w5.heap.size, 2, none⟩ = some (.int .i64 ((2 + k : Nat) : Int)) := by rw [cell_row Ru6 2, ← hu2]; rfl
            have cu3 : (w6.alloc (.cells p.cs 41)).cell? ⟨w5.heap.size, 3, none⟩ = some (.int .i64 (i : Int)) := by rw [cell_row Ru6 3, ← hu3]; rfl
            have Rp := rowAt_at w6 p.cs 41 _ rfl
            have cA := (cell_row Rp (4 + i * 2)).trans (cs_a p i hi)
            have cD := (cell_row Rp (4 + i * 2 + 1)).trans (cs_d p i hi)
            rw [pa] at cA
            rw [pd] at cD
            have cS : (w6.alloc (.cells p.cs 41)).cell? ⟨w6.heap.size, 2, none⟩ = some (.int .i64 1) := by rw [cell_row Rp 2, ← ps]; rfl
            have ki := cs_a p i hi
            have kd := cs_d p i hi
            rw [pa] at ki
            rw [pd] at kd
            have hu22 : w6.cell? ⟨w5.heap.size, 2, none⟩ = some (.int .i64 ((2 + k : Nat) : Int)) := by rw [cell_row ((rowAt_below hb6 (by simp)).trans Ru) 2, ← hu2]; rfl
            have hu33 : w6.cell? ⟨w5.heap.size, 3, none⟩ = some (.int .i64 (i : Int)) := by rw [cell_row ((rowAt_below hb6 (by simp)).trans Ru) 3, ← hu3]; rfl
            have e6 : decide (6 ≤ (i : Int)) = false := by simp; omega
            have HK7 := Lib.hid (K6.out.alloc (.cells p.cs 41))
            clear hb6
            go_wp2_with fail
            refine (HId.out _).mono ?_; rintro e w7 ⟨rfl, rfl⟩
            go_wp2_with fail
            go_roundw
            case rel =>
              obtain ⟨c1, c2⟩ := HCnt.out
              exact ⟨j + 1, by omega, by go_num, _, _, HK7.out, HH'.out, c1, c2⟩
            case measure => simp [intOf]; omega
          · exfalso
            rcases hbd.why with h | ⟨id, h⟩
            · have := lvC_full C (fun k hk => place_live (hbd.full k hk))
              omega
            · rw [place_fresh] at h; cases h
      · have K6 := Lib.hid hO.low
        clear hO hH
        go_wp2_with fail
        go_ret
        exact ⟨rfl, K6.out⟩
end Go.Proofs.Ythehglhbgplfhaa
