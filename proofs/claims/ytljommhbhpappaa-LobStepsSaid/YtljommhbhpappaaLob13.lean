/-
  Layer 17 (lob): the walk of LobSteps.
-/
import Derived.Test.YtljommhbhpappaaLob12
import Derived.Deep.DeepCutAuto
import Derived.Deep.CutBlock
import Derived.BigQuiet
import Derived.Deep.RegionWith
import Derived.Deep.QuietTactic
namespace Go.Proofs.Ytljommhbhpappaa
open Go.RowKit Go.Joins
set_option linter.unusedVariables false
set_option linter.unusedSimpArgs false

theorem LobAt.poked {w0 w w' : World} {b mb hb pb : Nat} {M : Mo} {q n : Nat} {c : Array Value} {t : TypeId} (h : LobAt w0 w b mb hb pb M q) (hn : w.heap[n]? = some (.cells c t)) (ht : t = 44) (h0 : w0.heap.size ≤ n) (hg : w.grownBy w' (some n)) : LobAt w0 w' b mb hb pb M q := by
  subst ht
  obtain ⟨g, ⟨S, F, h1, h2, h3⟩, h4⟩ := h
  obtain ⟨q1, q2, q3, q4⟩ := h1.st.lt
  have hs := h1.st
  obtain ⟨t1, ⟨es', c', t2, t3⟩, ⟨t4, t5, t6⟩, t7⟩ := h1.st
  have ne : ∀ {k : Nat} {o : Obj}, w.heap[k]? = some o → o ≠ .cells c 44 → k ≠ n := fun hk ho e => by
    rw [e, hn] at hk
    exact ho (Option.some.inj hk).symm
  have e1 := ne t1 (by intro e; injection e with _ e2; revert e2; decide)
  have e2 := ne t2 (by intro e; cases e)
  have e3 := ne t4 (by intro e; injection e with _ e2; revert e2; decide)
  have e4 := ne t5 (by intro e; injection e with _ e2; revert e2; decide)
  refine ⟨g, ⟨S, F, ⟨h1.low.grown hg h1.low.size (fun q hq => by cases hq; exact h0), ?_, h1.hi⟩, h2, h3⟩, h4⟩
  refine ⟨?_, ⟨es', c', ?_, t3⟩, ⟨?_, ?_, t6⟩, t7⟩
  · exact (hg.block b q1 (by simpa using e1)).trans t1
  · exact (hg.block mb q2 (by simpa using e2)).trans t2
  · exact (hg.block hb q3 (by simpa using e3)).trans t4
  · exact (hg.block pb q4 (by simpa using e4)).trans t5

theorem LobAt.small {w0 w : World} {b mb hb pb : Nat} {M : Mo} {q : Nat} (h : LobAt w0 w b mb hb pb M q) : ∀ n b, M n = some b → b.size ≤ 4096 := by
  obtain ⟨g, -, h4⟩ := h
  exact h4.small
theorem stepAt_kind {num : Int} {fr tt : List ByteArray} {i : Nat} {x : Stp} (h : x ∈ stepAt num fr tt i) : x.1 = 13 ∨ x.1 = 15 ∨ x.1 = 16 := by
  unfold stepAt at h
  split at h
  · obtain rfl : x = _ := by simpa using h
    exact .inr (.inr rfl)
  · split at h
    · obtain rfl : x = _ := by simpa using h
      exact .inl rfl
    · split at h
      · cases h
      · obtain rfl : x = _ := by simpa using h
        exact .inr (.inl rfl)
theorem opL_kind {M : Mo} {c : Ao} {x : Stp} (h : x ∈ opL M c) : x.1 = 13 ∨ x.1 = 15 ∨ x.1 = 16 := by
  unfold opL at h
  split at h
  · unfold stepsFull stepsTo at h
    obtain ⟨i, -, hi⟩ := List.mem_flatMap.1 h
    exact stepAt_kind hi
  · cases h
theorem key_num (key : ByteArray) (p : Nat) (hp : p < 256) (h : key = key4 9 p) (h2 : 2 < key.size) (h3 : 3 < key.size) : wrap64 (wrap64 (wrap64 (key[2].toNat : Int) * 256) + wrap64 (key[3].toNat : Int)) = (p : Int) := by
  subst h
  have e2 : ((key4 9 (p : Int))[2]'h2).toNat = 0 := by
    show (b8 ((p : Int) / 256 % 256)).toNat = 0
    simp only [b8, UInt8.toNat_ofNat']; omega
  have e3 : ((key4 9 (p : Int))[3]'h3).toNat = p := by
    show (b8 ((p : Int) % 256)).toNat = p
    simp only [b8, UInt8.toNat_ofNat']; omega
  rw [e2, e3]
  unfold wrap64
  omega
theorem key_num2 (key : ByteArray) (p : Nat) (hp : p < 256) (h : key = key4 9 p) (h2 : 2 < key.size) (h3 : 3 < key.size) : IntKind.i64.wrap (IntKind.i64.wrap (IntKind.i64.wrap (key[2].toNat : Int) * 256) + IntKind.i64.wrap (key[3].toNat : Int)) = (p : Int) := by
  subst h
  have e2 : ((key4 9 (p : Int))[2]'h2).toNat = 0 := by
    show (b8 ((p : Int) / 256 % 256)).toNat = 0
    simp only [b8, UInt8.toNat_ofNat']; omega
  have e3 : ((key4 9 (p : Int))[3]'h3).toNat = p := by
    show (b8 ((p : Int) % 256)).toNat = p
    simp only [b8, UInt8.toNat_ofNat']; omega
  rw [e2, e3, IntKind.wrap_i64, IntKind.wrap_i64, IntKind.wrap_i64, IntKind.wrap_i64]
  omega
theorem key4_pre (p : Int) : (key4 9 p).extract 0 2 = ⟨#[0, 9]⟩ := by
  apply ByteArray.ext
  rfl

set_option maxHeartbeats 4000000 in
set_option maxRecDepth 100000 in
theorem lsteps_walk (first : ByteArray) (k0 st0 : Int) (ky0 vl0 : ByteArray) (nu0 a0 l0 : Int) (w : World) (hfs : first.size ≤ maxLen) (hok : AoOk ⟨k0, st0, ky0, vl0, nu0, a0, l0⟩) :
    Calls Try.prog 5 #[.string first, .agg #[.int .i64 k0, .int .i64 st0, .string ky0, .string vl0, .int .i64 nu0, .int .i64 a0, .int .i64 l0]] w fun e w' => e = .returned (.bool true) ∧ Below w.heap.size w w' := by
  obtain ⟨c, ha⟩ : ∃ c : Ao, (Value.agg #[.int .i64 k0, .int .i64 st0, .string ky0, .string vl0, .int .i64 nu0, .int .i64 a0, .int .i64 l0]) = c.v := ⟨⟨k0, st0, ky0, vl0, nu0, a0, l0⟩, rfl⟩
  rw [ha]
  clear ha hok
  have HA := Lib.hid (fun w' => awake17 w')
  have HV := Lib.hid (fun w' => volume17 w')
  have B0 : Below w.heap.size w (w.alloc (.cells c.cs 44)) := (Below.refl _ _).alloc (Nat.le_refl _) _
  by_cases hl : first.size ≤ 64
  · have hl2 : decide ((64 : Int) < (first.size : Int)) = false := by simp; omega
    have R0 := Lib.hid (heap_alloc_new w (.cells c.cs 44))
    have HB0 := Lib.hid B0
    have hz0 : (w.alloc (.cells c.cs 44)).heap.size = w.heap.size + 1 := World.size_alloc ..
    clear B0
    go_enter Try.func5, Try.ntmps5
    go_wp2_with fail
    refine (HA.out _).mono ?_; rintro e w1 ⟨rfl, hb1⟩
    have B1 := Lib.hid (HB0.out.trans (hb1.mono HB0.out.size))
    have hz1 := hb1.size
    have R1 := Lib.hid ((hb1.block w.heap.size (by omega)).trans R0.out)
    clear hb1
    go_wp2_with fail
    refine (HV.out _).mono ?_; rintro e w2 ⟨b, mb, hb, pb, rfl, h2⟩
    have L2 := Lib.hid (volume_at B1.out h2)
    have hz2 := h2.low.size
    have R2 := Lib.hid ((h2.low.block w.heap.size (by omega)).trans R1.out)
    have hmb : w.heap.size ≠ mb := by have := h2.hi; omega
    have HN := op_new L2.out { kind := 18, num := 9 } rfl
    have E1 := opR_new (M := fun _ => none) (n := 9) (by omega) rfl
    rw [show (opR (fun _ => none) { kind := 18, num := 9 }).1 = 0 from by rw [E1]] at HN
    have HN1 := Lib.hid HN
    clear HN h2
    go_wp2_with fail
    refine HN1.out.mono ?_; rintro e w3 ⟨v3, rfl, hs3⟩
    have hz3 := hs3.1.size
    have R3 := Lib.hid ((hs3.1.block w.heap.size (by omega)).trans R2.out)
    obtain ⟨a3, cp3, rfl, l3, t3⟩ := StepsOut.at L2.out hs3
    have HL := land_op l3 _ (by rw [E1]) (by omega) a3 cp3 t3
    rw [E1] at HL
    have HL3 := Lib.hid HL
    clear HL hs3 l3 t3
    generalize (opL (fun _ => none) { kind := 18, num := 9 }).length = n3 at *
    go_wp2_with fail
    refine HL3.out.mono ?_; rintro e w4 ⟨rfl, l4, g4⟩
    have L4 : Hid (LobAt w w4 b mb hb pb (updO (fun _ => none) 9 (some ByteArray.empty)) 7) := Lib.hid l4
    have hz4 := g4.size
    have R4 := Lib.hid ((g4.block w.heap.size (by omega) (by simpa using hmb)).trans R3.out)
    generalize hM4 : updO (fun _ => none) 9 (some ByteArray.empty) = M4 at *
    have m4 : M4 9 = some ByteArray.empty := by rw [← hM4]; rfl
    have HW := op_write L4.out { kind := 21, num := 9, pos := 0, val := first } rfl
    have E2 := opR_behind (M := M4) (n := 9) (x := ByteArray.empty) (p := first) (by omega) m4 hl (by simp; omega)
    rw [show ((ByteArray.empty.size : Nat) : Int) = 0 from rfl, show ByteArray.empty ++ first = first from by simp] at E2
    rw [E2] at HW
    have HW4 := Lib.hid HW
    clear HW l4 g4
    go_wp2_with fail
    refine HW4.out.mono ?_; rintro e w5 ⟨v5, rfl, hs5⟩
    have hz5 := hs5.1.size
    have R5 := Lib.hid ((hs5.1.block w.heap.size (by omega)).trans R4.out)
    obtain ⟨a5, cp5, rfl, l5, t5⟩ := StepsOut.at L4.out hs5
    have HL := land_op l5 _ (by rw [E2]) (by omega) a5 cp5 t5
    rw [E2] at HL
    have HL5 := Lib.hid HL
    clear HL hs5 l5 t5
    generalize (opL M4 { kind := 21, num := 9, pos := 0, val := first }).length = n5 at *
    go_wp2_with fail
    refine HL5.out.mono ?_; rintro e w6 ⟨rfl, l6, g6⟩
    have L6 : Hid (LobAt w w6 b mb hb pb (updO M4 9 (some first)) 11) := Lib.hid l6
    have hz6 := g6.size
    have R6 := Lib.hid ((g6.block w.heap.size (by omega) (by simpa using hmb)).trans R5.out)
    generalize hM6 : updO M4 9 (some first) = M6 at *
    have m6 : M6 9 = some first := by rw [← hM6]; rfl
    have r6 := R6.out
    have c64 : w6.cell? ⟨w.heap.size, 4, none⟩ = some (.int .i64 c.num) := cell_row (rowAt_of r6) 4
    have f64 : w6.frozen? ⟨w.heap.size, 4, none⟩ = false := by simp [World.frozen?, r6]
    obtain ⟨n, hn⟩ : ∃ n, w.heap.size = n := ⟨_, rfl⟩
    have hnw : w.heap.size ≤ n := by omega
    have hn6 : n < w6.heap.size := by omega
    rw [hn] at r6 c64 f64 ⊢
    have G9 := grown_setCell w6 n 4 (.int .i64 9)
    have L9 := Lib.hid (L6.out.poked r6 rfl hnw G9)
    have r9 := setCell_block r6 4 (.int .i64 9)
    have q9 : rowAt (w6.setCell ⟨n, 4, none⟩ (.int .i64 9)) n = some (({ c with num := 9 } : Ao).cs) := rowAt_of r9
    have c90 : (w6.setCell ⟨n, 4, none⟩ (.int .i64 9)).cell? ⟨n, 0, none⟩ = some (.int .i64 c.kind) := cell_row q9 0
    have z9 := G9.size
    have f90 : (w6.setCell ⟨n, 4, none⟩ (.int .i64 9)).frozen? ⟨n, 0, none⟩ = false := by simp [World.frozen?, r9]
    have G10 := grown_setCell (w6.setCell ⟨n, 4, none⟩ (.int .i64 9)) n 0 (.int .i64 21)
    have L10 := Lib.hid (L9.out.poked r9 rfl hnw G10)
    have q10 : rowAt ((w6.setCell ⟨n, 4, none⟩ (.int .i64 9)).setCell ⟨n, 0, none⟩ (.int .i64 21)) n = some (({ c with num := 9, kind := 21 } : Ao).cs) := rowAt_of (setCell_block r9 0 (.int .i64 21))
    have z10 := G10.size
    have Q9 := Lib.hid q9
    have Q10 := Lib.hid q10
    clear l6 hM6 hM4 E1 E2 g6 r6 G9 G10 r9 q9 q10
    go_upto_block 0 with fail
    go_cut [58] (fun s58 wc => ∃ kd, (kd = 21 ∨ kd = 22 ∨ kd = 23) ∧ rowAt wc n = some (({ c with num := 9, kind := kd } : Ao).cs) ∧ LobAt w wc b mb hb pb M6 11 ∧ n < wc.heap.size)
    case first =>
      by_cases k1 : c.kind = 21
      · go_wp2_with fail
        go_meet
        exact ⟨21, .inl rfl, by rw [← k1]; exact Q9.out, L9.out, by omega⟩
      by_cases k2 : c.kind = 22
      · go_wp2_with fail
        go_meet
        exact ⟨22, .inr (.inl rfl), by rw [← k2]; exact Q9.out, L9.out, by omega⟩
      by_cases k3 : c.kind = 23
      · go_wp2_with fail
        go_meet
        exact ⟨23, .inr (.inr rfl), by rw [← k3]; exact Q9.out, L9.out, by omega⟩
      · go_wp2_with fail
        go_meet
        exact ⟨21, .inl rfl, Q10.out, L10.out, by omega⟩
    case rest =>
      obtain ⟨kd, hkd, q11, l11, hnc⟩ := hcut
      obtain ⟨wx, rfl⟩ : ∃ wx : World, wx = wc := ⟨_, rfl⟩
      obtain ⟨c', hc'⟩ : ∃ c' : Ao, ({ c with num := 9, kind := kd } : Ao) = c' := ⟨_, rfl⟩
      have hnum : c'.num = 9 := by rw [← hc']
      rw [hc'] at q11
      have hlv := load_aoVar q11
      have HS := Lib.hid (steps17 l11 c')
      have L11 := Lib.hid l11
      clear l11 q11 hc' hkd Q9 Q10 L9 L10 z9 z10 c90 c64
      go_wp2_with fail
      refine HS.out.mono ?_; rintro e w12 ⟨v12, rfl, hs12⟩
      obtain ⟨a12, cp12, rfl, l12, t12⟩ := StepsOut.at L11.out hs12
      by_cases e0 : (opR M6 c').1 = 0
      · obtain ⟨P, hP⟩ := opL_of M6 c' L11.out.small
        rw [hnum] at hP
        have HLd := Lib.hid (fun w' (h : LobAt w w' b mb hb pb M6 11) ht => land_op h c' e0 (by omega) a12 cp12 ht)
        have T12 := Lib.hid t12
        have L12 := Lib.hid l12
        have HP := Lib.hid hP
        have hPl := hP.len
        have hLb := opL_len (c := c') L11.out.small
        have HKd := Lib.hid (fun x (h : x ∈ opL M6 c') => opL_kind h)
        rw [e0]
        clear hs12 l12 t12 hP e0 HS
        generalize opL M6 c' = L at *
        have hlL : L.length = P.length := hPl
        go_wp2_with fail
        go_loopw [9, 75] (fun la v wr => ∃ (k : Nat) (lst : Int), k ≤ L.length ∧ v = .int .i64 k ∧ la = .int .i64 lst ∧ -1 ≤ lst ∧ (∀ (i : Nat) (h : i < P.length), k ≤ i → lst < (P[i] : Int)) ∧ Below w12.heap.size w12 wr) (fun _ v _ => L.length - (intOf v).toNat)
        case atStart => exact ⟨0, -1, by omega, rfl, rfl, by omega, fun i h _ => by omega, Below.refl _ _⟩
        case round =>
          obtain ⟨k, lst, hk', rfl, rfl, hl1, hls, hbw⟩ := hrel
          obtain ⟨wo, rfl⟩ : ∃ wo : World, wo = wr := ⟨_, rfl⟩
          have hz := hbw.size
          by_cases hlt : k < L.length
          · obtain ⟨nb, hvp, hnb, hnm, hrow⟩ := (T12.out.below hbw).resolve_left (by omega)
            subst hvp
            have hld := load_stpIn (hrow k hlt)
            have hkey := HP.out.key k hlt (by omega)
            obtain ⟨hv16, hve⟩ := HP.out.val _ (List.getElem_mem hlt)
            have hp256 := HP.out.lt _ (List.getElem_mem (by omega : k < P.length))
            have hlsk := hls k (by omega) (Nat.le_refl _)
            have hup : ∀ (i : Nat) (h : i < P.length), k + 1 ≤ i → (P[k] : Int) < (P[i] : Int) := fun i h hki => by
              have := List.pairwise_iff_getElem.1 HP.out.up k i (by omega) h (by omega)
              omega
            have hkd := HKd.out _ (List.getElem_mem hlt)
            generalize L[k] = x at *
            obtain ⟨kind, key, val⟩ := x
            simp only at hkey hv16 hve hkd
            obtain ⟨pk, hpk⟩ : ∃ pk, P[k] = pk := ⟨_, rfl⟩
            simp only [hpk] at hup hkey hlsk hp256
            clear hpk
            have hpre : key.extract 0 2 = ⟨#[0, 9]⟩ := by rw [hkey]; exact key4_pre _
            have hsz4 : key.size = 4 := by rw [hkey]; rfl
            have HKe := Lib.hid hkey
            have B1 : Below wo.heap.size wo (wo.alloc (.cells (stpCs (kind, key, val)) 47)) := (Below.refl _ _).alloc (Nat.le_refl _) _
            have BW := Lib.hid (hbw.trans (B1.mono hz))
            have R1 := rowAt_at wo (stpCs (kind, key, val)) 47 _ rfl
            have c0 := (cell_row R1 0).trans (show _ = some (.int .i64 kind) from rfl)
            have c1 := (cell_row R1 1).trans (show _ = some (.string key) from rfl)
            have c2 := (cell_row R1 2).trans (show _ = some (.string val) from rfl)
            have HK0 := lkey_any 9 0
            have hpre0 := key4_pre 0
            have hsz0 : (key4 9 0).size = 4 := rfl
            generalize key4 9 0 = k90 at *
            have HK := Lib.hid HK0
            have hvi : decide ((16 : Int) < (val.size : Int)) = false := by simp; omega
            clear hrow hbw B1 hkey HK0 R1 hls
            go_wp2_with fail
            have hsne : ¬ (⟨#[0, 9]⟩ : ByteArray) ≠ ⟨#[0, 9]⟩ := by simp
            obtain ⟨wy, hwy⟩ : ∃ wy : World, (wo.alloc (.cells (stpCs (kind, key, val)) 47)) = wy := ⟨_, rfl⟩
            have hny : wo.heap.size < wy.heap.size := by rw [← hwy, World.size_alloc]; omega
            rw [hwy] at c0 c1 c2 BW ⊢
            clear hwy
            rcases hkd with k13 | k15 | k16
            · subst k13
              first
                | (go_region_with (go_at_call 15; refine (HK.out _).mono ?_; rintro e w3 ⟨rfl, hb3⟩; have d0 := (hb3.cell (p := ⟨wo.heap.size, 0, none⟩) hny).trans c0; have d1 := (hb3.cell (p := ⟨wo.heap.size, 1, none⟩) hny).trans c1; have d2 := (hb3.cell (p := ⟨wo.heap.size, 2, none⟩) hny).trans c2))
                | fail
              all_goals
                have d1 := (hb3.cell (p := ⟨wo.heap.size, 1, none⟩) hny).trans c1
                have B3 : Hid (Below w12.heap.size w12 w3) := Lib.hid (by first | exact BW.out.trans (hb3.mono BW.out.size) | exact BW.out.drew.trans (hb3.mono BW.out.size))
                clear hb3 c0 c1 c2
                go_wp2_with fail
                go_quiet (fail)
                first | rw [key_num key pk hp256 HKe.out (by omega) (by omega)] | rw [key_num2 key pk hp256 HKe.out (by omega) (by omega)]
                have hle : decide ((pk : Int) ≤ lst) = false := by simp; omega
                go_wp2_with fail
                first
                  | exact ⟨⟨k + 1, pk, by omega, by go_num, rfl, by omega, hup, below_drewN B3.out _⟩, by simp [intOf]; omega⟩
                  | (go_roundw; case rel => exact ⟨k + 1, pk, by omega, by go_num, rfl, by omega, hup, below_drewN B3.out _⟩; case measure => simp [intOf]; omega)
            · subst k15
              first
                | (go_region_with (go_at_call 15; refine (HK.out _).mono ?_; rintro e w3 ⟨rfl, hb3⟩; have d0 := (hb3.cell (p := ⟨wo.heap.size, 0, none⟩) hny).trans c0; have d1 := (hb3.cell (p := ⟨wo.heap.size, 1, none⟩) hny).trans c1; have d2 := (hb3.cell (p := ⟨wo.heap.size, 2, none⟩) hny).trans c2))
                | fail
              all_goals
                have d1 := (hb3.cell (p := ⟨wo.heap.size, 1, none⟩) hny).trans c1
                have B3 : Hid (Below w12.heap.size w12 w3) := Lib.hid (by first | exact BW.out.trans (hb3.mono BW.out.size) | exact BW.out.drew.trans (hb3.mono BW.out.size))
                clear hb3 c0 c1 c2
                go_wp2_with fail
                go_quiet (fail)
                first | rw [key_num key pk hp256 HKe.out (by omega) (by omega)] | rw [key_num2 key pk hp256 HKe.out (by omega) (by omega)]
                have hle : decide ((pk : Int) ≤ lst) = false := by simp; omega
                go_wp2_with fail
                first
                  | exact ⟨⟨k + 1, pk, by omega, by go_num, rfl, by omega, hup, below_drewN B3.out _⟩, by simp [intOf]; omega⟩
                  | (go_roundw; case rel => exact ⟨k + 1, pk, by omega, by go_num, rfl, by omega, hup, below_drewN B3.out _⟩; case measure => simp [intOf]; omega)
            · subst k16
              have hval := hve rfl
              subst hval
              go_region_held3 (fun W => W.cell? ⟨wo.heap.size, 0, none⟩ = some (.int .i64 16) ∧ W.cell? ⟨wo.heap.size, 1, none⟩ = some (.string key) ∧ W.cell? ⟨wo.heap.size, 2, none⟩ = some (.string ByteArray.empty))
                (first | exact ⟨c0, c1, c2⟩ | exact ⟨(hb3.cell (p := ⟨wo.heap.size, 0, none⟩) hny).trans c0, (hb3.cell (p := ⟨wo.heap.size, 1, none⟩) hny).trans c1, (hb3.cell (p := ⟨wo.heap.size, 2, none⟩) hny).trans c2⟩)
                (first
                  | ((go_at_call 15; refine (HK.out _).mono ?_; rintro e w3 ⟨rfl, hb3⟩)))
              all_goals
                have d1 := (hb3.cell (p := ⟨wo.heap.size, 1, none⟩) hny).trans c1
                have B3 : Hid (Below w12.heap.size w12 w3) := Lib.hid (by first | exact BW.out.trans (hb3.mono BW.out.size) | exact BW.out.drew.trans (hb3.mono BW.out.size))
                clear hb3 c0 c1 c2
                go_wp2_with fail
                go_quiet (fail)
                first | rw [key_num key pk hp256 HKe.out (by omega) (by omega)] | rw [key_num2 key pk hp256 HKe.out (by omega) (by omega)]
                have hle : decide ((pk : Int) ≤ lst) = false := by simp; omega
                go_wp2_with fail
                first
                  | exact ⟨⟨k + 1, pk, by omega, by go_num, rfl, by omega, hup, below_drewN B3.out _⟩, by simp [intOf]; omega⟩
                  | (go_roundw; case rel => exact ⟨k + 1, pk, by omega, by go_num, rfl, by omega, hup, below_drewN B3.out _⟩; case measure => simp [intOf]; omega)
          · have hke : k = L.length := by omega
            have HL := Lib.hid (HLd.out _ (L12.out.below hbw) (T12.out.below hbw))
            clear hbw hls hke
            rw [hlL] at HL
            go_wp2_with fail
            refine HL.out.mono ?_; rintro e w13 ⟨rfl, l13, -⟩
            have L13 := Lib.hid l13.low
            clear l13
            go_wp2_with fail
            go_ret
            exact ⟨rfl, L13.out⟩
      · have hL0 : opL M6 c' = [] := if_neg e0
        have L12 := Lib.hid l12.low
        rw [hL0]
        generalize (opR M6 c').1 = er at *
        clear hs12 l12 t12 HS
        go_wp2_with fail
        go_ret
        exact ⟨by simp, L12.out⟩
  · have hl2 : decide ((64 : Int) < (first.size : Int)) = true := by simp; omega
    have HB0 := Lib.hid B0
    clear B0
    go_enter Try.func5, Try.ntmps5
    go_wp2_with fail
    refine (HA.out _).mono ?_; rintro e w1 ⟨rfl, hb1⟩
    have B1 := Lib.hid (HB0.out.trans (hb1.mono HB0.out.size))
    clear hb1
    go_wp2_with fail
    refine (HV.out _).mono ?_; rintro e w2 ⟨b, mb, hb, pb, rfl, h2⟩
    have L2 := Lib.hid (B1.out.trans (h2.low.mono B1.out.size))
    clear h2
    go_wp2_with fail
    go_ret
    exact ⟨rfl, L2.out⟩
end Go.Proofs.Ytljommhbhpappaa
