/-
  Layer 13 (stage): the walk of StageRuns.
-/
import Derived.Test.YthehglhbgplfhaaRuns1b
namespace Go.Proofs.Ythehglhbgplfhaa
open Go.RowKit Go.Joins
set_option linter.unusedVariables false
set_option linter.unusedSimpArgs false

theorem first_bad (l : List Pg) (P : List (Int × Pg)) : (∀ x ∈ P, shelfE l x.1 = 0) ∨ ∃ j0, ∃ h : j0 < P.length, (∀ i, i < j0 → ∀ h : i < P.length, shelfE l P[i].1 = 0) ∧ shelfE l P[j0].1 = 1 := by
  induction P with
  | nil => exact .inl (by simp)
  | cons x r ih =>
    by_cases hx : shelfE l x.1 = 0
    · rcases ih with h | ⟨j, hj, h1, h2⟩
      · exact .inl fun y hy => by
          rcases List.mem_cons.1 hy with rfl | hy
          · exact hx
          · exact h y hy
      · refine .inr ⟨j + 1, by simpa using hj, fun i hi hil => ?_, by simpa using h2⟩
        cases i with
        | zero => exact hx
        | succ i => simpa using h1 i (by omega) (by simpa using hil)
    · refine .inr ⟨0, by simp, fun i hi => by omega, ?_⟩
      have : shelfE l x.1 = 1 := by
        unfold shelfE at hx ⊢
        split at hx
        · exact absurd rfl hx
        · rename_i h; rw [if_neg h]
      exact this

set_option maxHeartbeats 2000000 in
set_option maxRecDepth 100000 in
theorem runs_bad (n : Int) (h : n < 1 ∨ 1024 < n) (v : Value) (w : World) :
    Calls Try.prog 7 #[.int .i64 n, v] w fun e w' => e = .returned (.bool true) ∧ Below w.heap.size w w' := by
  have HA := Lib.hid (fun (w' : World) => awake13 w')
  have HM := Lib.hid (fun (w' : World) => memory_bad n h w')
  by_cases h1 : n < 1
  · clear h
    go_enter Try.func7, Try.ntmps7
    go_wp2_with fail
    refine (HA.out _).mono ?_; rintro e w0 ⟨rfl, hb0⟩
    have K0 := Lib.hid hb0
    clear hb0
    go_wp2_with fail
    refine (HM.out _).mono ?_; rintro e w1 ⟨rfl, rfl⟩
    go_wp2_with fail
    go_ret
    exact ⟨rfl, K0.out⟩
  · have h2 : 1024 < n := by omega
    clear h
    go_enter Try.func7, Try.ntmps7
    go_wp2_with fail
    refine (HA.out _).mono ?_; rintro e w0 ⟨rfl, hb0⟩
    have K0 := Lib.hid hb0
    clear hb0
    go_wp2_with fail
    refine (HM.out _).mono ?_; rintro e w1 ⟨rfl, rfl⟩
    go_wp2_with fail
    go_ret
    exact ⟨rfl, K0.out⟩

set_option maxHeartbeats 4000000 in
set_option maxRecDepth 100000 in
theorem runs_good (n : Nat) (h1 : 1 ≤ n) (hn : n ≤ 1024) (vu : Option Addr) (lu cu : Nat) (U : List CallV) (w : World) (hU : CallsIn w vu lu U) :
    Calls Try.prog 7 #[.int .i64 n, .slice vu lu cu] w fun e w' => e = .returned (.bool true) ∧ Below w.heap.size w w' := by
  have HA := Lib.hid (fun (w' : World) => awake13 w')
  have HM := Lib.hid (fun (w' : World) => memory_ok n h1 hn w')
  have HN := Lib.hid (fun hb pb l w' h => new_any hb pb l w' h)
  have HMk := Lib.hid (fun w' => run_makePages n hn w')
  have HU := Lib.hid hU
  have lu1 := hU.1
  have UL := hU.2.1
  have c1 : (1 : Int) ≤ (n : Int) := by omega
  have c2 : (n : Int) ≤ 1024 := by omega
  clear hU
  go_enter Try.func7, Try.ntmps7
  go_wp2_with fail
  refine (HA.out _).mono ?_; rintro e w0 ⟨rfl, hb0⟩
  have K0 := Lib.hid hb0
  have hz0 := hb0.size
  clear hb0
  go_wp2_with fail
  refine (HM.out _).mono ?_; rintro e w1 ⟨hb, pb, rfl, hb1, q1, q2, hs1⟩
  have K1 : Hid (Below w.heap.size w w1) := Lib.hid (K0.out.trans (hb1.mono hz0))
  have KS := Lib.hid hs1
  have hz1 := hb1.size
  have l1 := (Array.getElem?_eq_some_iff.1 hs1.1).1
  have l2 := (Array.getElem?_eq_some_iff.1 hs1.2.1).1
  have hmk := HMk.out w1
  clear hb1 hs1
  go_wp2_with fail
  have B2 := ((Below.refl w1.heap.size w1).alloc (Nat.le_refl _) (.cells (rowsC (List.replicate n Pg.zero)).toArray 41)).alloc (by simp) (.cells #[.slice (some ⟨w1.heap.size, 0, none⟩) n n] 61)
  refine (HN.out hb pb _ _ (KS.out.below B2 l1 l2)).mono ?_; rintro e w3 ⟨b, mb, rfl, hb3, g1, g2, hst⟩
  have hz3 := hb3.size
  simp only [World.size_alloc] at hz3 g1 g2
  have hkp : w3.heap[w1.heap.size]? = some (.cells (rowsC (List.replicate n Pg.zero)).toArray 41) := by
    rw [hb3.block w1.heap.size (by simp; omega), Below.heap_alloc _ _ _ (by simp), heap_alloc_new]
  have hkb : w3.heap[w1.heap.size + 1]? = some (.cells #[.slice (some ⟨w1.heap.size, 0, none⟩) n n] 61) := by
    rw [hb3.block (w1.heap.size + 1) (by simp)]
    have := heap_alloc_new (w1.alloc (.cells (rowsC (List.replicate n Pg.zero)).toArray 41)) (.cells #[.slice (some ⟨w1.heap.size, 0, none⟩) n n] 61)
    rw [World.size_alloc] at this
    exact this
  have B3 : Below w.heap.size w w3 := (K1.out.trans ((B2.trans (hb3.mono (by simp; omega))).mono (by omega)))
  have hB := Below.alloc (Below.refl w3.heap.size w3) (Nat.le_refl _) (.cells #[.pointer (some ⟨w1.heap.size + 1, 0, none⟩), .slice none 0 0] 64)
  have HT : Hid (RunAt w (w3.alloc (.cells #[.pointer (some ⟨w1.heap.size + 1, 0, none⟩), .slice none 0 0] 64)) n b mb hb pb w3.heap.size (w1.heap.size + 1) w1.heap.size) := by
    refine Lib.hid ⟨⟨List.replicate n Pg.zero, []⟩, .slice none 0 0, w.heap.size, [], ⟨hst.below hB hst.lt, ⟨⟨?_, ?_, ?_, ?_⟩, ?_, World.ownsRow_nil _ _ _ _⟩, B3.alloc (by have := B3.size; omega) _, ⟨by omega, by omega⟩, ⟨by have := B3.size; omega, by omega⟩, by omega⟩, Sync.nil _, by simp, Nat.le_refl _⟩
    · rw [List.length_replicate]; exact (Below.heap_alloc _ _ _ (by omega)).trans hkb
    · exact (Below.heap_alloc _ _ _ (by omega)).trans hkp
    · simp; omega
    · simp; omega
    · exact heap_alloc_new _ _
  obtain ⟨kb, hkbe⟩ : ∃ kb, kb = w1.heap.size + 1 := ⟨_, rfl⟩
  clear hb3 hst hkp hkb B2 hB hmk
  have HB3 := Lib.hid B3
  clear B3
  go_wp2_with fail
  go_loopw [59] (fun i wr => ∃ k : Nat, k ≤ lu ∧ i = .int .i64 k ∧ RunAt w wr n b mb hb pb w3.heap.size (w1.heap.size + 1) w1.heap.size) (fun i _ => lu - (intOf i).toNat)
  case atStart => exact ⟨0, by omega, rfl, HT.out⟩
  case round =>
    obtain ⟨k, hk, rfl, S, v, B, P, hT, hSy, hlen, hBB⟩ := hrel
    have HT := Lib.hid hT
    have HSy := Lib.hid hSy
    by_cases hlt : k < lu
    · have hbl := hT.low
      have hzr := hbl.size
      have hUk := HU.out.below hbl
      obtain ⟨rb, ro, hvp, hrb, hrow⟩ := hUk.2.2.resolve_left (by omega)
      subst hvp
      have hld := load_callIn (hrow k (by omega))
      generalize U[k] = x at *
      obtain ⟨kind, id, p⟩ := x
      have hR := rowAt_at wr (CallV.cs ⟨kind, id, p⟩) 66 _ rfl
      have hlp := load_callPage hR
      simp only at hlp
      have T1 := Lib.hid (HT.out.alloc (.cells (CallV.cs ⟨kind, id, p⟩) 66))
      clear hT hSy hbl hUk hrow hrb
      by_cases k0 : kind = 0
      · subst k0
        have HC := Lib.hid (get_any S b mb hb pb id _ T1.out.real)
        obtain ⟨q, hq⟩ : ∃ q, stPg S id = q := ⟨_, rfl⟩
        obtain ⟨f, hf⟩ : ∃ f, stE S id = f := ⟨_, rfl⟩
        rw [hq, hf] at HC
        go_wp2_with fail
        refine HC.out.mono ?_; rintro e w4 ⟨rfl, hb4⟩
        have hz4 := hb4.size
        rw [World.size_alloc] at hz4
        have T4 := Lib.hid ((T1.out.below hb4).alloc (.cells q.cs 41))
        have hR4 := (rowAt_past w4 (.cells q.cs 41) _ (by omega)).trans ((rowAt_below hb4 (by simp)).trans hR)
        have ci4 : (w4.alloc (.cells q.cs 41)).cell? ⟨wr.heap.size, 1, none⟩ = some (.int .i64 id) := (cell_row hR4 1).trans rfl
        have hg := HSy.out.get id
        have hc := rstage_get _ _ _ _ _ _ _ id _ T4.out.ref HSy.out.len
        rw [hg.1, hg.2, hq, hf] at hc
        have HC2 := Lib.hid hc
        clear hb4 hc hg hq hf
        go_wp2_with fail
        refine HC2.out.mono ?_; rintro e w5 ⟨rfl, hb5⟩
        have hz5 := hb5.size
        rw [World.size_alloc] at hz5
        have T5 := Lib.hid ((T4.out.below hb5).alloc (.cells q.cs 41))
        have hR5 := (rowAt_below hb5 (by simp)).trans (rowAt_at w4 q.cs 41 _ rfl)
        have hpe := pgEq_self q
        have hlt5 : w4.heap.size < w5.heap.size := by omega
        clear hb5
        go_wp2_with fail
        go_roundw
        case rel => exact ⟨k + 1, by omega, by go_num, S, v, B, P, T5.out, HSy.out, hlen, hBB⟩
        case measure => simp [intOf]; omega
      by_cases k1 : kind = 1
      · subst k1
        clear k0
        have hlenP := HSy.out.len
        have TD := Lib.hid T1.out.drew
        have hBD : (wr.alloc (.cells (CallV.cs ⟨1, id, p⟩) 66)).drew.heap[wr.heap.size]? = some (.cells (CallV.cs ⟨1, id, p⟩) 66) := heap_alloc_new _ _
        have HR := Lib.hid (fun (w' : World) (v : Value) (B : Nat) (P : List (Int × Pg)) (h : Twin w w' b mb hb pb S w3.heap.size (w1.heap.size + 1) w1.heap.size S.base v B P) => set_real id p h)
        have HF := Lib.hid (fun (w' : World) (S' : Vol) (h : Twin w w' b mb hb pb S' w3.heap.size (w1.heap.size + 1) w1.heap.size S.base v B P) => set_ref id p hlenP hBB h)
        obtain ⟨hk1, hk2⟩ := call_cells hBD
        go_wp2_with fail
        go_region_held3 (fun w' => w'.cell? ⟨wr.heap.size, 1, none⟩ = some (.int .i64 id) ∧ (loadPg (.pointer (some ⟨wr.heap.size, 2, none⟩))).run Try.prog w' = .ok p.v w')
          (first
            | exact ⟨hk1, hk2⟩
            | exact call_cells hcF
            | exact call_cells hcA)
          (first
            | ((go_at_call 21; refine (HR.out _ _ _ _ TD.out).mono ?_; rintro e wa ⟨rfl, ta, ka⟩; have TA := Lib.hid ta; have hcA := ka _ _ hBD))
            | ((go_at_call 27; refine (HF.out _ _ TD.out).mono ?_; rintro e wa ⟨rfl, ⟨v', B', ta, hBB'⟩, ka⟩; have TB := Lib.hid ta; have hcA := ka _ _ hBD))
            | ((go_at_call 21; refine (HR.out _ _ _ _ TB.out).mono ?_; rintro e wf ⟨rfl, tf, kf⟩; have TF := Lib.hid tf; have hcF := kf _ _ hcA))
            | ((go_at_call 27; refine (HF.out _ _ TA.out).mono ?_; rintro e wf ⟨rfl, ⟨v', B', tf, hBB'⟩, kf⟩; have TF := Lib.hid tf; have hcF := kf _ _ hcA)))
        all_goals
          clear hcA hcF hk1 hk2 hBD ta ka tf kf
          go_wp2_with fail
          go_roundw
          case rel => exact ⟨k + 1, by omega, by go_num, run_put TF.out HSy.out hlen hBB'⟩
          case measure => simp [intOf]; omega
      by_cases k2 : kind = 2
      · subst k2
        clear k0 k1
        have hlenP := HSy.out.len
        have hkl : S.keys.length = P.length := by rw [HSy.out.keys, List.length_map]
        rcases first_bad S.base P with hall | ⟨j0, hj0, hgd, hbd⟩
        · have hbase : ∀ x ∈ S.M, shelfE S.base x.1 = 0 := fun x hx => by
            obtain ⟨y, hy, e⟩ := List.mem_map.1 ((HSy.out.mem x.1).1 (List.mem_map.2 ⟨x, hx, rfl⟩))
            rw [← e]; exact hall y hy
          have hc := images_ok S b mb hb pb _ T1.out.real HSy.out.ok hbase
          rw [HSy.out.imgs] at hc
          have HC := Lib.hid hc
          have HAll := Lib.hid hall
          clear hc hall hbase
          go_wp2_with fail
          refine HC.out.mono ?_; rintro e w4 ⟨v1, rfl, hb4, ho4⟩
          have T4 := Lib.hid (T1.out.below hb4)
          have HC2 := Lib.hid (rimages_any _ _ _ _ _ _ P _ T4.out.ref hlenP P.length (Nat.le_refl _) (fun i _ h => HAll.out _ (List.getElem_mem h)) (fun h => absurd h (by omega)))
          have HO4 := Lib.hid ho4
          clear ho4
          go_wp2_with fail
          refine HC2.out.mono ?_; rintro e w5 ⟨hb5, -, hr5⟩
          obtain ⟨v2, rfl, ho5⟩ := hr5 (by first | rfl | trivial)
          have hz4 := hb4.size
          have hz5 := hb5.size
          rw [World.size_alloc] at hz4
          have hR5 := (rowAt_below hb5 (by omega)).trans ((rowAt_below hb4 (by simp)).trans hR)
          have T5 := Lib.hid (T4.out.below hb5)
          have hil : (rimgs S.base P).length ≤ P.length := List.length_filter_le _ _
          have HC3 := Lib.hid (same_ok _ _ v1 v2 (rimgs S.base P) w5 (own_low HO4.out hb5) ho5 (by omega))
          clear hb4 hb5 ho5 hr5
          go_wp2_with fail
          refine HC3.out.mono ?_; rintro e w6 ⟨rfl, hb6⟩
          have T6 := Lib.hid (T5.out.below hb6)
          have hR6 := (rowAt_below hb6 (by omega)).trans hR5
          have ck6 : w6.cell? ⟨wr.heap.size, 0, none⟩ = some (.int .i64 2) := (cell_row hR6 0).trans rfl
          clear hb6
          go_wp2_with fail
          go_roundw
          case rel => exact ⟨k + 1, by omega, by go_num, S, v, B, P, T6.out, HSy.out, hlen, hBB⟩
          case measure => simp [intOf]; omega
        · have hk : ∀ i (h : i < S.keys.length) (h' : i < P.length), S.keys[i] = P[i].1 := by
            intro i h h'; simp [HSy.out.keys]
          have HC := Lib.hid (images_bad S b mb hb pb _ T1.out.real HSy.out.ok j0 (by omega) (fun i hi h => by rw [hk i h (by omega)]; exact hgd i hi _) (fun h => by rw [hk j0 h hj0]; exact hbd))
          have HGd := Lib.hid hgd
          have HBd := Lib.hid hbd
          clear hk hgd hbd
          go_wp2_with fail
          refine HC.out.mono ?_; rintro e w4 ⟨rfl, hb4⟩
          have T4 := Lib.hid (T1.out.below hb4)
          have HC2 := Lib.hid (rimages_any _ _ _ _ _ _ P _ T4.out.ref hlenP j0 (by omega) HGd.out (fun _ => HBd.out))
          go_wp2_with fail
          refine HC2.out.mono ?_; rintro e w5 ⟨hb5, hr5, -⟩
          have he5 := hr5 hj0
          subst he5
          have T5 := Lib.hid (T4.out.below hb5)
          have hz4 := hb4.size
          have hz5 := hb5.size
          rw [World.size_alloc] at hz4
          have hR5 := (rowAt_below hb5 (by omega)).trans ((rowAt_below hb4 (by simp)).trans hR)
          have HC3 := Lib.hid (same_ok 0 0 (.slice none 0 0) (.slice none 0 0) [] w5 (World.ownsRow_nil _ _ _ _) (World.ownsRow_nil _ _ _ _) (by simp))
          clear hb4 hb5 hr5
          go_wp2_with fail
          refine HC3.out.mono ?_; rintro e w6 ⟨rfl, hb6⟩
          have T6 := Lib.hid (T5.out.below hb6)
          have hR6 := (rowAt_below hb6 (by omega)).trans hR5
          have ck6 : w6.cell? ⟨wr.heap.size, 0, none⟩ = some (.int .i64 2) := (cell_row hR6 0).trans rfl
          clear hb6
          go_wp2_with fail
          go_roundw
          case rel => exact ⟨k + 1, by omega, by go_num, S, v, B, P, T6.out, HSy.out, hlen, hBB⟩
          case measure => simp [intOf]; omega
      by_cases k4 : kind = 4
      · subst k4
        clear k0 k1 k2
        have hlenP := HSy.out.len
        have hkl : S.keys.length = P.length := by rw [HSy.out.keys, List.length_map]
        rcases first_bad S.base P with hall | ⟨j0, hj0, hgd, hbd⟩
        · have hbase : ∀ x ∈ S.M, shelfE S.base x.1 = 0 := fun x hx => by
            obtain ⟨y, hy, e⟩ := List.mem_map.1 ((HSy.out.mem x.1).1 (List.mem_map.2 ⟨x, hx, rfl⟩))
            rw [← e]; exact hall y hy
          have hc := images_ok S b mb hb pb _ T1.out.real HSy.out.ok hbase
          rw [HSy.out.imgs] at hc
          have HC := Lib.hid hc
          have HAll := Lib.hid hall
          clear hc hall hbase
          go_wp2_with fail
          refine HC.out.mono ?_; rintro e w4 ⟨v1, rfl, hb4, ho4⟩
          have T4 := Lib.hid (T1.out.below hb4)
          have HC2 := Lib.hid (rimages_any _ _ _ _ _ _ P _ T4.out.ref hlenP P.length (Nat.le_refl _) (fun i _ h => HAll.out _ (List.getElem_mem h)) (fun h => absurd h (by omega)))
          have HO4 := Lib.hid ho4
          clear ho4
          go_wp2_with fail
          refine HC2.out.mono ?_; rintro e w5 ⟨hb5, -, hr5⟩
          obtain ⟨v2, rfl, ho5⟩ := hr5 (by first | rfl | trivial)
          have hz4 := hb4.size
          have hz5 := hb5.size
          rw [World.size_alloc] at hz4
          have hR5 := (rowAt_below hb5 (by omega)).trans ((rowAt_below hb4 (by simp)).trans hR)
          have T5 := Lib.hid (T4.out.below hb5)
          have hil : (rimgs S.base P).length ≤ P.length := List.length_filter_le _ _
          have HC3 := Lib.hid (same_ok _ _ v1 v2 (rimgs S.base P) w5 (own_low HO4.out hb5) ho5 (by omega))
          have HOb5 := Lib.hid ho5
          have hb5' := hb5
          clear hb4 hb5 ho5 hr5
          go_wp2_with fail
          refine HC3.out.mono ?_; rintro e w6 ⟨rfl, hb6⟩
          have T6 := Lib.hid (T5.out.below hb6)
          have hR6 := (rowAt_below hb6 (by omega)).trans hR5
          have ck6 : w6.cell? ⟨wr.heap.size, 0, none⟩ = some (.int .i64 4) := (cell_row hR6 0).trans rfl
          have hfits : Fits S.base (rimgs S.base P) := fun x hx => by
            have hx' := (List.mem_filter.1 hx).1
            have hg := HSy.out.good x hx'
            have he := HAll.out x hx'
            refine ⟨hg.1, ?_, hg.2.2⟩
            unfold shelfE at he
            split at he
            · rename_i h; exact h.2
            · cases he
          have HF := Lib.hid hfits
          have HOa := Lib.hid (own_low (own_low HO4.out hb5') hb6)
          have HOb := Lib.hid (own_low HOb5.out hb6)
          have HC4 := Lib.hid (apply_ok hb pb S.base (rimgs S.base P) v1 _ w6 T6.out.real.2.2.1 hfits HOa.out (by omega))
          clear hb6 hfits
          go_wp2_with fail
          refine HC4.out.mono ?_; rintro e w7 ⟨rfl, hg7, hs7⟩
          have hpb := T6.out.real.2.2.1.2.1
          have T7 := Lib.hid (T6.out.wpb hg7 (T6.out.shelf_stage hg7 hs7))
          have HOb7 := HOb.out.kept hg7 (own_ne_block HOb.out hpb (by decide))
          have HC5 := Lib.hid (rapply_ok _ _ S.base (rimgs S.base P) v2 _ w7 T7.out.ref.shelf HF.out HOb7 (by omega))
          clear hg7 hs7 hpb HOb7
          go_wp2_with fail
          refine HC5.out.mono ?_; rintro e w8 ⟨rfl, hg8, hs8⟩
          have T8 := Lib.hid (T7.out.wkp hg8 hs8)
          clear hg8 hs8
          go_wp2_with fail
          go_roundw
          case rel => exact ⟨k + 1, by omega, by go_num, ⟨appl S.base (rimgs S.base P), S.M⟩, v, B, P, T8.out, HSy.out.base _, by rw [appl_length]; exact hlen, hBB⟩
          case measure => simp [intOf]; omega
        · have hk : ∀ i (h : i < S.keys.length) (h' : i < P.length), S.keys[i] = P[i].1 := by
            intro i h h'; simp [HSy.out.keys]
          have HC := Lib.hid (images_bad S b mb hb pb _ T1.out.real HSy.out.ok j0 (by omega) (fun i hi h => by rw [hk i h (by omega)]; exact hgd i hi _) (fun h => by rw [hk j0 h hj0]; exact hbd))
          have HGd := Lib.hid hgd
          have HBd := Lib.hid hbd
          clear hk hgd hbd
          go_wp2_with fail
          refine HC.out.mono ?_; rintro e w4 ⟨rfl, hb4⟩
          have T4 := Lib.hid (T1.out.below hb4)
          have HC2 := Lib.hid (rimages_any _ _ _ _ _ _ P _ T4.out.ref hlenP j0 (by omega) HGd.out (fun _ => HBd.out))
          go_wp2_with fail
          refine HC2.out.mono ?_; rintro e w5 ⟨hb5, hr5, -⟩
          have he5 := hr5 hj0
          subst he5
          have T5 := Lib.hid (T4.out.below hb5)
          have hz4 := hb4.size
          have hz5 := hb5.size
          rw [World.size_alloc] at hz4
          have hR5 := (rowAt_below hb5 (by omega)).trans ((rowAt_below hb4 (by simp)).trans hR)
          have HC3 := Lib.hid (same_ok 0 0 (.slice none 0 0) (.slice none 0 0) [] w5 (World.ownsRow_nil _ _ _ _) (World.ownsRow_nil _ _ _ _) (by simp))
          clear hb4 hb5 hr5
          go_wp2_with fail
          refine HC3.out.mono ?_; rintro e w6 ⟨rfl, hb6⟩
          have T6 := Lib.hid (T5.out.below hb6)
          have hR6 := (rowAt_below hb6 (by omega)).trans hR5
          have ck6 : w6.cell? ⟨wr.heap.size, 0, none⟩ = some (.int .i64 4) := (cell_row hR6 0).trans rfl
          clear hb6
          go_wp2_with fail
          go_roundw
          case rel => exact ⟨k + 1, by omega, by go_num, S, v, B, P, T6.out, HSy.out, hlen, hBB⟩
          case measure => simp [intOf]; omega
      by_cases k3 : kind = 3
      · subst k3
        clear k0 k1 k2 k4
        have HC := Lib.hid (drop_ok S b mb hb pb _ T1.out.real)
        go_wp2_with fail
        refine HC.out.mono ?_; rintro e w4 ⟨rfl, hg4, hs4⟩
        have t4 := T1.out.wmb hg4 hs4
        have T4 := Lib.hid t4
        have hst4 := t4.ref.st
        have ct := cell_of_block hst4 1
        simp only [List.getElem?_toArray, List.getElem?_cons_succ, List.getElem?_cons_zero] at ct
        have fz : w4.frozen? ⟨w3.heap.size, 1, none⟩ = false := by simp [World.frozen?, hst4]
        have lt4 := (Array.getElem?_eq_some_iff.1 hst4).1
        have HST := Lib.hid hst4
        clear t4 hg4 hs4 hst4
        go_wp2_with fail
        go_roundw
        case rel =>
          have hg := grown_setCellAt w4 w3.heap.size 1 (.slice none 0 0)
          exact ⟨k + 1, by omega, by go_num, ⟨S.base, []⟩, .slice none 0 0, B, [], T4.out.wtb hg ⟨T4.out.ref.shelf.grown hg T4.out.ref.ne.1 T4.out.ref.ne.2, setCell_block HST.out 1 _, World.ownsRow_nil _ _ _ _⟩, Sync.nil _, hlen, hBB⟩
        case measure => simp [intOf]; omega
      by_cases k5 : kind = 5
      · subst k5
        clear k0 k1 k2 k3 k4
        have HO := row_pair (wr.alloc (.cells (CallV.cs ⟨5, id, p⟩) 66)) (0, p) (id, p) 0 (Nat.zero_le _)
        rw [World.size_alloc] at HO
        have T2 := Lib.hid (T1.out.alloc (.cells (pairCs (0, p) (id, p)) 48))
        have HC := Lib.hid (apply_real [(0, p), (id, p)] _ _ (by simp) T2.out HO)
        clear HO
        go_wp2_with fail
        refine HC.out.mono ?_; rintro e w4 ⟨rfl, t4, o4⟩
        have T4 := Lib.hid t4
        have HC2 := Lib.hid (apply_ref [(0, p), (id, p)] _ _ (by simp) t4 o4)
        clear t4 o4
        go_wp2_with fail
        refine HC2.out.mono ?_; rintro e w5 ⟨rfl, t5⟩
        have T5 := Lib.hid t5
        clear t5
        go_wp2_with fail
        go_roundw
        case rel => exact ⟨k + 1, by omega, by go_num, ⟨if allFit S.base [(0, p), (id, p)] then appl S.base [(0, p), (id, p)] else S.base, S.M⟩, v, B, P, T5.out, HSy.out.base _, by split <;> simp [appl_length, hlen], hBB⟩
        case measure => simp [intOf]; omega
      · have d0 : decide (kind = 0) = false := by simpa using k0
        have d1 : decide (kind = 1) = false := by simpa using k1
        have d2 : decide (kind = 2) = false := by simpa using k2
        have d3 : decide (kind = 3) = false := by simpa using k3
        have d4 : decide (kind = 4) = false := by simpa using k4
        have d5 : decide (kind = 5) = false := by simpa using k5
        have e0 : (kind == 0) = false := by simpa using k0
        have e1 : (kind == 1) = false := by simpa using k1
        have e2 : (kind == 2) = false := by simpa using k2
        have e3 : (kind == 3) = false := by simpa using k3
        have e4 : (kind == 4) = false := by simpa using k4
        have e5 : (kind == 5) = false := by simpa using k5
        have HC := Lib.hid (shelfGet_any hb pb S.base id _ T1.out.real.2.2.1)
        obtain ⟨q, hq⟩ : ∃ q, shelfPg S.base id = q := ⟨_, rfl⟩
        obtain ⟨f, hf⟩ : ∃ f, shelfE S.base id = f := ⟨_, rfl⟩
        rw [hq, hf] at HC
        go_wp2_with fail
        refine HC.out.mono ?_; rintro e w4 ⟨rfl, hb4⟩
        have hz4 := hb4.size
        rw [World.size_alloc] at hz4
        have T4 := Lib.hid ((T1.out.below hb4).alloc (.cells q.cs 41))
        have hR4 := (rowAt_past w4 (.cells q.cs 41) _ (by omega)).trans ((rowAt_below hb4 (by simp)).trans hR)
        have ci4 : (w4.alloc (.cells q.cs 41)).cell? ⟨wr.heap.size, 1, none⟩ = some (.int .i64 id) := (cell_row hR4 1).trans rfl
        have hc := rget_any _ _ _ id _ T4.out.ref.shelf
        rw [hq, hf] at hc
        have HC2 := Lib.hid hc
        clear hb4 hc hq hf
        go_wp2_with fail
        refine HC2.out.mono ?_; rintro e w5 ⟨rfl, hb5⟩
        have hz5 := hb5.size
        rw [World.size_alloc] at hz5
        have T5 := Lib.hid ((T4.out.below hb5).alloc (.cells q.cs 41))
        have hR5 := (rowAt_below hb5 (by simp)).trans (rowAt_at w4 q.cs 41 _ rfl)
        have hpe := pgEq_self q
        have hlt5 : w4.heap.size < w5.heap.size := by omega
        clear hb5
        go_wp2_with fail
        go_roundw
        case rel => exact ⟨k + 1, by omega, by go_num, S, v, B, P, T5.out, HSy.out, hlen, hBB⟩
        case measure => simp [intOf]; omega
    · have hke : (lu : Int) ≤ (k : Int) := by omega
      have HNN := Lib.hid (fun w' => new_nil w')
      have HLow := Lib.hid hT.low
      clear hT hSy
      go_wp2_with fail
      refine (HNN.out _).mono ?_; rintro e w5 ⟨nb, nmb, rfl, hb5, hns⟩
      have HC := Lib.hid (nil_get nb nmb 0 _ hns)
      have K5 := Lib.hid (HLow.out.trans (hb5.mono HLow.out.size))
      clear hns hb5
      go_wp2_with fail
      refine HC.out.mono ?_; rintro e w6 ⟨rfl, hb6⟩
      have K6 := Lib.hid ((K5.out.trans (hb6.mono K5.out.size)).alloc (by have := hb6.size; have := K5.out.size; omega) (.cells Pg.zero.cs 41))
      clear hb6
      go_wp2_with fail
      go_ret
      exact ⟨rfl, K6.out⟩

theorem runs_walk (n : Int) (vu : Option Addr) (lu cu : Nat) (U : List CallV) (w : World) (hU : CallsIn w vu lu U) :
    Calls Try.prog 7 #[.int .i64 n, .slice vu lu cu] w fun e w' => e = .returned (.bool true) ∧ Below w.heap.size w w' := by
  by_cases h : n < 1 ∨ 1024 < n
  · exact runs_bad n h _ w
  · obtain ⟨k, rfl⟩ := Int.eq_ofNat_of_zero_le (show 0 ≤ n by omega)
    exact runs_good k (by omega) (by omega) vu lu cu U w hU
end Go.Proofs.Ythehglhbgplfhaa
