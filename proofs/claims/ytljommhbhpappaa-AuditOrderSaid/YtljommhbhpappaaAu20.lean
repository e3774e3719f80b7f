/-
  Layer 22 (audit): the walk of AuditOrder.
-/
import Derived.Test.YtljommhbhpappaaAu19
namespace Go.Proofs.Ytljommhbhpappaa
open Go.RowKit Go.Joins
set_option linter.unusedVariables false
set_option linter.unusedSimpArgs false

theorem okPg_lev {p : Pg} (h : okPg p = true) : okPg { p with l := 1 } = true := by
  obtain ⟨h2, h3⟩ := okPg_to h
  refine okPg_of ?_ h3
  simp only [okH, Bool.and_eq_true, decide_eq_true_eq] at h2 ⊢
  omega
theorem okPg_nxt {p : Pg} {x : Int} (h : okPg p = true) (h0 : 0 ≤ x) (h1 : x < 1024) : okPg { p with n := x } = true := by
  obtain ⟨h2, h3⟩ := okPg_to h
  refine okPg_of ?_ h3
  simp only [okH, Bool.and_eq_true, decide_eq_true_eq] at h2 ⊢
  omega
theorem okPg_swap {p : Pg} (h : okPg p = true) : okPg (swapPg p) = true := by
  obtain ⟨h2, h3⟩ := okPg_to h
  exact ok_setC (ok_setC h 0 (by omega) _ _ (h3 1 (by omega))) 1 (by omega) _ _ (h3 0 (by omega))
/-- the page that the law sets -/
def spoilt (p : Pg) (id r : Int) : Pg := if r = 0 then { p with n := id } else if r = 1 then { p with l := 1 } else swapPg p
theorem spoilt_bad {S : Vol} {d m : Pg} {P : Nat → Part} {N : Nat} {T : Tr N} (h : OrdVol S d m P N T) (hN : N ≠ 0) {y : Int × List NC} (hy : y ∈ Tr.leaves N T) (r : Int) :
    okSet y.1 (spoilt (stPg S y.1) y.1 r) = true ∧ ∃ x, AuVol (S.put y.1 (spoilt (stPg S y.1) y.1 r)) d m 80 P x ∧ (x ∈ reach P ∨ ∃ k, k < 6 ∧ ¬ (P k).chained (S.put y.1 (spoilt (stPg S y.1) y.1 r))) := by
  have ha := h.mv.part 1 (by omega)
  rw [h.tree] at ha
  obtain ⟨-, -, -, a4, -⟩ := ha
  have e2 : (((1 : Nat) : Int) + 1) = 2 := rfl
  rw [e2] at a4
  obtain ⟨nx, hnx, hpg⟩ := a4.tin.leaves y hy
  obtain ⟨hnode, -, -, -⟩ := a4.leafOk y hy
  have hid := leaf_ids hy
  have hown := h.mv.own 1 (by omega) y.1 (by rw [h.tree]; exact hid)
  have hokp : okPg (stPg S y.1) = true := by rw [hpg]; exact nd_okPg (n := 0) hnode (by omega) (by omega) hnx
  have hne : y.2 ≠ [] := (h.full.resolve_left hN) y hy
  have hset : ∀ q, okPg q = true → okSet y.1 q = true := fun q hq => by
    unfold okSet
    rw [hq]
    simp; omega
  unfold spoilt
  by_cases h0 : r = 0
  · rw [if_pos h0]
    obtain ⟨h1, h2⟩ := h.mv.loose (k := 1) (by omega) h.tree hy y.1 rfl
    exact ⟨hset _ (okPg_nxt hokp (by omega) (by omega)), -1, h1, .inr ⟨1, by omega, h2⟩⟩
  · rw [if_neg h0]
    by_cases h1 : r = 1
    · rw [if_pos h1]
      have hb : BadNode (S.put y.1 { stPg S y.1 with l := 1 }) (((1 : Nat) : Int) + 1) 0 y.1 := by
        rw [e2]
        refine .inr ⟨by rw [stE_put, if_pos rfl], ?_, ?_, .inl ?_⟩
        · rw [stPg_put, if_pos rfl, hpg]; rfl
        · rw [stPg_put, if_pos rfl, hpg]; rfl
        · rw [stPg_put, if_pos rfl]; exact fun e => by cases e
      obtain ⟨h3, h4⟩ := h.mv.bad (k := 1) (by omega) h.tree hN hy _ hb
      exact ⟨hset _ (okPg_lev hokp), y.1, h3, .inl h4⟩
    · rw [if_neg h1]
      have hb : BadNode (S.put y.1 (swapPg (stPg S y.1))) (((1 : Nat) : Int) + 1) 0 y.1 := by
        rw [e2]
        have hs : stPg (S.put y.1 (swapPg (stPg S y.1))) y.1 = swapPg (ndPg 0 2 nx y.2) := by rw [stPg_put, if_pos rfl, hpg]
        refine .inr ⟨by rw [stE_put, if_pos rfl], by rw [hs]; rfl, by rw [hs]; rfl, .inr ⟨by rw [hs]; rfl, fun w => ?_⟩⟩
        rw [hs]
        match hL : y.2 with
        | [] => exact absurd hL hne
        | [c] =>
          rw [hL] at hnode
          exact (ncheck_hole 2 nx c (hnode.2.2.1 rfl c (List.mem_cons_self ..)) w).mono fun e w' ⟨h1, h2⟩ => ⟨40, by decide, h1, h2⟩
        | c0 :: c1 :: r =>
          rw [hL] at hnode
          rw [swap_two]
          refine (ncheck_fall 2 nx (c1 :: c0 :: r) (by simpa using hnode.1) (by simp) (fun c hc => hnode.2.2.1 rfl c ?_) ?_ w).mono fun e w' ⟨h1, h2⟩ => ⟨40, by decide, h1, h2⟩
          · simp only [List.mem_cons] at hc ⊢
            rcases hc with e | e | e
            · exact .inr (.inl e)
            · exact .inl e
            · exact .inr (.inr e)
          · exact (List.pairwise_cons.1 hnode.2.1).1 c1 (List.mem_cons_self ..)
      obtain ⟨h3, h4⟩ := h.mv.bad (k := 1) (by omega) h.tree hN hy _ hb
      exact ⟨hset _ (okPg_swap hokp), y.1, h3, .inl h4⟩
theorem vol_nil22 {S : Vol} (h : S.M = []) : (⟨S.base, []⟩ : Vol) = S := by cases S; simp at h; rw [h]
theorem tmod_in (x : Int) (n : Nat) (hn : 0 < n) (hn2 : n ≤ 5000) : 0 ≤ (wrap64 (x.tmod n + n)).tmod n ∧ (wrap64 (x.tmod n + n)).tmod n < n := by
  have hn' : (0 : Int) < (n : Int) := by omega
  have a1 := Int.tmod_lt_of_pos x hn'
  have a2 := Int.lt_tmod_of_pos x hn'
  have hw : wrap64 (x.tmod n + n) = x.tmod n + n := by
    generalize x.tmod n = t at *
    unfold wrap64; omega
  rw [hw]
  exact ⟨Int.tmod_nonneg _ (by omega), Int.tmod_lt_of_pos _ hn'⟩

set_option maxHeartbeats 16000000 in
set_option maxRecDepth 100000 in
theorem order_walk (vp : Option Addr) (len cap : Nat) (V : List ByteArray) (which kind : Int) (w : World) (hV : StrsIn w vp len V) :
    Calls Try.prog 13 #[.slice vp len cap, .int .i64 which, .int .i64 kind] w fun e w' => e = .returned (.bool true) ∧ Below w.heap.size w w' := by
  obtain ⟨j0, ji, jz0, jz1, jz2⟩ := info_parts infoInt22
  have HA := Lib.hid (fun (w' : World) => awake22 w')
  have HVo := Lib.hid (fun (w' : World) => volume22 80 (by omega) (by omega) w')
  rw [show ((80 : Nat) : Int) = 80 from rfl] at HVo
  have HL := Lib.hid (fun (Q : Nat → Prop) (wa w' : World) b hb S (L : Lay Q wa w' b hb S) (h : S.Fit 80) e => land22 L h e)
  have HPut := Lib.hid (fun (Q : Nat → Prop) (wa w' : World) b hb S d m P N (T : Tr N) (L : Lay Q wa w' b hb S) (h : OrdVol S d m P N T) key => ordPut h key L)
  have HVs := Lib.hid hV
  have hlen := hV.1
  have hVl := hV.2.1
  clear hV
  by_cases h100 : (100 : Int) < (len : Int)
  · go_enter Try.func13, Try.ntmps13
    go_wp2_with fail
    with_reducible refine (HA.out _).mono ?_; rintro e w0 ⟨rfl, hb0⟩
    have K0 := Lib.hid hb0
    clear hb0
    go_wp2_with fail
    go_ret
    exact ⟨rfl, K0.out⟩
  have h100' : decide ((100 : Int) < (len : Int)) = false := by simpa using h100
  have hl100 : len ≤ 100 := by omega
  clear h100
  go_enter Try.func13, Try.ntmps13
  go_wp2_with fail
  with_reducible refine (HA.out _).mono ?_; rintro e w0 ⟨rfl, hb0⟩
  have K0 := Lib.hid hb0
  have hz0 := hb0.size
  clear hb0
  go_wp2_with fail
  with_reducible refine (HVo.out _).mono ?_; rintro e w1 ⟨b, hb, rfl, L1⟩
  have K1 := Lib.hid L1
  clear L1
  go_wp2_with fail
  with_reducible refine (HL.out _ _ _ _ _ _ K1.out (V2_fit 80 (by omega) (by omega)) 0).mono ?_; rintro e w2 ⟨rfl, L2⟩
  have e2 : (V2 80).after 0 = (V2 80).landed := if_pos rfl
  rw [e2] at L2
  have ST : Hid (OrdAt w0 w2 b hb) := Lib.hid ⟨_, _, _, _, _, _, L2, V2_ord 80 rfl, rfl⟩
  clear L2 e2
  go_wp2_with fail
  go_loopw [42] (fun v wr => ∃ i, i ≤ len ∧ v = .int .i64 i ∧ OrdAt w0 wr b hb) (fun v _ => len - (intOf v).toNat)
  case atStart => exact ⟨0, by omega, rfl, ST.out⟩
  case round =>
    obtain ⟨i, hi, rfl, S, d, m, P, N, T, L, hO, hM⟩ := hrel
    obtain ⟨wo, rfl⟩ : ∃ wo : World, wo = wr := ⟨_, rfl⟩
    have BL := Lib.hid (K0.out.trans (L.low.mono hz0))
    by_cases hlt : i < len
    · obtain ⟨rb, ro, hvp, hrb, hcell⟩ := (HVs.out.below BL.out).2.2.resolve_left (by omega)
      subst hvp
      have hc := hcell i (by omega)
      generalize V[i]'(by omega) = key at *
      have HP := Lib.hid (HPut.out _ _ _ _ _ _ _ _ _ _ _ L hO key)
      have HM := Lib.hid hM
      have HO := Lib.hid hO
      clear hcell L hO hM
      go_wp2_with fail
      with_reducible refine HP.out.mono ?_; rintro e w3 ⟨u, er, S', rfl, L3, hf3, hb3, hs3⟩
      have K3 := Lib.hid (L3.alloc (.cells u.cs 86))
      have HF3 := Lib.hid hf3
      have HB3 := Lib.hid hb3
      have HS3 := Lib.hid hs3
      clear L3 hf3 hb3 hs3 hc
      go_wp2_with fail
      with_reducible refine (HL.out _ _ _ _ _ _ K3.out HF3.out er).mono ?_; rintro e w4 ⟨rfl, L4⟩
      have K4 := Lib.hid L4
      clear L4
      go_wp2_with fail
      go_roundw
      case rel =>
        refine ⟨i + 1, by omega, by go_num, ?_⟩
        have L4 := K4.out
        unfold Vol.after at L4
        by_cases h0 : er = 0
        · rw [if_pos h0] at L4
          obtain ⟨m', P', N', T', hO'⟩ := HS3.out h0
          exact ⟨_, d, m', P', N', T', L4, ⟨hO'.mv.landed hO'.fit (Nat.le_refl _), landed_fit hO'.fit, hO'.live, hO'.tree, hO'.lone, hO'.full⟩, rfl⟩
        · rw [if_neg h0, HB3.out, vol_nil22 HM.out] at L4
          exact ⟨S, d, m, P, N, T, L4, HO.out, HM.out⟩
      case measure => simp [intOf]; omega
    · have hie : i = len := by omega
      subst hie
      have HC := Lib.hid (mCheck hO.mv L)
      have HO := Lib.hid hO
      clear L hO hM
      go_wp2_with fail
      with_reducible refine HC.out.mono ?_; rintro e w3 ⟨rfl, L3⟩
      have HU := Lib.hid (used_lay L3 HO.out.mv.vol)
      clear L3 HC
      go_wp2_with fail
      with_reducible refine HU.out.mono ?_; rintro e w4 ⟨uv, rfl, L4, -, hown⟩
      obtain ⟨ua, ucap, rfl, hua⟩ := own_form22 hown
      have K4 := Lib.hid L4
      have O4 := Lib.hid hown
      have HUa := Lib.hid hua
      have hul : (usedTo m 80).length ≤ 80 := by
        have h1 : (usedTo m 80).length ≤ (List.range 80).length := List.length_filter_le _ _
        simpa using h1
      have HLeaf := Lib.hid (fun u (hu : u ∈ usedTo m 80) hl => HO.out.leaf hu hl)
      have HNd := Lib.hid (usedTo_nodup m 80)
      clear L4 hown hua
      generalize usedTo m 80 = U at *
      go_wp2_with fail
      go_loopw [17, 68] (fun lv v wr => ∃ i, i ≤ U.length ∧ v = .int .i64 i ∧ Below w4.heap.size w4 wr ∧ wr.ownsRow w4.heap.size 3 1 lv ((U.take i).filter (isLf S)).length (idVals ((U.take i).filter (isLf S)))) (fun _ v _ => U.length - (intOf v).toNat)
      case atStart => exact ⟨0, by omega, rfl, Below.refl _ _, World.ownsRow_nil _ _ _ _⟩
      case round =>
        obtain ⟨i, hi, rfl, hbl, hown⟩ := hrel
        obtain ⟨wo2, rfl⟩ : ∃ wo2 : World, wo2 = wr := ⟨_, rfl⟩
        have HB := Lib.hid hbl
        have HOw := Lib.hid hown
        have K5 := Lib.hid (K4.out.step hbl)
        have hszl := hbl.size
        by_cases hlt : i < U.length
        · obtain ⟨G, rfl, -⟩ := HUa.out (by omega)
          have ci := own_cell22 (own_low22 O4.out hbl) i (.int .i64 ((U[i] : Nat) : Int)) (by simp [idVals, hlt])
          obtain ⟨u, hu⟩ : ∃ u, U[i] = u := ⟨_, rfl⟩
          rw [hu] at ci
          obtain ⟨p, hp⟩ : ∃ p, stPg S (u : Int) = p := ⟨_, rfl⟩
          have HG := Lib.hid (get_lay K5.out (u : Int))
          have hst : stE S (u : Int) = 0 ∨ stE S (u : Int) = 1 := stE_two S u
          have htake : U.take (i + 1) = U.take i ++ [u] := by rw [List.take_add_one, List.getElem?_eq_getElem hlt, hu]; rfl
          have hfil : (U.take (i + 1)).filter (isLf S) = if isLf S u = true then (U.take i).filter (isLf S) ++ [u] else (U.take i).filter (isLf S) := by
            rw [htake, List.filter_append, List.filter_cons]
            split <;> simp
          have hflen : ((U.take i).filter (isLf S)).length ≤ 80 := by
            have h1 := List.length_filter_le (isLf S) (U.take i)
            rw [List.length_take] at h1
            omega
          have hlf : isLf S u = (decide (p.k = 4) && decide (p.l = 0)) := by unfold isLf; rw [hp]
          rw [hp] at HG
          have HFi := Lib.hid hfil
          have HLf := Lib.hid hlf
          clear hbl hown hu hp hfil htake hlf hst
          generalize (U.take i).filter (isLf S) = LS at *
          go_wp2_with fail
          with_reducible refine HG.out.mono ?_; rintro e w6 ⟨rfl, L6, hb6⟩
          have R6 := rowAt_at w6 p.cs 112 _ rfl
          have k0 := (cell_row R6 0).trans (show p.cs[0]? = some (.int .i64 p.k) from rfl)
          have k1 := (cell_row R6 1).trans (show p.cs[1]? = some (.int .i64 p.l) from rfl)
          have hsz6 := hb6.size
          have B6a := hb6.alloc hsz6 (.cells p.cs 112)
          have B6 := Lib.hid (HB.out.trans (B6a.mono hszl))
          have O6 := own_low22 HOw.out B6a
          have hsz7 : w4.heap.size ≤ (w6.alloc (.cells p.cs 112)).heap.size := B6.out.size
          clear L6 hb6 R6 B6a
          by_cases h4 : p.k = 4
          · have h4b : (p.k == 4) = true := by simpa using h4
            by_cases h0 : p.l = 0
            · have h0b : (p.l == 0) = true := by simpa using h0
              have HE := Lib.hid (show isLf S u = true by rw [HLf.out]; simp [h4, h0])
              generalize p.k = pk at *
              generalize p.l = pl at *
              clear h4 h0
              go_wp2_with (at_builtin; refine wpList_append_own _ rfl _ _ 28 rfl w4.heap.size 3 j0 _ 1 8 Try.underlying28 ji jz0 jz1 jz2 rfl (by decide) _ _ _ rfl (O6.alloc _) ⟨w6.heap.size + 1, 0, none⟩ 1 1 [.int .i64 (u : Int)] rfl rfl ?c1 ?c2 ?c3 ?c4 ?c5 ?_)
              case c1 =>
                have := cell_one_new (w6.alloc (.cells p.cs 112)) (.int .i64 (u : Int)) 3
                rw [World.size_alloc] at this
                exact this
              case c2 => simp [Value.oneCell']
              case c3 => simp only [maxLen]; omega
              case c4 => omega
              case c5 => rw [World.size_alloc]; omega
              intro v7 w7 hown7 hgrow _
              have B7 := Lib.hid ((B6.out.alloc hsz7 (.cells #[.int .i64 (u : Int)] 3)).grown hgrow (by rw [World.size_alloc]; omega) (fun q hq => (O6.lt q hq).1))
              have O7 : w7.ownsRow w4.heap.size 3 1 v7 (LS ++ [u]).length (idVals (LS ++ [u])) := by simpa [idVals] using hown7
              have HO7 := Lib.hid O7
              clear hown7 hgrow O7 O6
              go_wp2_with fail
              go_roundw
              case rel =>
                refine ⟨i + 1, by omega, by go_num, B7.out, ?_⟩
                rw [HFi.out, if_pos HE.out]
                exact HO7.out
              case measure => simp [intOf]; omega
            · have h0b : (p.l == 0) = false := by simpa using h0
              have HE := Lib.hid (show ¬ isLf S u = true by rw [HLf.out]; simp [h4, h0])
              have HO6 := Lib.hid O6
              generalize p.k = pk at *
              generalize p.l = pl at *
              clear h4 h0 O6
              go_wp2_with fail
              go_roundw
              case rel =>
                refine ⟨i + 1, by omega, by go_num, B6.out, ?_⟩
                rw [HFi.out, if_neg HE.out]
                exact HO6.out
              case measure => simp [intOf]; omega
          · have h4b : (p.k == 4) = false := by simpa using h4
            have HE := Lib.hid (show ¬ isLf S u = true by rw [HLf.out]; simp [h4])
            have HO6 := Lib.hid O6
            generalize p.k = pk at *
            clear h4 O6
            go_wp2_with fail
            go_roundw
            case rel =>
              refine ⟨i + 1, by omega, by go_num, B6.out, ?_⟩
              rw [HFi.out, if_neg HE.out]
              exact HO6.out
            case measure => simp [intOf]; omega
        · have hie : i = U.length := by omega
          subst hie
          have HMem : Hid (∀ u ∈ U.filter (isLf S), ∃ y ∈ Tr.leaves N T, y.1 = ((u : Nat) : Int)) := Lib.hid (fun u hu => by
            obtain ⟨h1, h2⟩ := List.mem_filter.1 hu
            exact HLeaf.out u h1 h2)
          have HNdF : Hid (U.filter (isLf S)).Nodup := Lib.hid (HNd.out.filter _)
          have hflen : (U.filter (isLf S)).length ≤ 80 := Nat.le_trans (List.length_filter_le _ _) hul
          rw [List.take_length] at hown
          obtain ⟨la, lcap, rfl, hla⟩ := own_form22 hown
          have HO5 := Lib.hid hown
          have HLa := Lib.hid hla
          clear hown hbl hla HOw
          generalize U.filter (isLf S) = LS at *
          have BF5 := Lib.hid (K0.out.trans (K5.out.low.mono hz0))
          by_cases h2 : (LS.length : Int) < 2
          · have h2' : decide ((LS.length : Int) < 2) = true := by simpa using h2
            clear h2
            go_wp2_with fail
            go_ret
            exact ⟨rfl, BF5.out⟩
          · have h2' : decide ((LS.length : Int) < 2) = false := by simpa using h2
            have hN : Hid (N ≠ 0) := Lib.hid (fun e => by
              subst e
              match LS, HMem.out, HNdF.out, h2 with
              | u0 :: u1 :: r, hm, hnd, _ =>
                obtain ⟨y0, hy0, e0⟩ := hm u0 (List.mem_cons_self ..)
                obtain ⟨y1, hy1, e1⟩ := hm u1 (List.mem_cons_of_mem _ (List.mem_cons_self ..))
                have q0 : y0 = (T.1, T.2) := by simpa [Tr.leaves] using hy0
                have q1 : y1 = (T.1, T.2) := by simpa [Tr.leaves] using hy1
                rw [q0] at e0
                rw [q1] at e1
                have : u0 = u1 := by omega
                exact (List.nodup_cons.1 hnd).1 (this ▸ List.mem_cons_self ..)
              | [_], _, _, h2 => exact h2 (by simp)
              | [], _, _, h2 => exact h2 (by simp))
            have hpos : 0 < LS.length := by omega
            obtain ⟨G, rfl, -⟩ := HLa.out hpos
            obtain ⟨hj0, hj1⟩ := tmod_in which LS.length hpos (by omega)
            have hnz : ((LS.length : Int) == 0) = false := by rw [beq_eq_false_iff_ne]; omega
            obtain ⟨jn, hjn⟩ : ∃ jn : Nat, ((wrap64 (which.tmod (LS.length : Int) + (LS.length : Int))).tmod (LS.length : Int)).toNat = jn := ⟨_, rfl⟩
            have hjl : jn < LS.length := by omega
            obtain ⟨u, hu⟩ : ∃ u, LS[jn] = u := ⟨_, rfl⟩
            have cj : wo2.cell? ⟨G, ((wrap64 (which.tmod (LS.length : Int) + (LS.length : Int))).tmod (LS.length : Int)).toNat, none⟩ = some (.int .i64 (u : Int)) := by
              rw [hjn]
              exact own_cell22 HO5.out jn _ (by simp [idVals, hjl, hu])
            have HY := Lib.hid (HMem.out u (by rw [← hu]; exact List.getElem_mem hjl))
            obtain ⟨y, hy, hyu⟩ := HY.out
            have hsp := fun r => spoilt_bad HO.out hN.out hy r
            simp only [hyu] at hsp
            obtain ⟨p, hp⟩ : ∃ p, stPg S (u : Int) = p := ⟨_, rfl⟩
            have HG := Lib.hid (get_lay K5.out (u : Int))
            rw [hp] at HG hsp
            have HSp := Lib.hid hsp
            obtain ⟨hr0, hr1⟩ := tmod_in kind 3 (by omega) (by omega)
            rw [show ((3 : Nat) : Int) = 3 from rfl] at hr0 hr1
            clear h2 hjn hu hp hsp hy hyu
            go_wp2_with fail
            with_reducible refine HG.out.mono ?_; rintro e w6 ⟨rfl, L6, hb6⟩
            have R6 := rowAt_at w6 p.cs 112 _ rfl
            have K6 := Lib.hid L6
            clear L6 hb6
            have fin : ∀ (q : Pg), okSet (u : Int) q = true → (∃ x, AuVol (S.put (u : Int) q) d m 80 P x ∧ (x ∈ reach P ∨ ∃ k, k < 6 ∧ ¬ (P k).chained (S.put (u : Int) q))) → ∀ W, Lay (· < w0.heap.size) w0 W b hb S →
                Calls Try.prog 59 #[.pointer (some ⟨b, 0, none⟩), .int .i64 (u : Int), q.v] W fun e w' => e = .returned (.int .i64 0) ∧ Hid (Lay (· < w0.heap.size) w0 w' b hb (S.put (u : Int) q)) := fun q hq _ W LW => by
              have := set_lay LW (u : Int) q
              rw [hq] at this
              exact this.mono fun e w' ⟨h1, h2⟩ => ⟨h1, Lib.hid h2⟩
            have fin2 : ∀ (q : Pg), (∃ x, AuVol (S.put (u : Int) q) d m 80 P x ∧ (x ∈ reach P ∨ ∃ k, k < 6 ∧ ¬ (P k).chained (S.put (u : Int) q))) → ∀ W, Lay (· < w0.heap.size) w0 W b hb (S.put (u : Int) q) →
                Calls Try.prog 36 #[.pointer (some ⟨b, 0, none⟩)] W fun e w' => ∃ er, er ≠ 0 ∧ e = .returned (.int .i64 er) ∧ Hid (Lay (· < w0.heap.size) w0 w' b hb (S.put (u : Int) q)) := fun q ⟨x, h1, h2⟩ W LW =>
              (mSpoilt h1 h2 LW).mono fun e w' ⟨er, h3, h4, h5⟩ => ⟨er, h3, h4, Lib.hid h5⟩
            have FIN := Lib.hid fin
            have FIN2 := Lib.hid fin2
            clear fin fin2
            have hr2 : (wrap64 (kind.tmod 3 + 3)).tmod 3 = 0 ∨ (wrap64 (kind.tmod 3 + 3)).tmod 3 = 1 ∨ (wrap64 (kind.tmod 3 + 3)).tmod 3 = 2 := by omega
            clear hr0 hr1
            rcases hr2 with c0 | c0 | c0
            · obtain ⟨q, hq⟩ : ∃ q, spoilt p (u : Int) 0 = q := ⟨_, rfl⟩
              have e3 : p.cs.setIfInBounds 3 (.int .i64 (u : Int)) = q.cs := by rw [← hq]; rfl
              have HS := Lib.hid (HSp.out 0)
              rw [hq] at HS
              have f3 := frozen_row R6 3
              have k3 := (cell_row R6 3).trans (show p.cs[3]? = some (.int .i64 p.n) from rfl)
              generalize p.n = pn at *
              clear hq
              go_wp2_with fail
              with_reducible refine (FIN.out q HS.out.1 HS.out.2 _ (K6.out.alloc _)).mono ?_; rintro e w7 ⟨rfl, K7⟩
              go_wp2_with fail
              with_reducible refine (FIN2.out q HS.out.2 _ K7.out).mono ?_; rintro e w8 ⟨er, her, rfl, K8⟩
              have he1 : (er != 0) = true := by simpa using her
              have BF := Lib.hid (K0.out.trans (K8.out.low.mono hz0))
              go_wp2_with fail
              go_ret
              exact ⟨rfl, BF.out⟩
            · obtain ⟨q, hq⟩ : ∃ q, spoilt p (u : Int) 1 = q := ⟨_, rfl⟩
              have e3 : p.cs.setIfInBounds 1 (.int .i64 1) = q.cs := by rw [← hq]; rfl
              have HS := Lib.hid (HSp.out 1)
              rw [hq] at HS
              have f3 := frozen_row R6 1
              have k3 := (cell_row R6 1).trans (show p.cs[1]? = some (.int .i64 p.l) from rfl)
              generalize p.l = pn at *
              clear hq
              go_wp2_with fail
              with_reducible refine (FIN.out q HS.out.1 HS.out.2 _ (K6.out.alloc _)).mono ?_; rintro e w7 ⟨rfl, K7⟩
              go_wp2_with fail
              with_reducible refine (FIN2.out q HS.out.2 _ K7.out).mono ?_; rintro e w8 ⟨er, her, rfl, K8⟩
              have he1 : (er != 0) = true := by simpa using her
              have BF := Lib.hid (K0.out.trans (K8.out.low.mono hz0))
              go_wp2_with fail
              go_ret
              exact ⟨rfl, BF.out⟩
            · obtain ⟨q, hq⟩ : ∃ q, spoilt p (u : Int) 2 = q := ⟨_, rfl⟩
              have e3 : (((p.cs.setIfInBounds 4 (.int .i64 (p.a 1))).setIfInBounds 5 (.string (p.d 1))).setIfInBounds 6 (.int .i64 (p.a 0))).setIfInBounds 7 (.string (p.d 0)) = q.cs := by rw [← hq]; rfl
              have HS := Lib.hid (HSp.out 2)
              rw [hq] at HS
              have f4 := frozen_row R6 4
              have f5 := frozen_row R6 5
              have f6 := frozen_row R6 6
              have f7 := frozen_row R6 7
              have k4 := (cell_row R6 4).trans (cs_a p 0 (by omega))
              have k5 := (cell_row R6 5).trans (cs_d p 0 (by omega))
              have k6 := (cell_row R6 6).trans (cs_a p 1 (by omega))
              have k7 := (cell_row R6 7).trans (cs_d p 1 (by omega))
              generalize p.a 0 = a0 at *
              generalize p.d 0 = d0 at *
              generalize p.a 1 = a1 at *
              generalize p.d 1 = d1 at *
              clear hq
              go_wp2_with fail
              with_reducible refine (FIN.out q HS.out.1 HS.out.2 _ (K6.out.alloc _)).mono ?_; rintro e w7 ⟨rfl, K7⟩
              go_wp2_with fail
              with_reducible refine (FIN2.out q HS.out.2 _ K7.out).mono ?_; rintro e w8 ⟨er, her, rfl, K8⟩
              have he1 : (er != 0) = true := by simpa using her
              have BF := Lib.hid (K0.out.trans (K8.out.low.mono hz0))
              go_wp2_with fail
              go_ret
              exact ⟨rfl, BF.out⟩
end Go.Proofs.Ytljommhbhpappaa
