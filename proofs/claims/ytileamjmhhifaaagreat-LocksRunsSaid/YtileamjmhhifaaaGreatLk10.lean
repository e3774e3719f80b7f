/-
  Layer 9 (locks): Ask.
-/
import Derived.Test.YtileamjmhhifaaaGreatLk9
namespace Go.Proofs.YtileamjmhhifaaaGreat
open Go.RowKit Go.Joins Go.Sort
set_option linter.unusedVariables false
set_option linter.unusedSimpArgs false

theorem ask_bad (t : Nat) (x m : Int) (n : Nm) (w : World) (hm : m ≤ 0 ∨ 6 < m) :
    Calls Tryz.prog 8 #[.pointer (some ⟨t, 0, none⟩), .int .i64 x, n.v, .int .i64 m] w fun e w' => e = .returned (.tuple #[.bool false, .int .i64 1]) ∧ Below w.heap.size w w' := by
  show Calls _ _ #[.pointer (some ⟨t, 0, none⟩), .int .i64 x, .agg #[.int .i64 n.s, .string n.i], .int .i64 m] _ _
  by_cases h0 : m ≤ 0
  · have h1 : decide (m ≤ 0) = true := by simp [h0]
    clear hm
    go_enter Tryz.func8, Tryz.ntmps8
    go_wp2_with fail
    go_ret2
    exact ⟨rfl, (Below.refl _ _).alloc (Nat.le_refl _) _⟩
  · have h1 : decide (m ≤ 0) = false := by simp [h0]
    have h2 : decide (6 < m) = true := by simp; omega
    have h3 : 6 < m := by omega
    clear hm
    go_enter Tryz.func8, Tryz.ntmps8
    go_wp2_with fail
    go_ret2
    exact ⟨rfl, (Below.refl _ _).alloc (Nat.le_refl _) _⟩
section
variable {w : World} {B t nb wb : Nat} {turn : Int} {M : List (Nm × Value)} {E : Nm → Ent} {Wt : List (Int × Value)}
set_option maxHeartbeats 1000000 in
set_option maxRecDepth 100000 in
theorem ask_busy (h : TabAt w B t nb wb turn M E Wt) (x m : Int) (n : Nm) (h0 : 0 < m) (h6 : m ≤ 6) (hx : x ∈ keysM Wt) :
    Calls Tryz.prog 8 #[.pointer (some ⟨t, 0, none⟩), .int .i64 x, n.v, .int .i64 m] w fun e w' => e = .returned (.tuple #[.bool false, .int .i64 211]) ∧ Below w.heap.size w w' := by
  show Calls _ _ #[.pointer (some ⟨t, 0, none⟩), .int .i64 x, .agg #[.int .i64 n.s, .string n.i], .int .i64 m] _ _
  obtain ⟨c0, c1, c2⟩ := h.cells
  obtain ⟨k, hl⟩ := h.lookW x
  have htl := h.wait.lt.1
  have hlw := hl (w.alloc (.cells #[.int .i64 n.s, .string n.i] 31)) (((Below.refl _ _).alloc (Nat.le_refl _) _).block wb h.wait.lt.2)
  have hd : decide (x ∈ keysM Wt) = true := by simp [hx]
  rw [hd] at hlw
  have h1 : ¬ m ≤ 0 := by omega
  have h2 : ¬ 6 < m := by omega
  clear hl h hx hd h0 h6
  go_enter Tryz.func8, Tryz.ntmps8
  go_wp2_with fail
  go_ret2
  exact ⟨rfl, ((Below.refl _ _).alloc (Nat.le_refl _) _).alloc (by simp) _⟩

theorem setB_cell {W : World} {wb k : Nat} (h : wb ≠ k) (o : Obj) (i : Nat) : (ChangeMaps.setBlock W wb o).cell? ⟨k, i, none⟩ = W.cell? ⟨k, i, none⟩ := World.cell?_of_block (by simp [ChangeMaps.setBlock, Array.getElem?_setIfInBounds, h])
theorem ne_of_map {w : World} {wb k : Nat} {es : Array MapEntry} {c : Nat} {cs : Array Value} {t : TypeId} (h : w.heap[wb]? = some (.map es c)) (hk : w.heap[k]? = some (.cells cs t)) : wb ≠ k := fun e => by
  rw [e, hk] at h; cases h
theorem TabAt.step {w4 w' : World} {turn' : Int} {Wt' : List (Int × Value)} (h : TabAt w B t nb wb turn M E Wt) (hb : Below w.heap.size w w4) {n : Nm} (hn : n ∈ keysM M) {qb : Nat} {hv0 wv0 hv' wv' : Value} {Q0 Q' : Qu} (hen : E n = ⟨qb, hv0, wv0, Q0⟩) (hm : Moved (fun i => i = t ∨ i = wb ∨ qBlk qb hv0 wv0 i) w4 w') (hq : QAt w' B qb hv' wv' Q') (hT : WaitAt w' t nb wb turn' Wt') (hv : ∀ x ∈ Wt', ∃ k : Nm, x.2 = k.v) (hown : ∀ i, qBlk qb hv' wv' i → qBlk qb hv0 wv0 i ∨ w4.heap.size ≤ i) :
    TabAt w' B t nb wb turn' M (updE E n ⟨qb, hv', wv', Q'⟩) Wt' ∧ qOf M (updE E n ⟨qb, hv', wv', Q'⟩) n = Q' ∧ (∀ k, k ≠ n → qOf M (updE E n ⟨qb, hv', wv', Q'⟩) k = qOf M E k) ∧ Moved (Own t nb wb M E) w w' ∧ ∀ i, Own t nb wb M (updE E n ⟨qb, hv', wv', Q'⟩) i → Own t nb wb M E i ∨ w.heap.size ≤ i := by
  have ho : ∀ i, (E n).own i ↔ qBlk qb hv0 wv0 i := fun i => by rw [hen]; exact Iff.rfl
  have hqb : (E n).qb = qb := by rw [hen]
  have hm' : Moved (fun i => i = t ∨ i = wb ∨ (E n).own i) w4 w' := hm.mono fun i _ h => h.imp id (fun h => h.imp id (ho i).2)
  have hu := (h.below hb).upd hn (hv' := hv') (wv' := wv') (Q' := Q') hm' (by rw [hqb]; exact hq) hT hv (fun i hi => (hown i (by rw [hqb] at hi; exact hi)).imp (ho i).2 id)
  have ho2 := own_upd (t := t) (nb := nb) (wb := wb) (E := E) hn (hv' := hv') (wv' := wv') (Q' := Q') (s := w4.heap.size) (fun i hi => (hown i (by rw [hqb] at hi; exact hi)).imp (ho i).2 id)
  rw [hqb] at hu ho2
  obtain ⟨q1, q2⟩ := qOf_upd (E := E) (e := ⟨qb, hv', wv', Q'⟩) hn
  exact ⟨hu, q1, q2, (Moved.of_below hb).trans ((Moved.tab (nb := nb) hn hm').mono fun i _ h => .inl h), fun i hi => (ho2 i hi).imp id (fun h => Nat.le_trans hb.size h)⟩
theorem WaitAt.upd {w : World} {t nb wb : Nat} {turn : Int} {Wt : List (Int × Value)} (h : WaitAt w t nb wb turn Wt) (x : Int) (v : Value) : ∃ od, (∀ W : World, W.heap[wb]? = w.heap[wb]? → (Instr.mapUpdate 50 (.map (some wb)) (.int .i64 x) v).run Tryz.prog W = .ok () (ChangeMaps.setBlock W wb od)) ∧ ∀ W : World, W.heap[wb]? = w.heap[wb]? → W.heap[t]? = w.heap[t]? → WaitAt (ChangeMaps.setBlock W wb od) t nb wb turn (updK x v Wt) := by
  obtain ⟨es, clk, hm1, hm2, hm3⟩ := h.map
  obtain ⟨od, hod⟩ := run_mapUpdate_k (P := Tryz.prog) Tryz.underlying50 (keyLaw_int Tryz.underlying3) v wb Wt x es clk hm2 hm3
  have hne : wb ≠ t := fun e => by
    have h1 := h.tab
    rw [← e, hm1] at h1; cases h1
  refine ⟨od, fun W hW => (hod W (hW.trans hm1)).1, fun W hW hT => ⟨?_, (hod W (hW.trans hm1)).2⟩⟩
  rw [← h.tab, ← hT]
  simp [ChangeMaps.setBlock, Array.getElem?_setIfInBounds, hne]
theorem vals_upd {Wt : List (Int × Value)} {x : Int} {n : Nm} (h : ∀ y ∈ Wt, ∃ k : Nm, y.2 = k.v) : ∀ y ∈ updK x n.v Wt, ∃ k : Nm, y.2 = k.v := fun y hy => by
  rcases mem_upd hy with rfl | hy
  · exact ⟨n, rfl⟩
  · exact h y hy
set_option maxHeartbeats 3000000 in
set_option maxRecDepth 100000 in
theorem ask_old (h : TabAt w B t nb wb turn M E Wt) (x m : Int) (n : Nm) (h0 : 0 < m) (h6 : m ≤ 6) (hx : x ∉ keysM Wt) (hn : n ∈ keysM M) (hN : (qOf M E n).H.length + (qOf M E n).W.length ≤ 100000) (hturn : 0 ≤ turn ∧ turn ≤ 1000000) :
    Calls Tryz.prog 8 #[.pointer (some ⟨t, 0, none⟩), .int .i64 x, n.v, .int .i64 m] w fun e w' => e = .returned (.tuple #[.bool (askQ (qOf M E n) x m turn).2.1, .int .i64 0]) ∧
      ∃ M' E' Wt', TabAt w' B t nb wb (askQ (qOf M E n) x m turn).2.2 M' E' Wt' ∧ qOf M' E' n = (askQ (qOf M E n) x m turn).1 ∧ (∀ k, k ≠ n → qOf M' E' k = qOf M E k) ∧ (∀ k, k ∈ keysM Wt' ↔ k ∈ keysM Wt ∨ ((askQ (qOf M E n) x m turn).2.1 = false ∧ k = x)) ∧ Moved (Own t nb wb M E) w w' ∧ (∀ i, Own t nb wb M' E' i → Own t nb wb M E i ∨ w.heap.size ≤ i) ∧ M'.length ≤ M.length + 1 := by
  show Calls _ _ #[.pointer (some ⟨t, 0, none⟩), .int .i64 x, .agg #[.int .i64 n.s, .string n.i], .int .i64 m] _ _
  have mixed : Tryz.prog.follows Departure.mixedOrders = true := by kernel_rfl
  obtain ⟨c0, c1, c2⟩ := h.cells
  obtain ⟨kn, hl⟩ := h.lookW x
  have htl := h.wait.lt.1
  have hnl := h.names.lt
  have hlw := hl (w.alloc (.cells #[.int .i64 n.s, .string n.i] 31)) (((Below.refl _ _).alloc (Nat.le_refl _) _).block wb h.wait.lt.2)
  have hd : decide (x ∈ keysM Wt) = false := by simp [hx]
  rw [hd] at hlw
  have h1 : ¬ m ≤ 0 := by omega
  have h2 : ¬ 6 < m := by omega
  have HT := Lib.hid h
  have HX := Lib.hid hx
  have HN := Lib.hid hN
  have HTu := Lib.hid hturn
  have hb0 : Below w.heap.size w (w.alloc (.cells #[.int .i64 n.s, .string n.i] 31)) := (Below.refl _ _).alloc (Nat.le_refl _) _
  have HL : Hid (∀ W : World, W.heap[nb]? = w.heap[nb]? → (Instr.lookup 49 (.map (some nb)) (.agg #[.int .i64 n.s, .string n.i]) false).run Tryz.prog W = .ok (if n ∈ keysM M then ptrQ (E n).qb else .pointer none) W) := Lib.hid (h.look n)
  have HKn := Lib.hid hn
  obtain ⟨⟨qb, hv, wv, Q⟩, hen⟩ : ∃ en, E n = en := ⟨_, rfl⟩
  have HEn := Lib.hid hen
  rw [qOf_in hn, hen]
  have hqe : (E n).qb = qb := by rw [hen]
  have hN' : Q.H.length + Q.W.length ≤ 100000 := by rw [qOf_in hn, hen] at hN; exact hN
  have HN2 := Lib.hid hN'
  clear hN' hen
  clear hl h hx hd h0 h6 hN hturn
  go_enter Tryz.func8, Tryz.ntmps8
  go_wp2_with fail
  have hbx : Below w.heap.size w ((w.alloc (.cells #[.int .i64 n.s, .string n.i] 31)).alloc (.cells #[.int .i64 kn.s, .string kn.i] 31)) := hb0.alloc (by simp) _
  have hnx : ((w.alloc (.cells #[.int .i64 n.s, .string n.i] 31)).alloc (.cells #[.int .i64 kn.s, .string kn.i] 31)).heap[w.heap.size]? = some (.cells #[.int .i64 n.s, .string n.i] 31) := (Below.heap_alloc _ _ _ (by simp)).trans (heap_alloc_new w _)
  have hzx : w.heap.size < ((w.alloc (.cells #[.int .i64 n.s, .string n.i] 31)).alloc (.cells #[.int .i64 kn.s, .string kn.i] 31)).heap.size := by simp; omega
  have HBx := Lib.hid hbx
  have HNx := Lib.hid hnx
  clear hb0 hbx hnx hlw
  generalize (w.alloc (.cells #[.int .i64 n.s, .string n.i] 31)).alloc (.cells #[.int .i64 kn.s, .string kn.i] 31) = W1 at *
  have hT1 := HT.out.below HBx.out
  have htl1 := hT1.wait.lt.1
  have hnl1 := hT1.names.lt
  have hg0 := fun k os => cell_grown (w := W1) (a := ⟨t, 0, none⟩) htl1 hT1.cells.1 k os
  have hg1 := fun k os => cell_grown (w := W1) (a := ⟨w.heap.size, 0, none⟩) hzx ((cell_of_block HNx.out 0).trans rfl) k os
  have hg2 := fun k os => cell_grown (w := W1) (a := ⟨w.heap.size, 1, none⟩) hzx ((cell_of_block HNx.out 1).trans rfl) k os
  have hl5 : ∀ k os, (Instr.lookup 49 (.map (some nb)) (.agg #[.int .i64 n.s, .string n.i]) false).run Tryz.prog (grow (W1.drewN k) os) = .ok (.pointer (some ⟨qb, 0, none⟩)) (grow (W1.drewN k) os) := fun k os => by
    rw [HL.out _ (((Gr.below (w := W1) ⟨k, os, rfl⟩).block nb hnl1).trans (HBx.out.block nb hnl)), if_pos HKn.out, hqe]; rfl
  clear hT1 hn hqe
  refine wp_region_quiet_grown (by assumption) (by kernel_rfl) ?_
  iterate 7 (with_reducible refine wpQuiet_step (fun K hK => ?_); go_simp; with_reducible refine hK _ ?_; clear hK K)
  with_reducible refine wpQuiet_nil ?_
  with_reducible intro _ hw'
  obtain ⟨⟨nr, osr⟩, hw''⟩ := hw'
  subst hw''
  have hbg := (Gr.below (w := W1) ⟨nr, osr, rfl⟩)
  have HB2 := Lib.hid (HBx.out.trans (hbg.mono (by omega)))
  have HN2' := Lib.hid ((hbg.block _ hzx).trans HNx.out)
  clear hg0 hg1 hg2 hl5 hzx htl1 hnl1 HBx HNx hbg
  generalize grow (W1.drewN nr) osr = W2 at *
  have HT2 := Lib.hid (HT.out.below HB2.out)
  have hQ2 := HT2.out.qat n HKn.out
  rw [HEn.out] at hQ2
  have HQ2 := Lib.hid hQ2
  clear hQ2
  go_wp2_with fail
  refine (at_any HQ2.out x).mono ?_; rintro e W3 ⟨rfl, hgr⟩
  have HB3 := Lib.hid (HB2.out.trans (hgr.below.mono HB2.out.size))
  have HN3 := Lib.hid ((hgr.below.block _ (Array.getElem?_eq_some_iff.1 HN2'.out).1).trans HN2'.out)
  have HQ3 := Lib.hid (HQ2.out.below hgr.below)
  clear hgr
  rcases atL_cases x Q.H with ⟨he, -⟩ | ⟨i, hi, he, -, -⟩
  · have HAsk := Lib.hid (askQ_new (m := m) (t := turn) he)
    rw [he]
    have c4 := HQ3.out.cell0
    have hql3 := (HQ3.out.lt (.inl rfl)).2
    have c5 := HQ3.out.cell1
    clear he
    go_upto_region 23 with fail
    go_cut [125] (fun s125 wc => s125 = .bool (Q.W.isEmpty && !wantL Q.H && freeL x m Q.H) ∧ Below W3.heap.size W3 wc)
    case first =>
      obtain ⟨aw, capw, hwv, hcw, hmw, -⟩ := own_cap HQ3.out.wish
      have hwl : Q.W.length ≤ 9223372036854775807 := by simp only [maxLen] at hmw; omega
      rw [hwv] at c5
      clear hmw hcw hwv
      by_cases hw0 : Q.W = []
      · have hl0 : Q.W.length = 0 := by rw [hw0]; rfl
        have he0 : Q.W.isEmpty = true := by rw [hw0]; rfl
        have HE0 := Lib.hid he0
        have hl1 : ((Q.W.length : Int) == 0) = true := by rw [hl0]; rfl
        clear hw0 he0
        obtain ⟨wq, hwq⟩ : ∃ wq, wantL Q.H = wq := ⟨_, rfl⟩
        have HWn := Lib.hid (want_any HQ3.out)
        rw [hwq] at HWn
        have HWq := Lib.hid hwq
        clear hwq
        cases wq with
        | true =>
          go_wp2_with fail
          refine HWn.out.mono ?_; rintro e W4 ⟨rfl, hg4⟩
          go_wp2_with fail
          go_meet
          exact ⟨by rw [HE0.out, HWq.out]; rfl, hg4.below⟩
        | false =>
          go_wp2_with fail
          refine HWn.out.mono ?_; rintro e W4 ⟨rfl, hg4⟩
          have HG4 := Lib.hid hg4.below
          have HFr := Lib.hid (free_any (HQ3.out.below hg4.below) x m)
          clear hg4
          go_wp2_with fail
          refine HFr.out.mono ?_; rintro e W5 ⟨rfl, hg5⟩
          have HG5 := Lib.hid (HG4.out.trans (hg5.below.mono HG4.out.size))
          clear hg5
          go_wp2_with fail
          go_meet
          exact ⟨by rw [HE0.out, HWq.out]; rfl, HG5.out⟩
      · have hl0 : Q.W.length ≠ 0 := fun e => hw0 (List.length_eq_zero_iff.1 e)
        have he0 : Q.W.isEmpty = false := by cases hq : Q.W with
          | nil => exact absurd hq hw0
          | cons a b => rfl
        have HE0 := Lib.hid he0
        have hl1 : ((Q.W.length : Int) == 0) = false := by simp; exact hw0
        clear hw0 he0
        go_wp2_with fail
        go_meet
        exact ⟨by rw [HE0.out]; rfl, Below.refl _ _⟩
    case rest =>
      obtain ⟨rfl, hb35⟩ := hcut
      obtain ⟨W5, rfl⟩ : ∃ W5 : World, W5 = wc := ⟨_, rfl⟩
      have hz3 := HB3.out.size
      have HB5 := Lib.hid (HB3.out.trans (hb35.mono HB3.out.size))
      have HN5 := Lib.hid ((hb35.block _ (Array.getElem?_eq_some_iff.1 HN3.out).1).trans HN3.out)
      have HQ5 := Lib.hid (HQ3.out.below hb35)
      have HT5 := Lib.hid (HT.out.below HB5.out)
      have hqf := HQ5.out.frozen 0
      have hqf1 := HQ5.out.frozen 1
      clear hb35 hz3 c4 c5 hql3
      have c4 := HQ5.out.cell0
      have c5 := HQ5.out.cell1
      have hql := (HQ5.out.lt (.inl rfl)).2
      obtain ⟨gv, hgv⟩ : ∃ gv, (Q.W.isEmpty && !wantL Q.H && freeL x m Q.H) = gv := ⟨_, rfl⟩
      have hA := HAsk.out
      rw [hgv] at hA
      have HA := Lib.hid hA
      rw [hgv]
      clear hA hgv
      cases gv with
      | true =>
        obtain ⟨i0, hi, hz0, hz1, hz2⟩ := info_parts infoHd
        have hone : ∀ u ∈ (#[.int .i64 x, .int .i64 m, .int .i64 0, .int .i64 0] : Array Value).toList, u.oneCell' = true := by
          intro u hu; simp at hu; rcases hu with rfl | rfl | rfl <;> rfl
        have hba : Below W5.heap.size W5 (W5.alloc (.cells #[.int .i64 x, .int .i64 m, .int .i64 0, .int .i64 0] 60)) := (Below.refl _ _).alloc (Nat.le_refl _) _
        have HBA := Lib.hid hba
        have HQA := Lib.hid (HQ5.out.below hba)
        have hown2 := HQA.out.held
        have hnew : (W5.alloc (.cells #[.int .i64 x, .int .i64 m, .int .i64 0, .int .i64 0] 60)).heap[W5.heap.size]? = some (.cells #[.int .i64 x, .int .i64 m, .int .i64 0, .int .i64 0] 60) := heap_alloc_new W5 _
        have hszA : (W5.alloc (.cells #[.int .i64 x, .int .i64 m, .int .i64 0, .int .i64 0] 60)).heap.size = W5.heap.size + 1 := by simp
        have hn2 : Q.H.length ≤ 100000 := by have := HN2.out; omega
        have hBA : B ≤ W5.heap.size := by have := HQ5.out.lt (.inl rfl); omega
        clear hba
        go_wp2_with (at_builtin; refine wpList_append_lies _ rfl _ _ 54 rfl B 60 i0 _ 4 32 Tryz.underlying54 hi hz0 hz1 hz2 rfl (by decide) _ Q.H.length _ rfl hown2 ⟨W5.heap.size, 0, none⟩ 1 1 (#[.int .i64 x, .int .i64 m, .int .i64 0, .int .i64 0] : Array Value).toList rfl rfl (World.news_of_block hnew) hone (by omega) (by simp only [maxLen]; omega) (by omega) (by rw [hszA]; omega) (W5.heap.size + 1) hszA ?_)
        intro gg capg w7 hown7 hgrow hat hltg
        have hp7 := push_holds HQA.out hgrow (H' := Q.H ++ [⟨x, m, 0, 0⟩]) (by rw [hdRow_snoc, List.length_append]; exact hown7)
        have hc7 : w7.cell? ⟨qb, 0, none⟩ = some hv := (cell_of_block hp7.1 0).trans rfl
        have ff7 : w7.frozen? ⟨qb, 0, none⟩ = false := by simp [World.frozen?, hp7.1]
        have hq7 : qb < w7.heap.size := (Array.getElem?_eq_some_iff.1 hp7.1).1
        have HTA := Lib.hid (HT5.out.below HBA.out)
        obtain ⟨es0, clk0, hmA, -⟩ := HTA.out.wait.map
        have hW9 : WaitAt (w7.setCell ⟨qb, 0, none⟩ (.slice (some ⟨gg, 0, none⟩) (Q.H.length + 1) capg)) t nb wb turn Wt := HTA.out.wait.keep (push_far hgrow t HTA.out.wait.lt.1 (heap_ne_ty HTA.out.wait.tab HQA.out.blk (by decide)) (own_ne_bl hown2 HTA.out.wait.tab (by decide))) (push_far hgrow wb HTA.out.wait.lt.2 (ne_of_map hmA HQA.out.blk) (own_ne_map hown2 hmA))
        have hM9 : Moved (fun i => i = t ∨ i = wb ∨ qBlk qb hv wv i) W5 (w7.setCell ⟨qb, 0, none⟩ (.slice (some ⟨gg, 0, none⟩) (Q.H.length + 1) capg)) := ((Moved.of_below HBA.out).grown hgrow (fun k hk => .inl (.inr (.inr (.inr (.inl hk)))))).setCell (p := ⟨qb, 0, none⟩) (.inl (.inr (.inr (.inl rfl)))) _
        have HP7 := Lib.hid hp7.2
        have HW9 := Lib.hid hW9
        have HM9 := Lib.hid hM9
        have HAt := Lib.hid hat
        clear hp7 hW9 hM9 hat hown2 hnew hszA hone hgrow hown7 hmA hi hz0 hz1 hz2 hn2 hBA hltg c4 c5 hqf hqf1 hql
        go_wp2_with fail
        go_ret2
        have hA := HA.out
        simp only [reduceIte, Bool.false_eq_true] at hA
        rw [hA]
        obtain ⟨r1, r2, r3, r4, r5⟩ := HT.out.step HB5.out HKn.out HEn.out HM9.out (hv' := .slice (some ⟨gg, 0, none⟩) (Q.H.length + 1) capg) (Q' := ⟨Q.H ++ [⟨x, m, 0, 0⟩], Q.W⟩) HP7.out HW9.out HT.out.vals (fun i hi => by
          rcases hi with hi | hi | hi
          · exact .inl (.inl hi)
          · simp only [Value.ownBlock, Option.some.injEq] at hi
            subst hi
            rcases HAt.out with h | h
            · exact .inl (.inr (.inl h))
            · right; omega
          · exact .inl (.inr (.inr hi)))
        exact ⟨rfl, M, _, _, r1, r2, r3, fun k => by simp, r4, r5, by omega⟩
      | false =>
        obtain ⟨i0, hi, hz0, hz1, hz2⟩ := info_parts infoWs
        have hone : ∀ u ∈ (#[.int .i64 x, .int .i64 m] : Array Value).toList, u.oneCell' = true := by
          intro u hu; simp at hu; rcases hu with rfl | rfl <;> rfl
        have hba : Below W5.heap.size W5 (W5.alloc (.cells #[.int .i64 x, .int .i64 m] 64)) := (Below.refl _ _).alloc (Nat.le_refl _) _
        have HBA := Lib.hid hba
        have HQA := Lib.hid (HQ5.out.below hba)
        have hown2 := HQA.out.wish
        have hnew : (W5.alloc (.cells #[.int .i64 x, .int .i64 m] 64)).heap[W5.heap.size]? = some (.cells #[.int .i64 x, .int .i64 m] 64) := heap_alloc_new W5 _
        have hszA : (W5.alloc (.cells #[.int .i64 x, .int .i64 m] 64)).heap.size = W5.heap.size + 1 := by simp
        have hn2 : Q.W.length ≤ 100000 := by have := HN2.out; omega
        have hBA : B ≤ W5.heap.size := by have := HQ5.out.lt (.inl rfl); omega
        clear hba
        go_wp2_with (at_builtin; refine wpList_append_lies _ rfl _ _ 55 rfl B 64 i0 _ 2 16 Tryz.underlying55 hi hz0 hz1 hz2 rfl (by decide) _ Q.W.length _ rfl hown2 ⟨W5.heap.size, 0, none⟩ 1 1 (#[.int .i64 x, .int .i64 m] : Array Value).toList rfl rfl (World.news_of_block hnew) hone (by omega) (by simp only [maxLen]; omega) (by omega) (by rw [hszA]; omega) (W5.heap.size + 1) hszA ?_)
        intro gg capg w7 hown7 hgrow hat hltg
        have hp7 := push_wishes HQA.out hgrow (W' := Q.W ++ [⟨x, m⟩]) (by rw [wsRow_snoc, List.length_append]; exact hown7)
        have hc7 : w7.cell? ⟨qb, 1, none⟩ = some wv := (cell_of_block hp7.1 1).trans rfl
        have ff7 : w7.frozen? ⟨qb, 1, none⟩ = false := by simp [World.frozen?, hp7.1]
        have hq7 : qb < w7.heap.size := (Array.getElem?_eq_some_iff.1 hp7.1).1
        have HTA := Lib.hid (HT5.out.below HBA.out)
        obtain ⟨es0, clk0, hmA, -⟩ := HTA.out.wait.map
        have hNA := (HBA.out.block _ (Array.getElem?_eq_some_iff.1 HN5.out).1).trans HN5.out
        have hW9 : WaitAt (w7.setCell ⟨qb, 1, none⟩ (.slice (some ⟨gg, 0, none⟩) (Q.W.length + 1) capg)) t nb wb turn Wt := HTA.out.wait.keep (push_far hgrow t HTA.out.wait.lt.1 (heap_ne_ty HTA.out.wait.tab HQA.out.blk (by decide)) (own_ne_bl hown2 HTA.out.wait.tab (by decide))) (push_far hgrow wb HTA.out.wait.lt.2 (ne_of_map hmA HQA.out.blk) (own_ne_map hown2 hmA))
        have hN9 := (push_far (qb := qb) (i := 1) (v := .slice (some ⟨gg, 0, none⟩) (Q.W.length + 1) capg) hgrow w.heap.size (Array.getElem?_eq_some_iff.1 hNA).1 (heap_ne_ty hNA HQA.out.blk (by decide)) (own_ne_bl hown2 hNA (by decide))).trans hNA
        have hM9 : Moved (fun i => i = t ∨ i = wb ∨ qBlk qb hv wv i) W5 (w7.setCell ⟨qb, 1, none⟩ (.slice (some ⟨gg, 0, none⟩) (Q.W.length + 1) capg)) := ((Moved.of_below HBA.out).grown hgrow (fun k hk => .inl (.inr (.inr (.inr (.inr hk)))))).setCell (p := ⟨qb, 1, none⟩) (.inl (.inr (.inr (.inl rfl)))) _
        have HP7 := Lib.hid hp7.2
        have HW9 := Lib.hid hW9
        have HM9 := Lib.hid hM9
        have HAt := Lib.hid hat
        have HN9 := Lib.hid hN9
        clear hp7 hW9 hM9 hat hown2 hnew hszA hone hgrow hown7 hmA hi hz0 hz1 hz2 hn2 hBA hltg c4 c5 hqf hqf1 hql hNA hN9
        go_upto_region 27 with fail
        have hP9 : QAt (w7.setCell ⟨qb, 1, none⟩ (.slice (some ⟨gg, 0, none⟩) (Q.W.length + 1) capg)) B qb hv (.slice (some ⟨gg, 0, none⟩) (Q.W.length + 1) capg) ⟨Q.H, Q.W ++ [⟨x, m⟩]⟩ := HP7.out
        have HP9 := Lib.hid hP9
        clear HP7 hP9 hc7 ff7 hq7
        generalize w7.setCell ⟨qb, 1, none⟩ (.slice (some ⟨gg, 0, none⟩) (Q.W.length + 1) capg) = W9 at *
        obtain ⟨od, hrun, hWu⟩ := HW9.out.upd x n.v
        have hrun' : ∀ W : World, W.heap[wb]? = W9.heap[wb]? → (Instr.mapUpdate 50 (.map (some wb)) (.int .i64 x) (.agg #[.int .i64 n.s, .string n.i])).run Tryz.prog W = .ok () (ChangeMaps.setBlock W wb od) := hrun
        have hd1 := hrun' W9 rfl
        have hd2 := hrun' W9.drew rfl
        have HWu := Lib.hid (hWu W9.drew rfl rfl)
        have ct : W9.cell? ⟨t, 1, none⟩ = some (.map (some wb)) := (cell_of_block HW9.out.tab 1).trans rfl
        have cx : W9.cell? ⟨w.heap.size, 0, none⟩ = some (.int .i64 n.s) := (cell_of_block HN9.out 0).trans rfl
        have cy : W9.cell? ⟨w.heap.size, 1, none⟩ = some (.string n.i) := (cell_of_block HN9.out 1).trans rfl
        obtain ⟨es, clk, hm1, -⟩ := HW9.out.map
        have HS1 := Lib.hid fun W => setB_cell (W := W) (ne_of_map hm1 HW9.out.tab) od 1
        have HS2 := Lib.hid fun W i => setB_cell (W := W) (ne_of_map hm1 HN9.out) od i
        have HQ10 := Lib.hid (QAt.setMap (w := W9.drew) (HP9.out.keep fun _ _ => rfl) hm1 od)
        have HM10 := Lib.hid (HM9.out.drew.setBlock HW9.out.lt.2 (.inl (.inr (.inl rfl))) od)
        clear hrun hrun' hWu hm1
        (go_region_held3 (fun W => W.cell? ⟨t, 1, none⟩ = some (.map (some wb)) ∧ W.cell? ⟨w.heap.size, 0, none⟩ = some (.int .i64 n.s) ∧ W.cell? ⟨w.heap.size, 1, none⟩ = some (.string n.i)) (first | exact ⟨ct, cx, cy⟩ | exact ⟨(HS1.out _).trans ct, (HS2.out _ _).trans cx, (HS2.out _ _).trans cy⟩ | go_keep) (fail))
        go_wp2_with fail
        go_ret2
        have hA := HA.out
        simp only [reduceIte, Bool.false_eq_true] at hA
        rw [hA]
        obtain ⟨r1, r2, r3, r4, r5⟩ := HT.out.step HB5.out HKn.out HEn.out HM10.out HQ10.out HWu.out (vals_upd HT.out.vals) (fun i hi => by
          rcases hi with hi | hi | hi
          · exact .inl (.inl hi)
          · exact .inl (.inr (.inl hi))
          · simp only [Value.ownBlock, Option.some.injEq] at hi
            subst hi
            rcases HAt.out with h | h
            · exact .inl (.inr (.inr h))
            · right; omega)
        exact ⟨rfl, M, _, _, r1, r2, r3, fun k => by rw [keys_upd]; simp [or_comm], r4, r5, by omega⟩
  · have HAsk := Lib.hid (askQ_at (m := m) (t := turn) he hi)
    rw [he]
    obtain ⟨a, cap, rfl, hcap, hmx, ha⟩ := own_cap HQ3.out.held
    obtain ⟨gb, rfl, hgb, hgl⟩ := ha.resolve_left (by omega)
    obtain ⟨e0, e1, e2, e3⟩ := hd_cells HQ3.out.held i hi
    have c4 := HQ3.out.cell0
    have hc1 : (0 : Int) ≤ (i : Int) := Int.natCast_nonneg _
    have hc2 : (i : Int) < (Q.H.length : Int) := by omega
    have hc3 : decide ((i : Int) < 0) = false := by simp
    have HRm := Lib.hid (hdRow_m Q.H i hi)
    have HRw := Lib.hid (hdRow_wt Q.H i hi)
    have HHi := Lib.hid hi
    clear he hcap hmx hgb ha
    generalize Q.H[i] = hd at *
    go_wp2_with fail
    refine (join_any _ _ _).mono ?_; rintro e W4 ⟨rfl, rfl⟩
    generalize joinL hd.m m = j at *
    by_cases hj : j = hd.m
    · have hjb : (j == hd.m) = true := by simp [hj]
      have HJ := Lib.hid hj
      clear hj
      go_wp2_with fail
      go_ret2
      have hA := HAsk.out
      rw [if_pos HJ.out] at hA
      rw [hA]
      refine ⟨rfl, M, E, Wt, HT.out.below HB3.out, by rw [qOf_in HKn.out, HEn.out], fun _ _ => rfl, fun k => by simp, .of_below HB3.out, fun _ h => .inl h, by omega⟩
    · have hjb : (j == hd.m) = false := by simp [hj]
      have HJ := Lib.hid hj
      clear hj
      go_wp2_with fail
      refine (free_any HQ3.out x j).mono ?_; rintro e W5 ⟨rfl, hgr⟩
      have hz3 := HB3.out.size
      have HB5 := Lib.hid (HB3.out.trans (hgr.below.mono HB3.out.size))
      have HN5 := Lib.hid ((hgr.below.block _ (Array.getElem?_eq_some_iff.1 HN3.out).1).trans HN3.out)
      have HQ5 := Lib.hid (HQ3.out.below hgr.below)
      have e0' := (hgr.below.cell (p := ⟨gb, i * 4, none⟩) hgl).trans e0
      have e1' := (hgr.below.cell (p := ⟨gb, i * 4 + 1, none⟩) hgl).trans e1
      have e2' := (hgr.below.cell (p := ⟨gb, i * 4 + 2, none⟩) hgl).trans e2
      have e3' := (hgr.below.cell (p := ⟨gb, i * 4 + 3, none⟩) hgl).trans e3
      have f1 := own_frozen HQ5.out.held (i * 4 + 1)
      have f2 := own_frozen HQ5.out.held (i * 4 + 2)
      have f3 := own_frozen HQ5.out.held (i * 4 + 3)
      clear hgr e0 e1 e2 e3 hz3 c4 hgl
      have hgl := (HQ5.out.held.lt gb rfl).2
      have HT5 := Lib.hid (HT.out.below HB5.out)
      have hne : gb ≠ t ∧ gb ≠ nb ∧ gb ≠ wb := HT5.out.own_ne HKn.out (by rw [HEn.out]; exact .inr (.inl rfl))
      have hqg : qb ≠ gb := fun e => by
        obtain ⟨c, hc⟩ := own_blkv HQ5.out.held (g := gb) rfl
        exact heap_ne_ty HQ5.out.blk hc (by decide) e
      have hwg : ∀ g, wv.ownBlock = some g → g ≠ gb := fun g hg e => by
        obtain ⟨c, hc⟩ := own_blkv HQ5.out.held (g := gb) rfl
        obtain ⟨c', hc'⟩ := own_blkv HQ5.out.wish hg
        exact heap_ne_ty hc' hc (by decide) e
      have HNe := Lib.hid hne
      have HQg := Lib.hid hqg
      have HWg := Lib.hid hwg
      clear hne hqg hwg
      have hA := HAsk.out
      rw [if_neg HJ.out] at hA
      have HA := Lib.hid hA
      clear hA
      generalize freeL x j Q.H = fq at *
      cases fq with
      | true =>
        go_wp2_with fail
        go_ret2
        have hA := HA.out
        simp only [reduceIte, Bool.false_eq_true] at hA
        rw [hA]
        have hfar : ∀ k, k ≠ gb → (W5.setCell ⟨gb, i * 4 + 1, none⟩ (.int .i64 j)).heap[k]? = W5.heap[k]? := fun k hk => heap_far _ _ _ _ hk
        have hown5 : (W5.setCell ⟨gb, i * 4 + 1, none⟩ (.int .i64 j)).ownsRow B 60 4 (.slice (some ⟨gb, 0, none⟩) Q.H.length cap) Q.H.length (hdRow (Q.H.set i ⟨hd.x, j, hd.w, hd.t⟩)) := by
          rw [HRm.out]
          exact own_set HQ5.out.held _ (by omega) _
        obtain ⟨r1, r2, r3, r4, r5⟩ := HT.out.step (w' := W5.setCell ⟨gb, i * 4 + 1, none⟩ (.int .i64 j)) (turn' := turn) (Wt' := Wt) HB5.out HKn.out HEn.out (hv' := .slice (some ⟨gb, 0, none⟩) Q.H.length cap) (wv' := wv) (Q' := ⟨Q.H.set i ⟨hd.x, j, hd.w, hd.t⟩, Q.W⟩)
          ((Moved.refl _ _).setCell (.inl (.inr (.inr (.inr (.inl rfl))))) _)
          ⟨(hfar qb HQg.out).trans HQ5.out.blk, by rw [List.length_set]; exact hown5, own_keep HQ5.out.wish fun g hg => hfar g (HWg.out g hg), HQ5.out.le⟩
          (HT5.out.wait.keep (hfar t (Ne.symm HNe.out.1)) (hfar wb (Ne.symm HNe.out.2.2))) HT.out.vals (fun i hi => .inl hi)
        exact ⟨rfl, M, _, Wt, r1, r2, r3, fun k => by simp, r4, r5, by omega⟩
      | false =>
        have hc5 := HT5.out.cells.2.2
        have ht5 := HT5.out.wait.lt.1
        have hft : W5.frozen? ⟨t, 2, none⟩ = false := by simp [World.frozen?, HT5.out.wait.tab]
        have hwr : IntKind.i64.wrap (turn + 1) = turn + 1 := IntWalk.i64_in _ (by have := HTu.out; omega)
        go_upto_region 20 with fail
        have htb := heap_blk HT5.out.wait.tab 2 (.int .i64 (turn + 1))
        have hfa : ∀ k, k ≠ t → (W5.setCell ⟨t, 2, none⟩ (.int .i64 (turn + 1))).heap[k]? = W5.heap[k]? := fun k hk => heap_far _ _ _ _ hk
        have hM6 : Moved (fun i => i = t ∨ i = wb ∨ qBlk qb (.slice (some ⟨gb, 0, none⟩) Q.H.length cap) wv i) W5 (W5.setCell ⟨t, 2, none⟩ (.int .i64 (turn + 1))) := (Moved.refl _ _).setCell (.inl (.inl rfl)) _
        have hW6 : WaitAt (W5.setCell ⟨t, 2, none⟩ (.int .i64 (turn + 1))) t nb wb (turn + 1) Wt := ⟨htb.trans rfl, HT5.out.wait.map.kept (hfa wb (Ne.symm HT5.out.t_ne.2))⟩
        have hown : ∀ i, qBlk qb (.slice (some ⟨gb, 0, none⟩) Q.H.length cap) wv i → i ≠ t := fun i hi => (HT5.out.own_ne HKn.out (by rw [HEn.out]; exact hi)).1
        have hQ6 := HQ5.out.keep (w' := W5.setCell ⟨t, 2, none⟩ (.int .i64 (turn + 1))) fun k hk => hfa k (hown k hk)
        have hN6 := (hfa w.heap.size (heap_ne_ty HN5.out HT5.out.wait.tab (by decide))).trans HN5.out
        have hz6 : (W5.setCell ⟨t, 2, none⟩ (.int .i64 (turn + 1))).heap.size = W5.heap.size := by simp
        have HM6 := Lib.hid hM6
        have HW6 := Lib.hid hW6
        have HQ6 := Lib.hid hQ6
        have HN6 := Lib.hid hN6
        have HZ6 := Lib.hid hz6
        clear htb hfa hM6 hW6 hown hQ6 hN6 hz6 hc5 ht5 hft e0' e1' e2' e3' f1 f2 f3 hgl
        generalize W5.setCell ⟨t, 2, none⟩ (.int .i64 (turn + 1)) = W6 at *
        have hc5 := (cell_of_block HW6.out.tab 2).trans rfl
        have ht5 := HW6.out.lt.1
        obtain ⟨e0, e1, e2, e3⟩ := hd_cells HQ6.out.held i HHi.out
        have f2 := own_frozen HQ6.out.held (i * 4 + 2)
        have f3 := own_frozen HQ6.out.held (i * 4 + 3)
        have hgl := (HQ6.out.held.lt gb rfl).2
        go_upto_region 21 with fail
        have hfar : ∀ k, k ≠ gb → ((W6.setCell ⟨gb, i * 4 + 2, none⟩ (.int .i64 j)).setCell ⟨gb, i * 4 + 3, none⟩ (.int .i64 (turn + 1))).heap[k]? = W6.heap[k]? := fun k hk => (heap_far _ _ _ _ hk).trans (heap_far _ _ _ _ hk)
        have hown9 : ((W6.setCell ⟨gb, i * 4 + 2, none⟩ (.int .i64 j)).setCell ⟨gb, i * 4 + 3, none⟩ (.int .i64 (turn + 1))).ownsRow B 60 4 (.slice (some ⟨gb, 0, none⟩) Q.H.length cap) Q.H.length (hdRow (Q.H.set i ⟨hd.x, hd.m, j, turn + 1⟩)) := by
          rw [HRw.out]
          exact own_set (own_set HQ6.out.held _ (by omega) _) _ (by omega) _
        have hQ9 : QAt ((W6.setCell ⟨gb, i * 4 + 2, none⟩ (.int .i64 j)).setCell ⟨gb, i * 4 + 3, none⟩ (.int .i64 (turn + 1))) B qb (.slice (some ⟨gb, 0, none⟩) Q.H.length cap) wv ⟨Q.H.set i ⟨hd.x, hd.m, j, turn + 1⟩, Q.W⟩ :=
          ⟨(hfar qb HQg.out).trans HQ6.out.blk, by rw [List.length_set]; exact hown9, own_keep HQ6.out.wish fun g hg => hfar g (HWg.out g hg), HQ6.out.le⟩
        have hW9 := HW6.out.keep (hfar t (Ne.symm HNe.out.1)) (hfar wb (Ne.symm HNe.out.2.2))
        have hN9 := (hfar w.heap.size fun e => by
          obtain ⟨c, hc⟩ := own_blkv HQ6.out.held (g := gb) rfl
          exact heap_ne_ty HN6.out hc (by decide) e).trans HN6.out
        have hM9 : Moved (fun i => i = t ∨ i = wb ∨ qBlk qb (.slice (some ⟨gb, 0, none⟩) Q.H.length cap) wv i) W5 ((W6.setCell ⟨gb, i * 4 + 2, none⟩ (.int .i64 j)).setCell ⟨gb, i * 4 + 3, none⟩ (.int .i64 (turn + 1))) := (HM6.out.setCell (p := ⟨gb, i * 4 + 2, none⟩) (.inl (.inr (.inr (.inr (.inl rfl))))) _).setCell (p := ⟨gb, i * 4 + 3, none⟩) (.inl (.inr (.inr (.inr (.inl rfl))))) _
        clear hfar hown9 hc5 ht5 e0 e1 e2 e3 f2 f3 hgl
        generalize (W6.setCell ⟨gb, i * 4 + 2, none⟩ (.int .i64 j)).setCell ⟨gb, i * 4 + 3, none⟩ (.int .i64 (turn + 1)) = W9 at *
        obtain ⟨od, hrun, hWu⟩ := hW9.upd x n.v
        have hrun' : ∀ W : World, W.heap[wb]? = W9.heap[wb]? → (Instr.mapUpdate 50 (.map (some wb)) (.int .i64 x) (.agg #[.int .i64 n.s, .string n.i])).run Tryz.prog W = .ok () (ChangeMaps.setBlock W wb od) := hrun
        have hd1 := hrun' W9 rfl
        have hd2 := hrun' W9.drew rfl
        have HWu := Lib.hid (hWu W9.drew rfl rfl)
        have ct : W9.cell? ⟨t, 1, none⟩ = some (.map (some wb)) := (cell_of_block hW9.tab 1).trans rfl
        have cx : W9.cell? ⟨w.heap.size, 0, none⟩ = some (.int .i64 n.s) := (cell_of_block hN9 0).trans rfl
        have cy : W9.cell? ⟨w.heap.size, 1, none⟩ = some (.string n.i) := (cell_of_block hN9 1).trans rfl
        obtain ⟨es, clk, hm1, -⟩ := hW9.map
        have HS1 := Lib.hid fun W => setB_cell (W := W) (ne_of_map hm1 hW9.tab) od 1
        have HS2 := Lib.hid fun W i => setB_cell (W := W) (ne_of_map hm1 hN9) od i
        have HQ10 := Lib.hid (QAt.setMap (w := W9.drew) (hQ9.keep fun _ _ => rfl) hm1 od)
        have HM10 := Lib.hid (hM9.drew.setBlock hW9.lt.2 (.inl (.inr (.inl rfl))) od)
        clear hrun hrun' hWu hQ9 hW9 hN9 hM9 hm1
        (go_region_held3 (fun W => W.cell? ⟨t, 1, none⟩ = some (.map (some wb)) ∧ W.cell? ⟨w.heap.size, 0, none⟩ = some (.int .i64 n.s) ∧ W.cell? ⟨w.heap.size, 1, none⟩ = some (.string n.i)) (first | exact ⟨ct, cx, cy⟩ | exact ⟨(HS1.out _).trans ct, (HS2.out _ _).trans cx, (HS2.out _ _).trans cy⟩ | go_keep) (fail))
        go_wp2_with fail
        go_ret2
        have hA := HA.out
        simp only [reduceIte, Bool.false_eq_true] at hA
        rw [hA]
        obtain ⟨r1, r2, r3, r4, r5⟩ := HT.out.step HB5.out HKn.out HEn.out HM10.out HQ10.out HWu.out (vals_upd HT.out.vals) (fun i hi => .inl hi)
        exact ⟨rfl, M, _, _, r1, r2, r3, fun k => by rw [keys_upd]; simp [or_comm], r4, r5, by omega⟩
end
end Go.Proofs.YtileamjmhhifaaaGreat
