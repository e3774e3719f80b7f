/-
  Layer 9 (locks): Ask at a name of which nothing was asked yet.
-/
import Derived.Test.YtileamjmhhifaaaGreatLk10
namespace Go.Proofs.YtileamjmhhifaaaGreat
open Go.RowKit Go.Joins Go.Sort
set_option linter.unusedVariables false
set_option linter.unusedSimpArgs false

section
variable {w : World} {B t nb wb : Nat} {turn : Int} {M : List (Nm × Value)} {E : Nm → Ent} {Wt : List (Int × Value)}
/-- a queue without anything is laid at a name -/
theorem TabAt.add (h : TabAt w B t nb wb turn M E Wt) {n : Nm} (hn : n ∉ keysM M) {W : World} {qb : Nat} (hb : Below w.heap.size w W) (hq : W.heap[qb]? = some (.cells #[.slice none 0 0, .slice none 0 0] 57)) (hge : w.heap.size ≤ qb) (o : Obj) (hk : KMap Nm.v (ChangeMaps.setBlock W nb o) nb (updK n (ptrQ qb) M)) :
    TabAt (ChangeMaps.setBlock W nb o) B t nb wb turn (updK n (ptrQ qb) M) (updE E n ⟨qb, .slice none 0 0, .slice none 0 0, ⟨[], []⟩⟩) Wt := by
  have hW := h.below hb
  have hfar : ∀ k, k ≠ nb → (ChangeMaps.setBlock W nb o).heap[k]? = W.heap[k]? := fun k hk => by
    simp [ChangeMaps.setBlock, Array.getElem?_setIfInBounds, Ne.symm hk]
  obtain ⟨es, clk, hm, -⟩ := hW.names
  have hqn : qb ≠ nb := fun e => ne_of_map hm hq e.symm
  have hle : B ≤ qb := by have := (h.lt (.inl rfl)); omega
  refine ⟨hW.wait.keep (hfar t hW.t_ne.1) (hfar wb (Ne.symm hW.ne)), hk, fun y hy => ?_, fun m hmm => ?_, fun m hmm k hk hmk i hi hi2 => ?_, h.vals, h.leT, h.leN, h.leW, h.ne⟩
  · by_cases e : y.1 = n
    · rw [e, updE_same]
      rcases mem_upd hy with rfl | h1
      · rfl
      · exact absurd (List.mem_map.2 ⟨y, h1, e⟩) hn
    · rw [updE_ne e]
      rcases mem_upd hy with rfl | h1
      · exact absurd rfl e
      · exact h.ptr y h1
  · by_cases e : m = n
    · rw [e, updE_same]
      exact ⟨(hfar qb hqn).trans hq, ⟨rfl, .inl ⟨rfl, rfl⟩⟩, ⟨rfl, .inl ⟨rfl, rfl⟩⟩, hle⟩
    · rw [updE_ne e]
      have hm2 : m ∈ keysM M := ((keys_upd m).1 hmm).resolve_left e
      exact (hW.qat m hm2).keep fun i hi => hfar i (hW.own_ne hm2 hi).2.1
  · have key : ∀ {a b : Nm}, a = n → b ≠ n → b ∈ keysM (updK n (ptrQ qb) M) → ∀ i, (updE E n ⟨qb, .slice none 0 0, .slice none 0 0, ⟨[], []⟩⟩ a).own i → (updE E n ⟨qb, .slice none 0 0, .slice none 0 0, ⟨[], []⟩⟩ b).own i → False := by
      intro a b ea eb hb2 i h1 h2
      rw [ea, updE_same] at h1
      rw [updE_ne eb] at h2
      have hb3 : b ∈ keysM M := ((keys_upd b).1 hb2).resolve_left eb
      have := (h.lt (.inr (.inr (.inr ⟨b, hb3, h2⟩)))).2
      rcases h1 with rfl | h1 | h1
      · omega
      · cases h1
      · cases h1
    by_cases e : m = n
    · exact key e (fun e2 => hmk (e.trans e2.symm)) hk i hi hi2
    · by_cases e2 : k = n
      · exact key e2 e hmm i hi2 hi
      · rw [updE_ne e] at hi
        rw [updE_ne e2] at hi2
        exact h.apart m (((keys_upd m).1 hmm).resolve_left e) k (((keys_upd k).1 hk).resolve_left e2) hmk i hi hi2
theorem own_add {n : Nm} {qb s : Nat} {v : Value} (hge : s ≤ qb) : ∀ i, Own t nb wb (updK n v M) (updE E n ⟨qb, .slice none 0 0, .slice none 0 0, ⟨[], []⟩⟩) i → Own t nb wb M E i ∨ s ≤ i := by
  rintro i (h | h | h | ⟨m, hm, h⟩)
  · exact .inl (.inl h)
  · exact .inl (.inr (.inl h))
  · exact .inl (.inr (.inr (.inl h)))
  · by_cases e : m = n
    · subst e
      rw [updE_same] at h
      rcases h with rfl | h | h
      · exact .inr hge
      · cases h
      · cases h
    · rw [updE_ne e] at h
      exact .inl (.inr (.inr (.inr ⟨m, ((keys_upd m).1 hm).resolve_left e, h⟩)))
theorem qOf_add {n : Nm} {qb : Nat} {v : Value} (hn : n ∉ keysM M) (k : Nm) : qOf (updK n v M) (updE E n ⟨qb, .slice none 0 0, .slice none 0 0, ⟨[], []⟩⟩) k = qOf M E k := by
  by_cases e : k = n
  · subst e
    rw [qOf_in ((keys_upd k).2 (.inl rfl)), updE_same, qOf_out hn]
  · unfold qOf
    rw [updE_ne e]
    by_cases hk : k ∈ keysM M
    · rw [if_pos hk, if_pos ((keys_upd k).2 (.inr hk))]
    · rw [if_neg hk, if_neg fun h => hk (((keys_upd k).1 h).resolve_left e)]
theorem KMap.upd {w : World} {nb : Nat} {M : List (Nm × Value)} (h : KMap Nm.v w nb M) (n : Nm) (v : Value) : ∃ od, (∀ W : World, W.heap[nb]? = w.heap[nb]? → (Instr.mapUpdate 49 (.map (some nb)) n.v v).run Tryz.prog W = .ok () (ChangeMaps.setBlock W nb od)) ∧ ∀ W : World, W.heap[nb]? = w.heap[nb]? → KMap Nm.v (ChangeMaps.setBlock W nb od) nb (updK n v M) := by
  obtain ⟨es, clk, hm1, hm2, hm3⟩ := h
  obtain ⟨od, hod⟩ := run_mapUpdate_k (P := Tryz.prog) Tryz.underlying49 keyLaw_nm v nb M n es clk hm2 hm3
  exact ⟨od, fun W hW => (hod W (hW.trans hm1)).1, fun W hW => (hod W (hW.trans hm1)).2⟩
theorem askQ_first (x m t : Int) : askQ ⟨[], []⟩ x m t = (⟨[⟨x, m, 0, 0⟩], []⟩, true, t) := rfl

set_option maxHeartbeats 3000000 in
set_option maxRecDepth 100000 in
theorem ask_new (h : TabAt w B t nb wb turn M E Wt) (x m : Int) (n : Nm) (h0 : 0 < m) (h6 : m ≤ 6) (hx : x ∉ keysM Wt) (hn : n ∉ keysM M) :
    Calls Tryz.prog 8 #[.pointer (some ⟨t, 0, none⟩), .int .i64 x, n.v, .int .i64 m] w fun e w' => e = .returned (.tuple #[.bool (askQ (qOf M E n) x m turn).2.1, .int .i64 0]) ∧
      ∃ M' E' Wt', TabAt w' B t nb wb (askQ (qOf M E n) x m turn).2.2 M' E' Wt' ∧ qOf M' E' n = (askQ (qOf M E n) x m turn).1 ∧ (∀ k, k ≠ n → qOf M' E' k = qOf M E k) ∧ (∀ k, k ∈ keysM Wt' ↔ k ∈ keysM Wt ∨ ((askQ (qOf M E n) x m turn).2.1 = false ∧ k = x)) ∧ Moved (Own t nb wb M E) w w' ∧ (∀ i, Own t nb wb M' E' i → Own t nb wb M E i ∨ w.heap.size ≤ i) ∧ M'.length ≤ M.length + 1 := by
  show Calls _ _ #[.pointer (some ⟨t, 0, none⟩), .int .i64 x, .agg #[.int .i64 n.s, .string n.i], .int .i64 m] _ _
  have mixed : Tryz.prog.follows Departure.mixedOrders = true := by kernel_rfl
  obtain ⟨c0, c1, c2⟩ := h.cells
  obtain ⟨kn, hl⟩ := h.lookW x
  have htl := h.wait.lt.1
  have hnl := h.names.lt
  have hlw := hl (w.alloc (.cells #[.int .i64 n.s, .string n.i] 31)) (((Below.refl _ _).alloc (Nat.le_refl _) _).block wb h.wait.lt.2)
  have hd : decide (x ∈ keysM Wt) = false := by simp [hx]
  rw [hd] at hlw
  have h1 : ¬ m ≤ 0 := by omega
  have h2 : ¬ 6 < m := by omega
  have HT := Lib.hid h
  have HX := Lib.hid hx
  have hb0 : Below w.heap.size w (w.alloc (.cells #[.int .i64 n.s, .string n.i] 31)) := (Below.refl _ _).alloc (Nat.le_refl _) _
  have HL : Hid (∀ W : World, W.heap[nb]? = w.heap[nb]? → (Instr.lookup 49 (.map (some nb)) (.agg #[.int .i64 n.s, .string n.i]) false).run Tryz.prog W = .ok (if n ∈ keysM M then ptrQ (E n).qb else .pointer none) W) := Lib.hid (h.look n)
  have HKn := Lib.hid hn
  rw [qOf_out hn, askQ_first]
  clear hl h hx hd h0 h6
  go_enter Tryz.func8, Tryz.ntmps8
  go_wp2_with fail
  have hbx : Below w.heap.size w ((w.alloc (.cells #[.int .i64 n.s, .string n.i] 31)).alloc (.cells #[.int .i64 kn.s, .string kn.i] 31)) := hb0.alloc (by simp) _
  have hnx : ((w.alloc (.cells #[.int .i64 n.s, .string n.i] 31)).alloc (.cells #[.int .i64 kn.s, .string kn.i] 31)).heap[w.heap.size]? = some (.cells #[.int .i64 n.s, .string n.i] 31) := (Below.heap_alloc _ _ _ (by simp)).trans (heap_alloc_new w _)
  have hzx : w.heap.size < ((w.alloc (.cells #[.int .i64 n.s, .string n.i] 31)).alloc (.cells #[.int .i64 kn.s, .string kn.i] 31)).heap.size := by simp; omega
  have HBx := Lib.hid hbx
  have HNx := Lib.hid hnx
  clear hb0 hbx hnx hlw
  generalize (w.alloc (.cells #[.int .i64 n.s, .string n.i] 31)).alloc (.cells #[.int .i64 kn.s, .string kn.i] 31) = W1 at *
  have hT1 := HT.out.below HBx.out
  have htl1 := hT1.wait.lt.1
  have hnl1 := hT1.names.lt
  have hg0 := fun k os => cell_grown (w := W1) (a := ⟨t, 0, none⟩) htl1 hT1.cells.1 k os
  have hg1 := fun k os => cell_grown (w := W1) (a := ⟨w.heap.size, 0, none⟩) hzx ((cell_of_block HNx.out 0).trans rfl) k os
  have hg2 := fun k os => cell_grown (w := W1) (a := ⟨w.heap.size, 1, none⟩) hzx ((cell_of_block HNx.out 1).trans rfl) k os
  have hl5 : ∀ k os, (Instr.lookup 49 (.map (some nb)) (.agg #[.int .i64 n.s, .string n.i]) false).run Tryz.prog (grow (W1.drewN k) os) =   .ok (.pointer none) (grow (W1.drewN k) os) := fun k os => by
    rw [HL.out _ (((Gr.below (w := W1) ⟨k, os, rfl⟩).block nb hnl1).trans (HBx.out.block nb hnl)), if_neg HKn.out]
  clear hT1 hn
  refine wp_region_quiet_grown (by assumption) (by kernel_rfl) ?_
  iterate 7 (with_reducible refine wpQuiet_step (fun K hK => ?_); go_simp; with_reducible refine hK _ ?_; clear hK K)
  with_reducible refine wpQuiet_nil ?_
  with_reducible intro _ hw'
  obtain ⟨⟨nr, osr⟩, hw''⟩ := hw'
  subst hw''
  have hbg := (Gr.below (w := W1) ⟨nr, osr, rfl⟩)
  have HB2 := Lib.hid (HBx.out.trans (hbg.mono (by omega)))
  have HN2' := Lib.hid ((hbg.block _ hzx).trans HNx.out)
  clear hg0 hg1 hg2 hl5 hzx htl1 hnl1 HBx HNx hbg
  generalize grow (W1.drewN nr) osr = W2 at *
  have HT2 := Lib.hid (HT.out.below HB2.out)
  go_upto_region 9 with fail
  have hqb := heap_alloc_new W2 (.cells #[.slice none 0 0, .slice none 0 0] 57)
  have hb3 : Below W2.heap.size W2 (W2.alloc (.cells #[.slice none 0 0, .slice none 0 0] 57)) := (Below.refl _ _).alloc (Nat.le_refl _) _
  have hge := HB2.out.size
  have HB3 := Lib.hid (HB2.out.trans (hb3.mono hge))
  have HN3 := Lib.hid ((hb3.block _ (Array.getElem?_eq_some_iff.1 HN2'.out).1).trans HN2'.out)
  have HQb := Lib.hid hqb
  have HGe := Lib.hid hge
  clear hqb hb3 HT2 HN2' hge HB2
  generalize W2.alloc (.cells #[.slice none 0 0, .slice none 0 0] 57) = W3 at *
  generalize W2.heap.size = qb at *
  have HT3 := Lib.hid (HT.out.below HB3.out)
  obtain ⟨od, hrun, hKu⟩ := HT3.out.names.upd n (ptrQ qb)
  have hrun' : ∀ W : World, W.heap[nb]? = W3.heap[nb]? → (Instr.mapUpdate 49 (.map (some nb)) (.agg #[.int .i64 n.s, .string n.i]) (.pointer (some ⟨qb, 0, none⟩))).run Tryz.prog W = .ok () (ChangeMaps.setBlock W nb od) := hrun
  have hd1 := hrun' W3 rfl
  have hd2 := hrun' W3.drew rfl
  have ct : W3.cell? ⟨t, 0, none⟩ = some (.map (some nb)) := (cell_of_block HT3.out.wait.tab 0).trans rfl
  have cx : W3.cell? ⟨w.heap.size, 0, none⟩ = some (.int .i64 n.s) := (cell_of_block HN3.out 0).trans rfl
  have cy : W3.cell? ⟨w.heap.size, 1, none⟩ = some (.string n.i) := (cell_of_block HN3.out 1).trans rfl
  obtain ⟨es, clk, hm1, -⟩ := HT3.out.names
  have HS1 := Lib.hid fun W => setB_cell (W := W) (ne_of_map hm1 HT3.out.wait.tab) od 0
  have HS2 := Lib.hid fun W i => setB_cell (W := W) (ne_of_map hm1 HN3.out) od i
  have HT9 := Lib.hid (HT.out.add HKn.out (W := W3.drew) HB3.out.drew HQb.out HGe.out od (hKu W3.drew rfl))
  have HM9 : Hid (Moved (Own t nb wb M E) w (ChangeMaps.setBlock W3.drew nb od)) := Lib.hid ((Moved.of_below HB3.out).drew.setBlock HT3.out.names.lt (.inl (.inr (.inl rfl))) od)
  clear hrun hrun' hKu hm1 c0 c1 c2 htl hnl
  (go_region_held3 (fun W => W.cell? ⟨t, 0, none⟩ = some (.map (some nb)) ∧ W.cell? ⟨w.heap.size, 0, none⟩ = some (.int .i64 n.s) ∧ W.cell? ⟨w.heap.size, 1, none⟩ = some (.string n.i)) (first | exact ⟨ct, cx, cy⟩ | exact ⟨(HS1.out _).trans ct, (HS2.out _ _).trans cx, (HS2.out _ _).trans cy⟩ | go_keep) (fail))
  clear hd1 hd2 ct cx cy HS1 HS2
  generalize ChangeMaps.setBlock W3.drew nb od = W4 at *
  have hk9 : n ∈ keysM (updK n (ptrQ qb) M) := (keys_upd n).2 (.inl rfl)
  have HK9 := Lib.hid hk9
  have hq9 := HT9.out.qat n hk9
  rw [updE_same] at hq9
  have HQ9 := Lib.hid hq9
  clear hq9 hk9
  go_wp2_with fail
  have HAt : Hid (Calls Tryz.prog 26 #[.pointer (some ⟨qb, 0, none⟩), .int .i64 x] W4 fun e w' => e = .returned (.int .i64 (-1)) ∧ Gr W4 w') := Lib.hid (at_any HQ9.out x)
  refine HAt.out.mono ?_; rintro e W5 ⟨rfl, hgr⟩
  have HB5 := Lib.hid hgr.below
  have HQ5 := Lib.hid (HQ9.out.below hgr.below)
  clear hgr
  have c5 := HQ5.out.cell1
  have hql := (HQ5.out.lt (.inl rfl)).2
  go_wp2_with fail
  have HWn : Hid (Calls Tryz.prog 29 #[.pointer (some ⟨qb, 0, none⟩)] W5 fun e w' => e = .returned (.bool false) ∧ Gr W5 w') := Lib.hid (want_any HQ5.out)
  refine HWn.out.mono ?_; rintro e W6 ⟨rfl, hgr⟩
  have HB6 := Lib.hid (HB5.out.trans (hgr.below.mono HB5.out.size))
  have HQ6 := Lib.hid (HQ5.out.below hgr.below)
  clear hgr
  go_wp2_with fail
  have HFn : Hid (Calls Tryz.prog 28 #[.pointer (some ⟨qb, 0, none⟩), .int .i64 x, .int .i64 m] W6 fun e w' => e = .returned (.bool true) ∧ Gr W6 w') := Lib.hid (free_any HQ6.out x m)
  refine HFn.out.mono ?_; rintro e W7 ⟨rfl, hgr⟩
  have HB7 := Lib.hid (HB6.out.trans (hgr.below.mono HB6.out.size))
  have HQ7 := Lib.hid (HQ6.out.below hgr.below)
  clear hgr c5 hql
  have HT7 := Lib.hid (HT9.out.below HB7.out)
  have c4 := HQ7.out.cell0
  have hql := (HQ7.out.lt (.inl rfl)).2
  have hqf := HQ7.out.frozen 0
  obtain ⟨i0, hi, hz0, hz1, hz2⟩ := info_parts infoHd
  have hone : ∀ u ∈ (#[.int .i64 x, .int .i64 m, .int .i64 0, .int .i64 0] : Array Value).toList, u.oneCell' = true := by
    intro u hu; simp at hu; rcases hu with rfl | rfl | rfl <;> rfl
  have hba : Below W7.heap.size W7 (W7.alloc (.cells #[.int .i64 x, .int .i64 m, .int .i64 0, .int .i64 0] 60)) := (Below.refl _ _).alloc (Nat.le_refl _) _
  have HBA := Lib.hid hba
  have HQA := Lib.hid (HQ7.out.below hba)
  have hown2 : (W7.alloc (.cells #[.int .i64 x, .int .i64 m, .int .i64 0, .int .i64 0] 60)).ownsRow B 60 4 (.slice none 0 0) 0 [] := HQA.out.held
  have hnew : (W7.alloc (.cells #[.int .i64 x, .int .i64 m, .int .i64 0, .int .i64 0] 60)).heap[W7.heap.size]? = some (.cells #[.int .i64 x, .int .i64 m, .int .i64 0, .int .i64 0] 60) := heap_alloc_new W7 _
  have hszA : (W7.alloc (.cells #[.int .i64 x, .int .i64 m, .int .i64 0, .int .i64 0] 60)).heap.size = W7.heap.size + 1 := by simp
  have hBA : B ≤ W7.heap.size := by have := HQ7.out.lt (.inl rfl); omega
  clear hba
  go_wp2_with (at_builtin; refine wpList_append_lies _ rfl _ _ 54 rfl B 60 i0 _ 4 32 Tryz.underlying54 hi hz0 hz1 hz2 rfl (by decide) _ 0 [] rfl hown2 ⟨W7.heap.size, 0, none⟩ 1 1 (#[.int .i64 x, .int .i64 m, .int .i64 0, .int .i64 0] : Array Value).toList rfl rfl (World.news_of_block hnew) hone (by omega) (by simp only [maxLen]; omega) (by omega) (by rw [hszA]; omega) (W7.heap.size + 1) hszA ?_)
  intro gg capg w7 hown7 hgrow hat hltg
  have hp7 := push_holds HQA.out hgrow (H' := [⟨x, m, 0, 0⟩]) (by exact hown7)
  have hc7 : w7.cell? ⟨qb, 0, none⟩ = some (.slice none 0 0) := (cell_of_block hp7.1 0).trans rfl
  have ff7 : w7.frozen? ⟨qb, 0, none⟩ = false := by simp [World.frozen?, hp7.1]
  have hq7 : qb < w7.heap.size := (Array.getElem?_eq_some_iff.1 hp7.1).1
  have HTA := Lib.hid (HT7.out.below HBA.out)
  obtain ⟨es0, clk0, hmA, -⟩ := HTA.out.wait.map
  have hW9 : WaitAt (w7.setCell ⟨qb, 0, none⟩ (.slice (some ⟨gg, 0, none⟩) (0 + 1) capg)) t nb wb turn Wt := HTA.out.wait.keep (push_far hgrow t HTA.out.wait.lt.1 (heap_ne_ty HTA.out.wait.tab HQA.out.blk (by decide)) (own_ne_bl hown2 HTA.out.wait.tab (by decide))) (push_far hgrow wb HTA.out.wait.lt.2 (ne_of_map hmA HQA.out.blk) (own_ne_map hown2 hmA))
  have hM9 : Moved (fun i => i = t ∨ i = wb ∨ qBlk qb (.slice none 0 0) (.slice none 0 0) i) W7 (w7.setCell ⟨qb, 0, none⟩ (.slice (some ⟨gg, 0, none⟩) (0 + 1) capg)) := ((Moved.of_below HBA.out).grown hgrow (fun k hk => .inl (.inr (.inr (.inr (.inl hk)))))).setCell (p := ⟨qb, 0, none⟩) (.inl (.inr (.inr (.inl rfl)))) _
  have HP7 := Lib.hid hp7.2
  have HW9 := Lib.hid hW9
  have HMM := Lib.hid hM9
  have HAtt := Lib.hid hat
  clear hp7 hW9 hM9 hat hown2 hnew hszA hone hgrow hown7 hmA hi hz0 hz1 hz2 hBA hltg c4 hqf hql
  go_wp2_with fail
  go_ret2
  obtain ⟨r1, r2, r3, r4, r5⟩ := HT9.out.step HB7.out HK9.out (updE_same _ _ _) HMM.out (hv' := .slice (some ⟨gg, 0, none⟩) (0 + 1) capg) (Q' := ⟨[⟨x, m, 0, 0⟩], []⟩) HP7.out HW9.out HT.out.vals (fun i hi => by
    rcases hi with hi | hi | hi
    · exact .inl (.inl hi)
    · simp only [Value.ownBlock, Option.some.injEq] at hi
      subst hi
      rcases HAtt.out with h | h
      · exact .inl (.inr (.inl h))
      · right; omega
    · exact .inl (.inr (.inr hi)))
  have hz4 : w.heap.size ≤ W4.heap.size := HM9.out.size
  refine ⟨rfl, _, _, _, r1, r2, fun k hk => (r3 k hk).trans (qOf_add HKn.out k), fun k => by simp, HM9.out.trans (r4.mono fun i hi h => own_add HGe.out i h), fun i hi => ?_, len_upd M⟩
  rcases r5 i hi with h | h
  · exact own_add HGe.out i h
  · right; omega
end
end Go.Proofs.YtileamjmhhifaaaGreat
