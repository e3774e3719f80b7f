/-
  Layer 9 (locks): the walk of the document's give.
-/
import Derived.Test.YtileamjmhhifaaaGreatLd5
import Derived.Deep.LoopGhost
import Derived.Shelf.SlSortCmp.QuietGrown
namespace Go.Proofs.YtileamjmhhifaaaGreat
open Go.RowKit Go.Joins Go.Sort Go.Shelf
set_option linter.unusedVariables false
set_option linter.unusedSimpArgs false

theorem cell?_setCell_off (w : World) (g i j : Nat) (v : Value) (h : i ≠ j) : (w.setCell ⟨g, i, none⟩ v).cell? ⟨g, j, none⟩ = w.cell? ⟨g, j, none⟩ := by
  unfold World.cell? World.setCell
  simp only [Array.getElem?_modify, if_true]
  cases w.heap[g]? with
  | none => rfl
  | some o => cases o <;> simp [Array.getElem?_setIfInBounds, h]
def gotM (r : Dr) : Dr := ⟨r.n, r.x, r.w, r.w, r.t⟩
theorem gtrans9 {a w w' : World} {row : Option Nat} (h : a.grownBy w row) (k : w.grownBy w' row) : a.grownBy w' row :=
  ⟨k.os.trans h.os, k.tape.trans h.tape, k.output.trans h.output, Nat.le_trans h.size k.size, fun q hq hr => (k.block q (Nat.lt_of_lt_of_le hq h.size) hr).trans (h.block q hq hr)⟩
theorem gbelow9 {w w' : World} (h : Below w.heap.size w w') (row : Option Nat) : w.grownBy w' row := ⟨h.os, h.tape, h.output, h.size, fun k hk _ => h.block k hk⟩
theorem DAt.got {w W : World} {B tb g c : Nat} {R : List Dr} {T : Int} (h : DAt w B tb (.slice (some ⟨g, 0, none⟩) R.length c) R T) (b : Nat) (hb : b < R.length) (hW : Below (w.setCell ⟨g, b * 6 + 3, none⟩ (.int .i64 R[b].w)).heap.size (w.setCell ⟨g, b * 6 + 3, none⟩ (.int .i64 R[b].w)) W) :
    (W.cell? ⟨tb, 0, none⟩ = some (.slice (some ⟨g, 0, none⟩) R.length c) ∧ W.cell? ⟨g, b * 6 + 4, none⟩ = some (.int .i64 R[b].w) ∧ W.frozen? ⟨g, b * 6 + 4, none⟩ = false) ∧ DAt (W.setCell ⟨g, b * 6 + 4, none⟩ (.int .i64 0)) B tb (.slice (some ⟨g, 0, none⟩) (R.set b (gotR R[b])).length c) (R.set b (gotR R[b])) T ∧ w.grownBy (W.setCell ⟨g, b * 6 + 4, none⟩ (.int .i64 0)) (some g) := by
  obtain ⟨h1, -, -⟩ := h.setc b 3 hb (by omega) (gotM R[b]) (.int .i64 R[b].w) rfl
  have h2 := h1.below hW
  have h2' : DAt W B tb (.slice (some ⟨g, 0, none⟩) (R.set b (gotM R[b])).length c) (R.set b (gotM R[b])) T := by rw [List.length_set]; exact h2
  have hb' : b < (R.set b (gotM R[b])).length := by rw [List.length_set]; exact hb
  have he : (R.set b (gotM R[b]))[b] = gotM R[b] := List.getElem_set_self ..
  have k4 := h2'.cell b 4 hb' (.int .i64 R[b].w) (by rw [he]; rfl)
  obtain ⟨h3, -, h5⟩ := h2'.setc b 4 hb' (by omega) (gotR R[b]) (.int .i64 0) (by rw [he]; rfl)
  rw [List.set_set] at h3
  refine ⟨⟨h2.hd, k4, h5⟩, ?_, gtrans9 (gtrans9 (grown_setc w g _ _) (gbelow9 hW _)) (grown_setc W g _ _)⟩
  have e1 : (R.set b (gotM R[b])).length = (R.set b (gotR R[b])).length := by rw [List.length_set, List.length_set]
  rw [e1] at h3
  exact h3
theorem doneB_of {R : List Dr} {T : Int} (ho : DOk R T) {n : Nm} {b : Nat} (hb : b < R.length) (hw : wishP n R[b]) (hmin : ∀ j, j < R.length → ∀ h : j < R.length, wishP n R[j] → R[b].t ≤ R[j].t) (h : wantD R n ∨ ¬ freeD R R[b].x n R[b].w) : DoneB n R := by
  intro r hr hn hm hmi
  have h1 := hmi R[b] (List.getElem_mem hb) hw.1 hw.2
  obtain ⟨j, hj, rfl⟩ := List.mem_iff_getElem.1 hr
  have h2 := hmin j hj hj ⟨hn, hm⟩
  have : R[j] = R[b] := ho.tdis _ (List.getElem_mem hj) _ (List.getElem_mem hb) (ho.ww _ (List.getElem_mem hj) hm) (ho.ww _ (List.getElem_mem hb) hw.2) (by omega)
  rw [this]; exact h
section
variable {w : World} {B tb : Nat} {rv : Value} {R0 : List Dr} {T T0 : Int}
open Classical in
set_option maxHeartbeats 32000000 in
set_option maxRecDepth 100000 in
theorem dgive_any (h : DAt w B tb rv R0 T) (ho : DOk R0 T0) (hB : B ≤ w.heap.size) (n : Nm) :
    Calls Tryz.prog 25 #[.pointer (some ⟨tb, 0, none⟩), .agg #[.int .i64 n.s, .string n.i]] w fun e w' => e = .returned (.tuple #[]) ∧ ∃ R', GivesD n R0 R' ∧ R'.length = R0.length ∧ DAt w' B tb rv R' T ∧ w.grownBy w' rv.ownBlock := by
  have hrl : ∀ {w' : World} {R : List Dr}, DAt w' B tb rv R T → R.length = R0.length → ∃ a c, rv = .slice a R.length c := fun hd e => by
    obtain ⟨a, c, e1, -⟩ := hd.form
    exact ⟨a, c, e1⟩
  obtain ⟨a, c, rfl, ha⟩ := h.form
  have hb0 : Below w.heap.size w (w.alloc (.cells #[.int .i64 n.s, .string n.i] 31)) := (Below.refl _ _).alloc (Nat.le_refl _) _
  have hn0 := heap_alloc_new w (.cells #[.int .i64 n.s, .string n.i] 31)
  have H1 := Lib.hid (h.below hb0)
  have HN0 := Lib.hid hn0
  have HO := Lib.hid ho
  have hlen := h.len
  have htb0 := (Array.getElem?_eq_some_iff.1 h.at_).1
  have hsz0 : (w.alloc (.cells #[.int .i64 n.s, .string n.i] 31)).heap.size = w.heap.size + 1 := World.size_alloc _ _
  have HG0 : Hid (w.grownBy (w.alloc (.cells #[.int .i64 n.s, .string n.i] 31)) (Value.slice a R0.length c).ownBlock) := Lib.hid ⟨hb0.os, hb0.tape, hb0.output, hb0.size, fun k hk _ => hb0.block k hk⟩
  have hgo : ∀ g, a = some ⟨g, 0, none⟩ → (Value.slice a R0.length c).ownBlock = some g := fun g e => by rw [e]; rfl
  clear h hb0 hn0 ho
  go_enter Tryz.func25, Tryz.ntmps25
  go_wp2_with fail
  generalize hw1 : w.alloc (.cells #[.int .i64 n.s, .string n.i] 31) = w1 at *
  go_loopg [] (wantsR R0) (fun gg wr => ∃ R, R.length = R0.length ∧ DAt wr B tb (.slice a R.length c) R T ∧ w.grownBy wr (Value.slice a R0.length c).ownBlock ∧ wr.heap[w.heap.size]? = w1.heap[w.heap.size]? ∧ w.heap.size < wr.heap.size ∧ DOk R T0 ∧ (∀ R', RunsD (StepDA n) (DoneA n) R R' → RunsD (StepDA n) (DoneA n) R0 R') ∧ wantsR R ≤ gg)
  case atStart => exact ⟨R0, rfl, H1.out, HG0.out, rfl, by omega, HO.out, fun _ h => h, Nat.le_refl _⟩
  case round =>
    obtain ⟨R, hRl, hD, hG, hN, hsz, hOk, hrun, hgg⟩ := hrel
    obtain ⟨ws, rfl⟩ : ∃ ws : World, ws = wr := ⟨_, rfl⟩
    have HD := Lib.hid hD
    have HG := Lib.hid hG
    have HN := Lib.hid (hN.trans HN0.out)
    have HSZ := Lib.hid hsz
    have HOK := Lib.hid hOk
    have HRUN := Lib.hid hrun
    have HGG := Lib.hid hgg
    have HRL := Lib.hid hRl
    have hlenR := hD.len
    clear hD hG hN hsz hOk hrun hgg
    go_wp2_with fail
    go_loopw [4, 5] (fun vb v wr => ∃ (i : Nat) (k : Int), i ≤ R.length ∧ v = .int .i64 i ∧ vb = .int .i64 k ∧ Gr ws wr ∧ BestD (candD R n) R i k) (fun _ v _ => R.length - (intOf v).toNat)
    case atStart => exact ⟨0, -1, by omega, rfl, rfl, Gr.refl _, .inl ⟨rfl, fun j hj => by omega⟩⟩
    case round =>
      obtain ⟨i, k, hi, rfl, rfl, hbw, hbest⟩ := hrel
      obtain ⟨wo, rfl⟩ : ∃ wo : World, wo = wr := ⟨_, rfl⟩
      have HDo := Lib.hid (HD.out.below hbw.below)
      have c0 := HDo.out.hd
      have hnx := (hbw.below.block w.heap.size HSZ.out).trans HN.out
      have n0 : wo.cell? ⟨w.heap.size, 0, none⟩ = some (.int .i64 n.s) := (cell_of_block hnx 0).trans rfl
      have n1 : wo.cell? ⟨w.heap.size, 1, none⟩ = some (.string n.i) := (cell_of_block hnx 1).trans rfl
      have hz1 := hbw.below.size
      have hlt1 : w.heap.size < wo.heap.size := by have := HSZ.out; omega
      by_cases hlt : i < R.length
      · as_aux_lemma =>
        obtain ⟨g, rfl, hBg, hgl⟩ := ha (by rw [hRl] at hlt; omega)
        have hgl2 : g < wo.heap.size := by have := HSZ.out; omega
        have htl2 : tb < wo.heap.size := by have := HSZ.out; omega
        have hik : (i : Int) < (R.length : Int) := by omega
        have hi0 : (0 : Int) ≤ (i : Int) := by omega
        have k0 := HDo.out.cell i 0 hlt (.int .i64 R[i].n.s) rfl
        have k1 := HDo.out.cell i 1 hlt (.string R[i].n.i) rfl
        have k2 := HDo.out.cell i 2 hlt (.int .i64 R[i].x) rfl
        have k3 := HDo.out.cell i 3 hlt (.int .i64 R[i].m) rfl
        have k4 := HDo.out.cell i 4 hlt (.int .i64 R[i].w) rfl
        have k5 := HDo.out.cell i 5 hlt (.int .i64 R[i].t) rfl
        simp only [Nat.add_zero] at k0
        have heq := nm_eqv R[i].n n
        have hskip := fun (h : ¬ candD R n (R[i]'hlt)) => hbest.skip hlt h
        have htake := fun (h : candD R n (R[i]'hlt)) => hbest.take hlt h
        have hkeep := fun (b : Nat) (hb : b < R.length) (e : k = (b : Int)) (h : ¬ R[i].t < R[b].t) => BestD.keep (p := candD R n) (e ▸ hbest) hlt hb h
        have HB2 : Hid (Gr ws (wo.alloc (.cells R[i].cs 69))) := Lib.hid (hbw.alloc _)
        have HLT : Hid (i < R.length ∧ R.length ≤ 2000) := Lib.hid ⟨hlt, hlenR⟩
        have hcase : k = -1 ∨ ∃ b, ∃ hb : b < R.length, k = (b : Int) := by
          rcases hbest with ⟨e, -⟩ | ⟨b, hb, -, e, -⟩
          · exact .inl e
          · exact .inr ⟨b, hb, e⟩
        have hDA := fun (r : Dr) => HDo.out.below ((Below.refl wo.heap.size wo).alloc (Nat.le_refl _) (.cells r.cs 69))
        have hHN := HN.out
        clear hnx hbw hbest
        generalize R[i] = r at *
        obtain ⟨⟨rs, ri⟩, rx, rm, rw', rt⟩ := r
        have hDA := Lib.hid (hDA ⟨⟨rs, ri⟩, rx, rm, rw', rt⟩)
        simp only [Dr.cs, candD] at k0 k1 k2 k3 k4 k5 heq HB2 hskip htake hkeep hDA
        have hiff : Nm.eqB ⟨rs, ri⟩ n = true ↔ (⟨rs, ri⟩ : Nm) = n := Nm.eqB_iff
        cases e2 : Nm.eqB ⟨rs, ri⟩ n with
        | false =>
          rw [e2] at heq hiff
          have HS := Lib.hid (hskip fun h => by have := hiff.2 h.1; cases this)
          clear hskip htake hkeep e2 hiff hcase
          go_wp2_with fail
          go_quiet (fail)
          go_wp2_with fail
          exact ⟨⟨i + 1, k, by omega, by go_num, rfl, HB2.out.drewN _, HS.out⟩, by simp [intOf]; omega⟩
        | true =>
          rw [e2] at heq hiff
          by_cases e3 : rm = 0
          · have e4 : (rm != 0) = false := by simpa using e3
            have HS := Lib.hid (hskip fun h => h.2.1 e3)
            clear hskip htake hkeep e2 hiff hcase e3
            go_wp2_with fail
            go_quiet (fail)
            go_wp2_with fail
            exact ⟨⟨i + 1, k, by omega, by go_num, rfl, HB2.out.drewN _, HS.out⟩, by simp [intOf]; omega⟩
          have e4 : (rm != 0) = true := by simpa using e3
          by_cases e5 : rw' = 0
          · have e6 : (rw' != 0) = false := by simpa using e5
            have HS := Lib.hid (hskip fun h => h.2.2.1 e5)
            clear hskip htake hkeep e2 hiff hcase e3 e5
            go_wp2_with fail
            go_quiet (fail)
            go_wp2_with fail
            exact ⟨⟨i + 1, k, by omega, by go_num, rfl, HB2.out.drewN _, HS.out⟩, by simp [intOf]; omega⟩
          have e6 : (rw' != 0) = true := by simpa using e5
          have hszA : (wo.alloc (.cells #[.int .i64 rs, .string ri, .int .i64 rx, .int .i64 rm, .int .i64 rw', .int .i64 rt] 69)).heap.size = wo.heap.size + 1 := World.size_alloc _ _
          have hx0 := fun q os => cell_grown (w := wo.alloc (.cells #[.int .i64 rs, .string ri, .int .i64 rx, .int .i64 rm, .int .i64 rw', .int .i64 rt] 69)) (a := ⟨wo.heap.size, 0, none⟩) (by simp) (World.cell?_alloc_mark wo _ _ (0, 0) 0) q os
          have hx1 := fun q os => cell_grown (w := wo.alloc (.cells #[.int .i64 rs, .string ri, .int .i64 rx, .int .i64 rm, .int .i64 rw', .int .i64 rt] 69)) (a := ⟨wo.heap.size, 1, none⟩) (by simp) (World.cell?_alloc_mark wo _ _ (0, 0) 1) q os
          have hx2 := fun q os => cell_grown (w := wo.alloc (.cells #[.int .i64 rs, .string ri, .int .i64 rx, .int .i64 rm, .int .i64 rw', .int .i64 rt] 69)) (a := ⟨wo.heap.size, 2, none⟩) (by simp) (World.cell?_alloc_mark wo _ _ (0, 0) 2) q os
          have hx3 := fun q os => cell_grown (w := wo.alloc (.cells #[.int .i64 rs, .string ri, .int .i64 rx, .int .i64 rm, .int .i64 rw', .int .i64 rt] 69)) (a := ⟨wo.heap.size, 3, none⟩) (by simp) (World.cell?_alloc_mark wo _ _ (0, 0) 3) q os
          have hx4 := fun q os => cell_grown (w := wo.alloc (.cells #[.int .i64 rs, .string ri, .int .i64 rx, .int .i64 rm, .int .i64 rw', .int .i64 rt] 69)) (a := ⟨wo.heap.size, 4, none⟩) (by simp) (World.cell?_alloc_mark wo _ _ (0, 0) 4) q os
          have hx5 := fun q os => cell_grown (w := wo.alloc (.cells #[.int .i64 rs, .string ri, .int .i64 rx, .int .i64 rm, .int .i64 rw', .int .i64 rt] 69)) (a := ⟨wo.heap.size, 5, none⟩) (by simp) (World.cell?_alloc_mark wo _ _ (0, 0) 5) q os
          have hnA : (wo.alloc (.cells #[.int .i64 rs, .string ri, .int .i64 rx, .int .i64 rm, .int .i64 rw', .int .i64 rt] 69)).cell? ⟨w.heap.size, 0, none⟩ = some (.int .i64 n.s) := (((Below.refl wo.heap.size wo).alloc (Nat.le_refl _) _).cell (p := ⟨w.heap.size, 0, none⟩) hlt1).trans n0
          have hnB : (wo.alloc (.cells #[.int .i64 rs, .string ri, .int .i64 rx, .int .i64 rm, .int .i64 rw', .int .i64 rt] 69)).cell? ⟨w.heap.size, 1, none⟩ = some (.string n.i) := (((Below.refl wo.heap.size wo).alloc (Nat.le_refl _) _).cell (p := ⟨w.heap.size, 1, none⟩) hlt1).trans n1
          have hy0 := fun q os => cell_grown (a := ⟨w.heap.size, 0, none⟩) (by rw [hszA]; show w.heap.size < _; omega) hnA q os
          have hy1 := fun q os => cell_grown (a := ⟨w.heap.size, 1, none⟩) (by rw [hszA]; show w.heap.size < _; omega) hnB q os
          have ht0 := fun q os => cell_grown (a := ⟨tb, 0, none⟩) (by rw [hszA]; show tb < _; omega) hDA.out.hd q os
          obtain ⟨q, hq⟩ : ∃ q : Bool, q = true ↔ freeD R rx n rw' := ⟨decide (freeD R rx n rw'), decide_eq_true_iff⟩
          have HFr := Lib.hid (dfree_gr hDA.out rx n rw' q hq)
          cases q with
          | false =>
           as_aux_lemma =>
            skip --BULK
            have HS := Lib.hid (hskip fun h => by have := hq.2 h.2.2.2; cases this)
            clear hskip htake hkeep e2 hiff hcase e3 e5 hq hnA hnB hx5
            go_wp2_with fail
            generalize (wo.alloc (.cells #[.int .i64 rs, .string ri, .int .i64 rx, .int .i64 rm, .int .i64 rw', .int .i64 rt] 69)) = wA at *
            clear c0 k0 k1 k2 k3 k4 k5 n0 n1 hik hi0 hszA hRl hlenR hlen htb0 hsz0
            have hmix : Tryz.prog.follows .mixedOrders = true := by kernel_rfl
            refine wp_region_quiet_grown hmix (by kernel_rfl) ?_
            clear hmix
            iterate 21 (with_reducible refine wpQuiet_step (fun K hK => ?_); go_simp; with_reducible refine hK _ ?_; clear hK K)
            with_reducible refine wpQuiet_step (fun K hK => ?_)
            go_simp
            apply Exists.intro
            refine ⟨fun _ => ?_, hK _ ?_⟩
            exact HFr.out _ _
            clear hK K
            iterate 2 (with_reducible refine wpQuiet_step (fun K hK => ?_); go_simp; with_reducible refine hK _ ?_; clear hK K)
            iterate 15 go_big_quiet_skip
            with_reducible refine wpQuiet_step (fun K hK => ?_)
            go_simp
            with_reducible refine hK _ ?_
            clear hK K
            with_reducible refine wpQuiet_nil ?_
            with_reducible intro _ hw'
            obtain ⟨⟨nq, osq⟩, hw''⟩ := hw'
            subst hw''
            have hik : (i : Int) < (R.length : Int) := by have := HLT.out; omega
            have hi0 : (0 : Int) ≤ (i : Int) := by omega
            have hlenR : R.length ≤ 2000 := HLT.out.2
            go_wp2_with fail
            exact ⟨⟨i + 1, k, by have := HLT.out; omega, by have := HLT.out; go_num, rfl, HB2.out.trans ⟨nq, osq, rfl⟩, HS.out⟩, by have := HLT.out; simp [intOf]; omega⟩
          | true =>
            rcases hcase with rfl | ⟨b, hb, rfl⟩
            · as_aux_lemma =>
              skip --BULK
              have HS := Lib.hid (htake ⟨hiff.1 rfl, e3, e5, hq.1 rfl⟩ (.inl (by omega)))
              clear hskip htake hkeep e2 hiff e3 e5 hq hnA hnB hx5
              go_wp2_with fail
              generalize (wo.alloc (.cells #[.int .i64 rs, .string ri, .int .i64 rx, .int .i64 rm, .int .i64 rw', .int .i64 rt] 69)) = wA at *
              clear c0 k0 k1 k2 k3 k4 k5 n0 n1 hik hi0 hszA hRl hlenR hlen htb0 hsz0
              have hmix : Tryz.prog.follows .mixedOrders = true := by kernel_rfl
              refine wp_region_quiet_grown hmix (by kernel_rfl) ?_
              clear hmix
              iterate 21 (with_reducible refine wpQuiet_step (fun K hK => ?_); go_simp; with_reducible refine hK _ ?_; clear hK K)
              with_reducible refine wpQuiet_step (fun K hK => ?_)
              go_simp
              apply Exists.intro
              refine ⟨fun _ => ?_, hK _ ?_⟩
              exact HFr.out _ _
              clear hK K
              iterate 5 (with_reducible refine wpQuiet_step (fun K hK => ?_); go_simp; with_reducible refine hK _ ?_; clear hK K)
              iterate 11 go_big_quiet_skip
              iterate 2 (with_reducible refine wpQuiet_step (fun K hK => ?_); go_simp; with_reducible refine hK _ ?_; clear hK K)
              with_reducible refine wpQuiet_nil ?_
              with_reducible intro _ hw'
              obtain ⟨⟨nq, osq⟩, hw''⟩ := hw'
              subst hw''
              have hik : (i : Int) < (R.length : Int) := by have := HLT.out; omega
              have hi0 : (0 : Int) ≤ (i : Int) := by omega
              have hlenR : R.length ≤ 2000 := HLT.out.2
              go_wp2_with fail
              exact ⟨⟨i + 1, (i : Int), by have := HLT.out; omega, by have := HLT.out; go_num, rfl, HB2.out.trans ⟨nq, osq, rfl⟩, HS.out⟩, by have := HLT.out; simp [intOf]; omega⟩
            · as_aux_lemma =>
              skip --BULK
              have kb5 := hDA.out.cell b 5 hb (.int .i64 R[b].t) rfl
              have hrb := fun q os => cell_grown (a := ⟨g, b * 6 + 5, none⟩) (by rw [hszA]; show g < _; omega) kb5 q os
              have hbk : (b : Int) < (R.length : Int) := by omega
              have hb0 : (0 : Int) ≤ (b : Int) := by omega
              have hbn : decide ((b : Int) < 0) = false := by first | (simp; done) | (simp; omega)
              have HS : Hid (BestD (candD R n) R (i + 1) (if decide (rt < R[b].t) then (i : Int) else (b : Int))) := Lib.hid (by
                by_cases e7 : rt < R[b].t
                · rw [decide_eq_true e7]; exact htake ⟨hiff.1 rfl, e3, e5, hq.1 rfl⟩ (.inr ⟨b, hb, rfl, e7⟩)
                · rw [decide_eq_false e7]; exact hkeep b hb rfl e7)
              generalize R[b].t = bt at *
              obtain ⟨dq, hdq⟩ : ∃ dq, decide (rt < bt) = dq := ⟨_, rfl⟩
              rw [hdq] at HS
              clear hskip htake hkeep e2 hiff e3 e5 hq hnA hnB kb5
              go_wp2_with fail
              generalize (wo.alloc (.cells #[.int .i64 rs, .string ri, .int .i64 rx, .int .i64 rm, .int .i64 rw', .int .i64 rt] 69)) = wA at *
              clear c0 k0 k1 k2 k3 k4 k5 n0 n1 hik hi0 hszA hRl hlenR hlen htb0 hsz0
              have hmix : Tryz.prog.follows .mixedOrders = true := by kernel_rfl
              refine wp_region_quiet_grown hmix (by kernel_rfl) ?_
              clear hmix
              iterate 21 (with_reducible refine wpQuiet_step (fun K hK => ?_); go_simp; with_reducible refine hK _ ?_; clear hK K)
              with_reducible refine wpQuiet_step (fun K hK => ?_)
              go_simp
              apply Exists.intro
              refine ⟨fun _ => ?_, hK _ ?_⟩
              exact HFr.out _ _
              clear hK K
              iterate 18 (with_reducible refine wpQuiet_step (fun K hK => ?_); go_simp; with_reducible refine hK _ ?_; clear hK K)
              with_reducible refine wpQuiet_nil ?_
              with_reducible intro _ hw'
              obtain ⟨⟨nq, osq⟩, hw''⟩ := hw'
              subst hw''
              have hik : (i : Int) < (R.length : Int) := by have := HLT.out; omega
              have hi0 : (0 : Int) ≤ (i : Int) := by omega
              have hlenR : R.length ≤ 2000 := HLT.out.2
              cases dq with
              | true =>
                go_wp2_with fail
                exact ⟨⟨i + 1, (i : Int), by have := HLT.out; omega, by have := HLT.out; go_num, rfl, HB2.out.trans ⟨nq, osq, rfl⟩, HS.out⟩, by have := HLT.out; simp [intOf]; omega⟩
              | false =>
                go_wp2_with fail
                exact ⟨⟨i + 1, (b : Int), by have := HLT.out; omega, by have := HLT.out; go_num, rfl, HB2.out.trans ⟨nq, osq, rfl⟩, HS.out⟩, by have := HLT.out; simp [intOf]; omega⟩
      · as_aux_lemma =>
        have hie : i = R.length := by omega
        subst hie
        have HB := Lib.hid hbw
        clear hbw
        rcases hbest with ⟨rfl, hno⟩ | ⟨b, hb, hbi, rfl, hcand, hmin⟩
        · as_aux_lemma =>
          have HD0 : Hid (DoneA n R) := Lib.hid fun s hs => by
            obtain ⟨j, hj, rfl⟩ := List.mem_iff_getElem.1 hs
            exact hno j hj hj
          clear hno
          have HRA : Hid (RunsD (StepDA n) (DoneA n) R0 R) := Lib.hid (HRUN.out R (.stop HD0.out))
          have HD2 := Lib.hid HDo.out
          have HGW : Hid (w.grownBy wo (Value.slice a R0.length c).ownBlock) := Lib.hid (gtrans9 HG.out (gbelow9 HB.out.below _))
          have HNX := Lib.hid hnx
          have HLT1 := Lib.hid hlt1
          clear hnx hz1 hlt1
          go_wp2_with fail
          clear c0 n0 n1
          go_loopg [] (wantsR R) (fun gg wr => ∃ R2, R2.length = R0.length ∧ DAt wr B tb (.slice a R2.length c) R2 T ∧ w.grownBy wr (Value.slice a R0.length c).ownBlock ∧ wr.heap[w.heap.size]? = w1.heap[w.heap.size]? ∧ w.heap.size < wr.heap.size ∧ DOk R2 T0 ∧ (∀ R', RunsD (StepDB n) (DoneB n) R2 R' → RunsD (StepDB n) (DoneB n) R R') ∧ wantsR R2 ≤ gg)
          case atStart => exact ⟨R, hRl, HD2.out, HGW.out, HNX.out.trans HN0.out.symm, HLT1.out, HOK.out, fun _ h => h, Nat.le_refl _⟩
          case round =>
            obtain ⟨R2, hRl2, hD2, hG2, hN2, hsz2, hOk2, hrun2, hgg2⟩ := hrel
            obtain ⟨wt, rfl⟩ : ∃ wt : World, wt = wr := ⟨_, rfl⟩
            have HDt := Lib.hid hD2
            have HGt := Lib.hid hG2
            have HNt := Lib.hid (hN2.trans HN0.out)
            have HSZt := Lib.hid hsz2
            have HOKt := Lib.hid hOk2
            have HRUNt := Lib.hid hrun2
            have HGGt := Lib.hid hgg2
            have HRLt := Lib.hid hRl2
            have HFi := Lib.hid (dfirst_any hD2 n)
            have hnx := hN2.trans HN0.out
            have n0 : wt.cell? ⟨w.heap.size, 0, none⟩ = some (.int .i64 n.s) := (cell_of_block hnx 0).trans rfl
            have n1 : wt.cell? ⟨w.heap.size, 1, none⟩ = some (.string n.i) := (cell_of_block hnx 1).trans rfl
            clear hD2 hG2 hN2 hsz2 hOk2 hrun2 hgg2 hnx hRl2 hRl hlenR hlen htb0 hsz0 HD2 HGW HNX HLT1 HDo HSZ HN HG HD HB
            go_wp2_with fail
            with_reducible refine HFi.out.mono ?_
            rintro e w2 ⟨k, rfl, hbest, hg2⟩
            have HG2 := Lib.hid hg2
            have HD3 := Lib.hid (HDt.out.below hg2.below)
            have hlt2 : w.heap.size < w2.heap.size := by have := hg2.below.size; have := HSZt.out; omega
            have HNX2 := Lib.hid ((hg2.below.block w.heap.size HSZt.out).trans HNt.out)
            have HGW2 : Hid (w.grownBy w2 (Value.slice a R0.length c).ownBlock) := Lib.hid (gtrans9 HGt.out (gbelow9 hg2.below _))
            have HLT2 := Lib.hid hlt2
            clear hg2 n0 n1 HFi
            rcases hbest with ⟨rfl, hno⟩ | ⟨b, hb, -, rfl, hwish, hmin⟩
            · as_aux_lemma =>
              have HDB : Hid (DoneB n R2) := Lib.hid fun r hr hn hm _ => by
                obtain ⟨j, hj, rfl⟩ := List.mem_iff_getElem.1 hr
                exact absurd ⟨hn, hm⟩ (hno j hj hj)
              clear hno
              go_wp2_with fail
              go_quiet (fail)
              go_wp2_with fail
              refine bodyPost_ret (results_none rfl _ _ _) rfl ?_
              exact ⟨rfl, R2, ⟨R, HRA.out, HRUNt.out R2 (.stop HDB.out)⟩, HRLt.out, by rw [← HRLt.out]; exact HD3.out.below (Gr.below ((Gr.refl w2).drewN _)), gtrans9 HGW2.out (gbelow9 (Gr.below ((Gr.refl w2).drewN _)) _)⟩
            obtain ⟨g, rfl, hBg, hgl⟩ := ha (by have := HRLt.out; omega)
            have hnx2 := HNX2.out
            have hgl2 : g < w2.heap.size := by omega
            have htl2 : tb < w2.heap.size := (Array.getElem?_eq_some_iff.1 HD3.out.at_).1
            have hy0 := fun q os => cell_grown (a := ⟨w.heap.size, 0, none⟩) hlt2 ((cell_of_block hnx2 0).trans rfl : w2.cell? ⟨w.heap.size, 0, none⟩ = some (.int .i64 n.s)) q os
            have hy1 := fun q os => cell_grown (a := ⟨w.heap.size, 1, none⟩) hlt2 ((cell_of_block hnx2 1).trans rfl : w2.cell? ⟨w.heap.size, 1, none⟩ = some (.string n.i)) q os
            have ht0 := fun q os => cell_grown (a := ⟨tb, 0, none⟩) htl2 HD3.out.hd q os
            have hr2 := fun q os => cell_grown (a := ⟨g, b * 6 + 2, none⟩) hgl2 (HD3.out.cell b 2 hb (.int .i64 R2[b].x) rfl) q os
            have hr4 := fun q os => cell_grown (a := ⟨g, b * 6 + 4, none⟩) hgl2 (HD3.out.cell b 4 hb (.int .i64 R2[b].w) rfl) q os
            have hbk : (b : Int) < (R2.length : Int) := by omega
            have hb0 : (0 : Int) ≤ (b : Int) := by omega
            have hbn : decide ((b : Int) < 0) = false := by first | (simp; done) | (simp; omega)
            obtain ⟨q1, hq1⟩ : ∃ q : Bool, q = true ↔ wantD R2 n := ⟨decide (wantD R2 n), decide_eq_true_iff⟩
            obtain ⟨q2, hq2⟩ : ∃ q : Bool, q = true ↔ freeD R2 R2[b].x n R2[b].w := ⟨decide (freeD R2 R2[b].x n R2[b].w), decide_eq_true_iff⟩
            have HWn := Lib.hid (dwant_gr HD3.out n q1 hq1)
            have HFr := Lib.hid (dfree_gr HD3.out R2[b].x n R2[b].w q2 hq2)
            have HST : Hid (q1 = false → q2 = true → StepDB n R2 (R2.set b (gotR R2[b]))) := Lib.hid fun e1 e2 => ⟨R2[b], List.getElem_mem hb, hwish.1, hwish.2, fun s hs hn hm => by
              obtain ⟨j, hj, rfl⟩ := List.mem_iff_getElem.1 hs
              exact hmin j hj hj ⟨hn, hm⟩, fun h => (by rw [hq1.2 h] at e1; cases e1), hq2.1 e2, updR_set HOKt.out hb _⟩
            have HDN : Hid (q1 = true ∨ q2 = false → DoneB n R2) := Lib.hid fun h => doneB_of HOKt.out hb hwish hmin (h.imp (fun h => hq1.1 h) fun h e => by rw [hq2.2 e] at h; cases h)
            have HWs : Hid (wantsR (R2.set b (gotR R2[b])) + 1 = wantsR R2) := Lib.hid (wantsR_set R2 b hb (gotR R2[b]) (HOKt.out.ww _ (List.getElem_mem hb) hwish.2) rfl)
            have HOk2 : Hid (DOk (R2.set b (gotR R2[b])) T0) := Lib.hid (by rw [updR_set HOKt.out hb]; exact HOKt.out.got (List.getElem_mem hb) (HOKt.out.ww _ (List.getElem_mem hb) hwish.2))
            have HL2 : Hid ((R2.set b (gotR R2[b])).length = R0.length) := Lib.hid (by rw [List.length_set]; exact HRLt.out)
            have HZ : Hid (g < w.heap.size) := Lib.hid hgl
            have HSC : Hid (∀ W, Below w2.heap.size w2 W → W.cell? ⟨tb, 0, none⟩ = some (.slice (some ⟨g, 0, none⟩) R2.length c) ∧ W.cell? ⟨g, b * 6 + 3, none⟩ = some (.int .i64 R2[b].m) ∧ W.cell? ⟨g, b * 6 + 4, none⟩ = some (.int .i64 R2[b].w) ∧ g ≠ tb ∧ W.frozen? ⟨g, b * 6 + 3, none⟩ = false) := Lib.hid fun W hW => by
              have hd := HD3.out.below hW
              obtain ⟨-, e1, e2⟩ := hd.setc b 3 hb (by omega) (gotM R2[b]) (.int .i64 R2[b].w) rfl
              exact ⟨hd.hd, hd.cell b 3 hb _ rfl, hd.cell b 4 hb _ rfl, e1, e2⟩
            have HGot := Lib.hid (fun W (hW : Below w2.heap.size w2 W) W' => (HD3.out.below hW).got (W := W') b hb)
            clear hwish hmin hq1 hq2 hnx2
            generalize R2.set b (gotR R2[b]) = R3 at *
            generalize R2[b].x = bx at *
            generalize R2[b].m = bm at *
            generalize R2[b].w = bw at *
            clear hb
            cases q1 with
            | true =>
             as_aux_lemma =>
              go_wp2_with fail
              have hmix : Tryz.prog.follows .mixedOrders = true := by kernel_rfl
              refine wp_region_quiet_grown hmix (by kernel_rfl) ?_
              clear hmix
              iterate 5 (with_reducible refine wpQuiet_step (fun K hK => ?_); go_simp; with_reducible refine hK _ ?_; clear hK K)
              with_reducible refine wpQuiet_step (fun K hK => ?_)
              go_simp
              apply Exists.intro
              refine ⟨fun _ => ?_, hK _ ?_⟩
              exact HWn.out _ _
              clear hK K
              iterate 2 (with_reducible refine wpQuiet_step (fun K hK => ?_); go_simp; with_reducible refine hK _ ?_; clear hK K)
              iterate 20 go_big_quiet_skip
              iterate 1 (with_reducible refine wpQuiet_step (fun K hK => ?_); go_simp; with_reducible refine hK _ ?_; clear hK K)
              with_reducible refine wpQuiet_nil ?_
              with_reducible intro _ hw'
              obtain ⟨⟨nq, osq⟩, hw''⟩ := hw'
              subst hw''
              go_wp2_with fail
              refine bodyPost_ret (results_none rfl _ _ _) rfl ?_
              have hbg : Below w2.heap.size w2 (grow (w2.drewN nq) osq) := Gr.below ⟨nq, osq, rfl⟩
              exact ⟨rfl, R2, ⟨R, HRA.out, HRUNt.out R2 (.stop (HDN.out (by simp)))⟩, HRLt.out, by rw [← HRLt.out]; exact HD3.out.below hbg, gtrans9 HGW2.out (gbelow9 hbg _)⟩
            | false =>
              go_wp2_with fail
              have hmix : Tryz.prog.follows .mixedOrders = true := by kernel_rfl
              refine wp_region_quiet_grown hmix (by kernel_rfl) ?_
              clear hmix
              iterate 5 (with_reducible refine wpQuiet_step (fun K hK => ?_); go_simp; with_reducible refine hK _ ?_; clear hK K)
              with_reducible refine wpQuiet_step (fun K hK => ?_)
              go_simp
              apply Exists.intro
              refine ⟨fun _ => ?_, hK _ ?_⟩
              exact HWn.out _ _
              clear hK K
              iterate 20 (with_reducible refine wpQuiet_step (fun K hK => ?_); go_simp; with_reducible refine hK _ ?_; clear hK K)
              with_reducible refine wpQuiet_step (fun K hK => ?_)
              go_simp
              apply Exists.intro
              refine ⟨fun _ => ?_, hK _ ?_⟩
              exact HFr.out _ _
              clear hK K
              iterate 2 (with_reducible refine wpQuiet_step (fun K hK => ?_); go_simp; with_reducible refine hK _ ?_; clear hK K)
              with_reducible refine wpQuiet_nil ?_
              with_reducible intro _ hw'
              obtain ⟨⟨nq, osq⟩, hw''⟩ := hw'
              subst hw''
              cases q2 with
              | false =>
               as_aux_lemma =>
                go_wp2_with fail
                refine bodyPost_ret (results_none rfl _ _ _) rfl ?_
                have hbg : Below w2.heap.size w2 (grow (w2.drewN nq) osq) := Gr.below ⟨nq, osq, rfl⟩
                exact ⟨rfl, R2, ⟨R, HRA.out, HRUNt.out R2 (.stop (HDN.out (by simp)))⟩, HRLt.out, by rw [← HRLt.out]; exact HD3.out.below hbg, gtrans9 HGW2.out (gbelow9 hbg _)⟩
              | true =>
               as_aux_lemma =>
                have hbg : Below w2.heap.size w2 (grow (w2.drewN nq) osq) := Gr.below ⟨nq, osq, rfl⟩
                have HBG := Lib.hid hbg
                have HGo2 := Lib.hid (HGot.out _ hbg)
                obtain ⟨c0, k3, k4, hgt, hf1⟩ := HSC.out _ hbg
                have HZB := Lib.hid hbg.size
                clear hbg hy0 hy1 ht0 hr2 hr4 HGot HSC HWn HFr hlt2 hgl hgl2 htl2
                generalize grow (w2.drewN nq) osq = w3 at *
                go_wp2_with fail
                go_region_held3 (fun W => W.cell? ⟨tb, 0, none⟩ = some (.slice (some ⟨g, 0, none⟩) R2.length c) ∧ W.cell? ⟨g, b * 6 + 4, none⟩ = some (.int .i64 bw)) (first | exact ⟨c0, k4⟩ | exact ⟨(World.cell?_setCell_far _ _ _ _ hgt).trans c0, (cell?_setCell_off _ _ _ _ _ (by omega)).trans k4⟩ | go_keep) (fail)
                obtain ⟨⟨c5, c6, c7⟩, hD5, hG5⟩ := HGo2.out (w3.setCell ⟨g, b * 6 + 3, none⟩ (.int .i64 bw)).drew (Below.refl _ _).drew
                have HD5 := Lib.hid hD5
                have HG5 := Lib.hid hG5
                clear hD5 hG5 c0 k3 k4 hf1 HGo2
                generalize (w3.setCell ⟨g, b * 6 + 3, none⟩ (.int .i64 bw)).drew = W5 at *
                go_wp2_with fail
                go_roundg (wantsR R3)
                case measure => have := HWs.out; have := HGGt.out; omega
                case rel =>
                  have hg2 := gtrans9 (gtrans9 HGW2.out (gbelow9 HBG.out _)) HG5.out
                  have hz3 : w.heap.size < w3.heap.size := Nat.lt_of_lt_of_le HLT2.out HBG.out.size
                  refine ⟨R3, HL2.out, HD5.out, hg2, ?_, ?_, HOk2.out, fun R' h => HRUNt.out R' (.step (HST.out (by simp) (by simp)) h), Nat.le_refl _⟩
                  · exact (HG5.out.block _ hz3 (by have := HZ.out; simp; omega)).trans (((HBG.out.block _ HLT2.out).trans HNX2.out).trans HN0.out.symm)
                  · have := HG5.out.size; omega
        · as_aux_lemma =>
          have HS : Hid (StepDA n R (R.set b (gotR R[b]))) := Lib.hid ⟨R[b], List.getElem_mem hb, hcand, fun s hs hc => by
            obtain ⟨j, hj, rfl⟩ := List.mem_iff_getElem.1 hs
            exact hmin j hj hj hc, updR_set HOK.out hb _⟩
          clear hmin
          obtain ⟨g, rfl, hBg, hgl⟩ := ha (by rw [hRl] at hb; omega)
          have hbk : (b : Int) < (R.length : Int) := by omega
          have hb0 : (0 : Int) ≤ (b : Int) := by omega
          have hbn : decide ((b : Int) < 0) = false := by first | (simp; done) | (simp; omega)
          have k3 := HDo.out.cell b 3 hb (.int .i64 R[b].m) rfl
          have k4 := HDo.out.cell b 4 hb (.int .i64 R[b].w) rfl
          obtain ⟨-, hgt, hf1⟩ := HDo.out.setc b 3 hb (by omega) (gotM R[b]) (.int .i64 R[b].w) rfl
          have HGot := Lib.hid (fun W => HDo.out.got (W := W) b hb)
          have HWs : Hid (wantsR (R.set b (gotR R[b])) + 1 = wantsR R) := Lib.hid (wantsR_set R b hb (gotR R[b]) hcand.2.2.1 rfl)
          have HOk2 : Hid (DOk (R.set b (gotR R[b])) T0) := Lib.hid (by rw [updR_set HOK.out hb]; exact HOK.out.got (List.getElem_mem hb) hcand.2.2.1)
          have HL2 : Hid ((R.set b (gotR R[b])).length = R0.length) := Lib.hid (by rw [List.length_set]; exact hRl)
          have HNX := Lib.hid hnx
          have HGW : Hid (w.grownBy wo (some g)) := Lib.hid (gtrans9 HG.out (gbelow9 HB.out.below _))
          have HZ : Hid (g < w.heap.size ∧ w.heap.size < wo.heap.size) := Lib.hid ⟨hgl, hlt1⟩
          generalize R.set b (gotR R[b]) = R3 at *
          obtain ⟨bw, hbw⟩ : ∃ bw, R[b].w = bw := ⟨_, rfl⟩
          rw [hbw] at k4 HGot
          clear hbw hRl hlen htb0 hsz0 hcand hnx n0 n1 hlt1 hgl hlenR
          go_wp2_with fail
          go_region_held3 (fun W => W.cell? ⟨tb, 0, none⟩ = some (.slice (some ⟨g, 0, none⟩) R.length c) ∧ W.cell? ⟨g, b * 6 + 4, none⟩ = some (.int .i64 bw)) (first | exact ⟨c0, k4⟩ | exact ⟨(World.cell?_setCell_far _ _ _ _ hgt).trans c0, (cell?_setCell_off _ _ _ _ _ (by omega)).trans k4⟩ | go_keep) (fail)
          obtain ⟨⟨c5, c6, c7⟩, hD5, hG5⟩ := HGot.out (wo.setCell ⟨g, b * 6 + 3, none⟩ (.int .i64 bw)).drew (Below.refl _ _).drew
          have hz5 : (wo.setCell ⟨g, b * 6 + 3, none⟩ (.int .i64 bw)).drew.heap.size = wo.heap.size := by simp [World.setCell]
          have hZ5 : Hid (wo.heap.size ≤ (wo.setCell ⟨g, b * 6 + 3, none⟩ (.int .i64 bw)).drew.heap.size) := Lib.hid (by omega)
          have HD5 := Lib.hid hD5
          have HG5 := Lib.hid hG5
          clear hD5 hG5 c0 k3 k4 hf1 HGot hz5
          generalize (wo.setCell ⟨g, b * 6 + 3, none⟩ (.int .i64 bw)).drew = W5 at *
          go_wp2_with fail
          go_roundg (wantsR R3)
          case measure => have := HWs.out; have := HGG.out; omega
          case rel =>
            have hg2 := gtrans9 HGW.out HG5.out
            refine ⟨R3, HL2.out, HD5.out, hg2, ?_, ?_, HOk2.out, fun R' h => HRUN.out R' (.step HS.out h), Nat.le_refl _⟩
            · exact (HG5.out.block _ HZ.out.2 (by have := HZ.out.1; simp; omega)).trans (HNX.out.trans HN0.out.symm)
            · have := HG5.out.size; have := HZ.out.2; omega
end
end Go.Proofs.YtileamjmhhifaaaGreat
