/-
  Layer 9 (locks): the walk of LocksNames.
-/
import Derived.Test.YtileamjmhhifaaaLk30
namespace Go.Proofs.Ytileamjmhhifaaa
open Go.RowKit Go.Joins Go.Sort Go.Shelf
set_option linter.unusedVariables false
set_option linter.unusedSimpArgs false

def nmO (n : Nm) : Obj := .cells #[.int .i64 n.s, .string n.i] 24
def caO (c : Ca) : Obj := .cells #[.int .i64 c.x, .int .i64 c.n.s, .string c.n.i, .int .i64 c.m] 30
theorem nm_box {w : World} {b : Nat} {n : Nm} (hb : w.heap[b]? = some (nmO n)) : w.cell? ⟨b, 0, none⟩ = some (.int .i64 n.s) ∧ w.cell? ⟨b, 1, none⟩ = some (.string n.i) :=
  ⟨(cell_of_block hb 0).trans rfl, (cell_of_block hb 1).trans rfl⟩
theorem ca_box {w : World} {b : Nat} {c : Ca} (hb : w.heap[b]? = some (caO c)) : w.cell? ⟨b, 0, none⟩ = some (.int .i64 c.x) ∧ w.cell? ⟨b, 1, none⟩ = some (.int .i64 c.n.s) ∧ w.cell? ⟨b, 2, none⟩ = some (.string c.n.i) ∧ w.cell? ⟨b, 3, none⟩ = some (.int .i64 c.m) :=
  ⟨(cell_of_block hb 0).trans rfl, (cell_of_block hb 1).trans rfl, (cell_of_block hb 2).trans rfl, (cell_of_block hb 3).trans rfl⟩

set_option maxHeartbeats 4000000 in
set_option maxRecDepth 100000 in
theorem names_walk (a : Option Addr) (l cp : Nat) (I : List Ca) (s : Int) (i : ByteArray) (w : World) (hI : CasIn w a l I) :
    Calls Try.prog 3 #[.slice a l cp, .agg #[.int .i64 s, .string i]] w fun e w' => e = .returned (.bool true) ∧ Below w.heap.size w w' := by
  have mixed : Try.prog.follows Departure.mixedOrders = true := by kernel_rfl
  obtain ⟨n, hn⟩ : ∃ n : Nm, n = ⟨s, i⟩ := ⟨_, rfl⟩
  have hs : s = n.s := by rw [hn]
  have hi : i = n.i := by rw [hn]
  subst hs
  subst hi
  clear hn
  have HI := Lib.hid hI
  have hl9 := hI.1
  clear hI
  have HB1 : Hid (Below w.heap.size w (w.alloc (.cells #[.int .i64 n.s, .string n.i] 24))) := Lib.hid ((Below.refl _ _).alloc (Nat.le_refl _) _)
  have HN1 : Hid ((w.alloc (.cells #[.int .i64 n.s, .string n.i] 24)).heap[w.heap.size]? = some (nmO n)) := Lib.hid (heap_alloc_new w (.cells #[.int .i64 n.s, .string n.i] 24))
  go_enter Try.func3, Try.ntmps3
  go_wp2_with fail
  obtain ⟨nx, hnx⟩ : ∃ nx, w.heap.size = nx := ⟨_, rfl⟩
  rw [hnx] at HN1
  rw [hnx]
  have HNX := Lib.hid hnx
  clear hnx
  generalize w.alloc (.cells #[.int .i64 n.s, .string n.i] 24) = w1 at *
  refine (awake9 w1).mono ?_
  rintro e w3 ⟨rfl, hb3⟩
  have HB3 := Lib.hid (HB1.out.trans (hb3.mono HB1.out.size))
  have HN3 := Lib.hid ((hb3.block _ (Array.getElem?_eq_some_iff.1 HN1.out).1).trans HN1.out)
  clear hb3 HB1 HN1
  go_upto_region 3 with fail
  by_cases hl100 : 100 < l
  · have hgt : decide ((l : Int) > 100) = true := by simp; omega
    clear hl100
    go_wp2_with fail
    go_ret
    exact ⟨rfl, HB3.out⟩
  have hgt : decide ((l : Int) > 100) = false := by simp; omega
  have HL100 := Lib.hid hl100
  have HNew := Lib.hid (la_new HB3.out)
  clear hl100
  go_wp2_with fail
  refine HNew.out.mono ?_
  rintro e w4 ⟨tA, O4, rfl, l4, hb4, hO4⟩
  have HNew2 := Lib.hid (st_new2 l4 ((hb4.block _ (Array.getElem?_eq_some_iff.1 HN3.out).1).trans HN3.out) (fun h => by
    have h1 := hO4 _ h
    have h2 := (Array.getElem?_eq_some_iff.1 HN3.out).1
    omega))
  clear l4 hb4 hO4 HNew HN3
  go_wp2_with fail
  refine HNew2.out.mono ?_
  rintro e w5 ⟨tB, rfl, st5⟩
  have HMB0 : Hid (w.heap.size ≤ w5.heap.size ∧ nx ≠ w5.heap.size) := Lib.hid ⟨st5.low.size, fun e => by
    have h2 := (Array.getElem?_eq_some_iff.1 (st5.blk (g := (nx, nmO n)) (by simp))).1
    simp only at h2
    omega⟩
  have HS6 := Lib.hid (st5.alloc (.map #[] 0))
  have hmk := run_newT9 w5
  have HMk := Lib.hid hmk
  clear st5 HNew2
  go_upto_region 7 with fail
  obtain ⟨mb, hmb⟩ : ∃ mb, w5.heap.size = mb := ⟨_, rfl⟩
  have HMB : Hid (w.heap.size ≤ mb ∧ nx ≠ mb) := Lib.hid (by rw [← hmb]; exact HMB0.out)
  clear HMB0
  rw [hmb] at HS6
  rw [hmb]
  clear hmb hmk HMk
  generalize w5.alloc (.map #[] 0) = w6 at *
  go_upto_block 0 with fail
  go_cut [] (fun wc => ∃ (o : Obj) (M : List (Int × Value)), ST w wc tA tB LS.empty LS.empty 0 [(mb, o), (nx, nmO n)] ∧ MapO o M ∧ ∀ (i : Nat) (hi : i < I.length), I[i].n = n → I[i].x ∈ keysM M)
  case first => as_aux_lemma =>
    go_wp2_with fail
    go_loopw [27] (fun ti wr => ∃ (k : Nat) (o : Obj) (M : List (Int × Value)), k ≤ l ∧ ti = .int .i64 k ∧ ST w wr tA tB LS.empty LS.empty 0 [(mb, o), (nx, nmO n)] ∧ MapO o M ∧ ∀ (i : Nat) (hi : i < I.length), i < k → I[i].n = n → I[i].x ∈ keysM M) (fun ti _ => l - (intOf ti).toNat)
    case atStart => exact ⟨0, _, [], by omega, rfl, HS6.out, MapO.nil, fun i _ hi => by omega⟩
    case round =>
      obtain ⟨k, o, M, hk, rfl, st, hmo, hmem⟩ := hrel
      obtain ⟨wo, rfl⟩ : ∃ wo : World, wo = wr := ⟨_, rfl⟩
      have HS := Lib.hid st
      have HMo := Lib.hid hmo
      have HMem := Lib.hid hmem
      clear st hmo hmem HS6
      by_cases hlt : k < l
      · have hki : decide ((k : Int) < (l : Int)) = true := by simp; omega
        have hkI : k < I.length := by rw [HI.out.2.1]; exact hlt
        obtain ⟨b, off, rfl, hbl, d0, d1, d2, d3⟩ := (HI.out.below HS.out.low).cells k hkI
        have HC : Hid (∀ M' : List (Int × Value), (∀ x, x ∈ keysM M → x ∈ keysM M') → (I[k].n = n → I[k].x ∈ keysM M') → ∀ (i : Nat) (hi : i < I.length), i < k + 1 → I[i].n = n → I[i].x ∈ keysM M') := Lib.hid fun M' h1 h2 i hi hik hin => by
          by_cases e : i = k
          · subst e; exact h2 hin
          · exact h1 _ (HMem.out i hi (by omega) hin)
        have HS7 : Hid (ST w (wo.alloc (.cells #[.int .i64 I[k].x, .int .i64 I[k].n.s, .string I[k].n.i, .int .i64 I[k].m] 30)) tA tB LS.empty LS.empty 0 [(wo.heap.size, caO I[k]), (mb, o), (nx, nmO n)]) := Lib.hid (HS.out.alloc (caO I[k]))
        have hz := HS.out.low.size
        generalize I[k] = c at *
        go_upto_region 10 with fail
        obtain ⟨bx, hbx⟩ : ∃ bx, wo.heap.size = bx := ⟨_, rfl⟩
        rw [hbx] at HS7
        rw [hbx]
        clear d0 d1 d2 d3 hbl HS hz hbx HMem
        generalize wo.alloc (.cells #[.int .i64 c.x, .int .i64 c.n.s, .string c.n.i, .int .i64 c.m] 30) = w7 at *
        obtain ⟨c0, c1, c2, c3⟩ := ca_box (HS7.out.blk (g := (bx, caO c)) (by simp))
        obtain ⟨e0, e1⟩ := nm_box (HS7.out.blk (g := (nx, nmO n)) (by simp))
        have hlb := (Array.getElem?_eq_some_iff.1 (HS7.out.blk (g := (bx, caO c)) (by simp))).1
        have hln := (Array.getElem?_eq_some_iff.1 (HS7.out.blk (g := (nx, nmO n)) (by simp))).1
        have heqn : ∀ W : World, (Op.equalIn 10000 24 (.agg #[.int .i64 c.n.s, .string c.n.i]) (.agg #[.int .i64 n.s, .string n.i])).run Try.prog W = .ok (c.n.eqB n) W := fun W => run_equalIn_nm c.n n W
        by_cases hn : c.n = n
        · have hnb : c.n.eqB n = true := Nm.eqB_iff.2 hn
          rw [hnb] at heqn
          obtain ⟨o', hput, hmo'⟩ := HMo.out.put (HS7.out.blk (g := (mb, o)) (by simp)) c.x
          have HS8 := Lib.hid ((HS7.out.poke (b := mb) (o := o) (by simp) HMB.out.1 o' (G' := [(nx, nmO n)]) (fun g hg => by
            rw [List.mem_singleton.1 hg]
            exact ⟨by simp, HMB.out.2⟩)))
          have HMo' := Lib.hid hmo'
          clear hn hnb hmo'
          go_wp2_with fail
          exact ⟨⟨k + 1, o', _, by omega, by go_num, HS8.out, HMo'.out, HC.out _ (fun x hx => (keys_upd x).2 (.inr hx)) fun _ => (keys_upd c.x).2 (.inl rfl)⟩, by simp [intOf]; omega⟩
        · have hnb : c.n.eqB n = false := by
            cases hq : c.n.eqB n with
            | false => rfl
            | true => exact absurd (Nm.eqB_iff.1 hq) hn
          rw [hnb] at heqn
          have HN := Lib.hid hn
          clear hn hnb
          go_wp2_with fail
          exact ⟨⟨k + 1, o, M, by omega, by go_num, HS7.out.sub (fun g hg => List.mem_cons_of_mem _ hg), HMo.out, HC.out _ (fun x hx => hx) fun h => absurd h HN.out⟩, by simp [intOf]; omega⟩
      · have hki : decide ((k : Int) < (l : Int)) = false := by simp; omega
        have hkl : k = l := by omega
        subst hkl
        go_wp2_with fail
        go_meet
        exact ⟨o, M, HS.out, HMo.out, fun i hi hin => HMem.out i hi (by have := HI.out.2.1; omega) hin⟩
  case rest =>
    obtain ⟨o, M, st, hmo, hmem⟩ := hcut
    obtain ⟨w8, rfl⟩ : ∃ w8 : World, w8 = wc := ⟨_, rfl⟩
    have HS8 := Lib.hid st
    have HMo := Lib.hid hmo
    have HMem := Lib.hid hmem
    clear st hmo hmem HS6 HMB
    go_wp2_with fail
    go_loopw [41] (fun ti wr => ∃ (k : Nat) (SA SB : LS), k ≤ l ∧ ti = .int .i64 k ∧ ST w wr tA tB SA SB (2 * k) [(mb, o), (nx, nmO n)] ∧ NR (fun x => x ∈ keysM M) n SA SB) (fun ti _ => l - (intOf ti).toNat)
    case atStart => exact ⟨0, _, _, by omega, rfl, HS8.out, NR.empty _ _⟩
    case round =>
      clear HS8
      obtain ⟨k, SA, SB, hk, rfl, st, hnr⟩ := hrel
      obtain ⟨wo, rfl⟩ : ∃ wo : World, wo = wr := ⟨_, rfl⟩
      have HS := Lib.hid st
      have HNR := Lib.hid hnr
      clear st hnr
      by_cases hlt : k < l
      · have hki : decide ((k : Int) < (l : Int)) = true := by simp; omega
        have hkI : k < I.length := by rw [HI.out.2.1]; exact hlt
        obtain ⟨b, off, rfl, hbl, d0, d1, d2, d3⟩ := (HI.out.below HS.out.low).cells k hkI
        have HC : Hid (I[k].n = n → I[k].x ∈ keysM M) := Lib.hid fun h => HMem.out k hkI h
        have HS9 : Hid (ST w (wo.alloc (.cells #[.int .i64 I[k].x, .int .i64 I[k].n.s, .string I[k].n.i, .int .i64 I[k].m] 30)) tA tB SA SB (2 * k) [(wo.heap.size, caO I[k]), (mb, o), (nx, nmO n)]) := Lib.hid (HS.out.alloc (caO I[k]))
        have hz := HS.out.low.size
        have HK1000 := Lib.hid (show 2 * k ≤ 1000 by have := HL100.out; omega)
        generalize I[k] = c at *
        go_upto_region 16 with fail
        obtain ⟨bx, hbx⟩ : ∃ bx, wo.heap.size = bx := ⟨_, rfl⟩
        rw [hbx] at HS9
        rw [hbx]
        clear d0 d1 d2 d3 hbl HS hz hbx
        generalize wo.alloc (.cells #[.int .i64 c.x, .int .i64 c.n.s, .string c.n.i, .int .i64 c.m] 30) = w9 at *
        obtain ⟨c0, c1, c2, c3⟩ := ca_box (HS9.out.blk (g := (bx, caO c)) (by simp))
        obtain ⟨e0, e1⟩ := nm_box (HS9.out.blk (g := (nx, nmO n)) (by simp))
        have hlb := (Array.getElem?_eq_some_iff.1 (HS9.out.blk (g := (bx, caO c)) (by simp))).1
        have hln := (Array.getElem?_eq_some_iff.1 (HS9.out.blk (g := (nx, nmO n)) (by simp))).1
        have heqn : ∀ W : World, (Op.equalIn 10000 24 (.agg #[.int .i64 c.n.s, .string c.n.i]) (.agg #[.int .i64 n.s, .string n.i])).run Try.prog W = .ok (c.n.eqB n) W := fun W => run_equalIn_nm c.n n W
        by_cases hn : c.n = n
        · have hnb : c.n.eqB n = true := Nm.eqB_iff.2 hn
          rw [hnb] at heqn
          have HX := Lib.hid (HC.out hn)
          have HN := Lib.hid hn
          clear hn hnb HC
          by_cases hm : c.m = 0
          · have hmb : (c.m == 0) = true := by simp [hm]
            have HRl := Lib.hid (HS9.out.release HK1000.out c.x)
            clear hm
            go_wp2_with fail
            refine HRl.out.mono ?_
            rintro e w10 ⟨rfl, SA1, hr1, st1⟩
            have HS10 := Lib.hid st1
            have HR1 := Lib.hid hr1
            clear st1 hr1 c0 c1 c2 c3 e0 e1 hlb hln HRl HS9
            obtain ⟨c0, c1, c2, c3⟩ := ca_box (HS10.out.blk (g := (bx, caO c)) (by simp))
            have hlb := (Array.getElem?_eq_some_iff.1 (HS10.out.blk (g := (bx, caO c)) (by simp))).1
            have HRl := Lib.hid (HS10.out.swap.release HK1000.out c.x)
            go_wp2_with fail
            refine HRl.out.mono ?_
            rintro e w11 ⟨rfl, SB1, hr2, st2⟩
            have HS11 := Lib.hid st2.swap
            have HNR2 := Lib.hid (HNR.out.rel HX.out HR1.out hr2)
            clear st2 hr2 HRl HS10 c0 c1 c2 c3 hlb
            go_wp2_with fail
            exact ⟨⟨k + 1, SA1, SB1, by omega, by go_num, (HS11.out.sub (fun g hg => List.mem_cons_of_mem _ hg)).mono (by omega), HNR2.out⟩, by simp [intOf]; omega⟩
          · have hmb : (c.m == 0) = false := by simp [hm]
            obtain ⟨hnr2, hans⟩ := HNR.out.askB (m := c.m) HX.out
            have HNR2 := Lib.hid hnr2
            have HAs := Lib.hid (HS9.out.ask HK1000.out c.x c.m n)
            have HAns := Lib.hid hans
            clear hm hnr2 hans
            go_wp2_with fail
            refine HAs.out.mono ?_
            rintro e w10 ⟨rfl, st1⟩
            have HS10 := Lib.hid st1
            clear st1 c0 c1 c2 c3 e0 e1 hlb hln HAs HS9
            obtain ⟨c0, c1, c2, c3⟩ := ca_box (HS10.out.blk (g := (bx, caO c)) (by simp))
            obtain ⟨e0, e1⟩ := nm_box (HS10.out.blk (g := (nx, nmO n)) (by simp))
            have hlb := (Array.getElem?_eq_some_iff.1 (HS10.out.blk (g := (bx, caO c)) (by simp))).1
            have hln := (Array.getElem?_eq_some_iff.1 (HS10.out.blk (g := (nx, nmO n)) (by simp))).1
            have HAs := Lib.hid (HS10.out.swap.ask (by have := HL100.out; omega) c.x c.m n)
            rw [HAns.out]
            go_wp2_with fail
            refine HAs.out.mono ?_
            rintro e w11 ⟨rfl, st2⟩
            have HS11 := Lib.hid st2.swap
            clear st2 HAs HS10 c0 c1 c2 c3 e0 e1 hlb hln
            obtain ⟨SA1, hSA1⟩ : ∃ SA1, askT SA c.x n c.m = SA1 := ⟨_, rfl⟩
            obtain ⟨SB1, hSB1⟩ : ∃ SB1, askT SB c.x n c.m = SB1 := ⟨_, rfl⟩
            rw [hSA1] at HS11 HNR2
            rw [hSB1] at HS11 HNR2
            clear hSA1 hSB1 HAns
            generalize (askR SB c.x n c.m).1 = r1
            generalize (askR SB c.x n c.m).2 = er
            obtain ⟨c0', -⟩ := ca_box (HS11.out.blk (g := (bx, caO c)) (by simp))
            obtain ⟨e0', e1'⟩ := nm_box (HS11.out.blk (g := (nx, nmO n)) (by simp))
            have hlb := (Array.getElem?_eq_some_iff.1 (HS11.out.blk (g := (bx, caO c)) (by simp))).1
            have hln := (Array.getElem?_eq_some_iff.1 (HS11.out.blk (g := (nx, nmO n)) (by simp))).1
            have hr1 : (r1 != r1) = false := by simp
            have hr2 : (er != er) = false := by simp
            go_upto_region 25 with fail
            have c0 := fun n os => cell_grown (w := w11) (a := ⟨bx, 0, none⟩) hlb c0' n os
            have e0 := fun n os => cell_grown (w := w11) (a := ⟨nx, 0, none⟩) hln e0' n os
            have e1 := fun n os => cell_grown (w := w11) (a := ⟨nx, 1, none⟩) hln e1' n os
            obtain ⟨md, hmd⟩ : ∃ md, modeL c.x (SB1.q n).H = md := ⟨_, rfl⟩
            obtain ⟨wt, hwt⟩ : ∃ wt, SB1.wt c.x = wt := ⟨_, rfl⟩
            have hmd2 := HNR2.out.mode c.x
            have hwt2 := HNR2.out.waits HX.out
            rw [hmd] at hmd2
            rw [hwt] at hwt2
            have HMa : Hid (∀ k os, Calls Try.prog 13 #[.pointer (some ⟨tA, 0, none⟩), .int .i64 c.x, .agg #[.int .i64 n.s, .string n.i]] (grow (w11.drewN k) os) fun e w'' => e = .returned (.int .i64 md) ∧ ∃ p : GrownBy, w'' = grow (w11.drewN p.n) p.os) := Lib.hid fun k os =>
              Calls.grown_of (((HS11.out.below (Gr.below ⟨k, os, rfl⟩)).modeG c.x n).mono fun e w' h => ⟨by rw [h.1, hmd2], h.2⟩)
            have HMb : Hid (∀ k os, Calls Try.prog 13 #[.pointer (some ⟨tB, 0, none⟩), .int .i64 c.x, .agg #[.int .i64 n.s, .string n.i]] (grow (w11.drewN k) os) fun e w'' => e = .returned (.int .i64 md) ∧ ∃ p : GrownBy, w'' = grow (w11.drewN p.n) p.os) := Lib.hid fun k os =>
              Calls.grown_of (((HS11.out.below (Gr.below ⟨k, os, rfl⟩)).swap.modeG c.x n).mono fun e w' h => ⟨by rw [h.1, hmd], h.2⟩)
            have HWa : Hid (∀ k os, Calls Try.prog 14 #[.pointer (some ⟨tA, 0, none⟩), .int .i64 c.x] (grow (w11.drewN k) os) fun e w'' => e = .returned (.bool wt) ∧ ∃ p : GrownBy, w'' = grow (w11.drewN p.n) p.os) := Lib.hid fun k os =>
              Calls.grown_of (((HS11.out.below (Gr.below ⟨k, os, rfl⟩)).waitingG c.x).mono fun e w' h => ⟨by rw [h.1, hwt2], h.2⟩)
            have HWb : Hid (∀ k os, Calls Try.prog 14 #[.pointer (some ⟨tB, 0, none⟩), .int .i64 c.x] (grow (w11.drewN k) os) fun e w'' => e = .returned (.bool wt) ∧ ∃ p : GrownBy, w'' = grow (w11.drewN p.n) p.os) := Lib.hid fun k os =>
              Calls.grown_of (((HS11.out.below (Gr.below ⟨k, os, rfl⟩)).swap.waitingG c.x).mono fun e w' h => ⟨by rw [h.1, hwt], h.2⟩)
            clear hmd hwt hmd2 hwt2 c0' e0' e1'
            have hmm : (md != md) = false := by simp
            have hww : (wt != wt) = false := by simp
            refine wp_region_quiet_grown (by assumption) (by kernel_rfl) ?_
            iterate 13 (with_reducible refine wpQuiet_step (fun K hK => ?_); go_simp; with_reducible refine hK _ ?_; clear hK K)
            with_reducible refine wpQuiet_step (fun K hK => ?_)
            go_simp
            apply Exists.intro
            refine ⟨fun _ => ?_, hK _ ?_⟩
            exact HMa.out _ _
            clear hK K
            iterate 4 (with_reducible refine wpQuiet_step (fun K hK => ?_); go_simp; with_reducible refine hK _ ?_; clear hK K)
            with_reducible refine wpQuiet_step (fun K hK => ?_)
            go_simp
            apply Exists.intro
            refine ⟨fun _ => ?_, hK _ ?_⟩
            exact HMb.out _ _
            clear hK K
            iterate 6 (with_reducible refine wpQuiet_step (fun K hK => ?_); go_simp; with_reducible refine hK _ ?_; clear hK K)
            with_reducible refine wpQuiet_step (fun K hK => ?_)
            go_simp
            apply Exists.intro
            refine ⟨fun _ => ?_, hK _ ?_⟩
            exact HWa.out _ _
            clear hK K
            iterate 3 (with_reducible refine wpQuiet_step (fun K hK => ?_); go_simp; with_reducible refine hK _ ?_; clear hK K)
            with_reducible refine wpQuiet_step (fun K hK => ?_)
            go_simp
            apply Exists.intro
            refine ⟨fun _ => ?_, hK _ ?_⟩
            exact HWb.out _ _
            clear hK K
            iterate 2 (with_reducible refine wpQuiet_step (fun K hK => ?_); go_simp; with_reducible refine hK _ ?_; clear hK K)
            with_reducible refine wpQuiet_nil ?_
            with_reducible intro _ hw'
            obtain ⟨⟨nq, osq⟩, hw''⟩ := hw'
            subst hw''
            have HS12 := Lib.hid (HS11.out.below (Gr.below ⟨nq, osq, rfl⟩))
            clear c0 e0 e1 HMa HMb HWa HWb HS11 hlb hln
            go_wp2_with fail
            exact ⟨⟨k + 1, SA1, SB1, by omega, by go_num, (HS12.out.sub (fun g hg => List.mem_cons_of_mem _ hg)).mono (by omega), HNR2.out⟩, by simp [intOf]; omega⟩
        · have hnb : c.n.eqB n = false := by
            cases hq : c.n.eqB n with
            | false => rfl
            | true => exact absurd (Nm.eqB_iff.1 hq) hn
          rw [hnb] at heqn
          have HN := Lib.hid hn
          clear hn hnb
          clear HC
          go_upto_region 18 with fail
          generalize bits BinOp.xor IntKind.i64 c.x 1099511627776 = other
          have hlk := HMo.out.look (HS9.out.blk (g := (mb, o)) (by simp)) other
          by_cases hin : other ∈ keysM M
          · have hd : decide (other ∈ keysM M) = true := by simp [hin]
            rw [hd] at hlk
            clear hin hd
            go_wp2_with fail
            exact ⟨⟨k + 1, SA, SB, by omega, by go_num, (HS9.out.sub (fun g hg => List.mem_cons_of_mem _ hg)).mono (by omega), HNR.out⟩, by simp [intOf]; omega⟩
          · have hd : decide (other ∈ keysM M) = false := by simp [hin]
            rw [hd] at hlk
            have HAs := Lib.hid (HS9.out.ask HK1000.out other c.m c.n)
            have HNR2 := Lib.hid (HNR.out.askO (x := other) (m := c.m) (k := c.n) HN.out hin)
            clear hin hd
            go_wp2_with fail
            refine HAs.out.mono ?_
            rintro e w10 ⟨rfl, st1⟩
            have HS10 := Lib.hid st1
            clear st1 HAs HS9 c0 c1 c2 c3 e0 e1 hlb hln hlk
            go_wp2_with fail
            exact ⟨⟨k + 1, askT SA other c.n c.m, SB, by omega, by go_num, (HS10.out.sub (fun g hg => List.mem_cons_of_mem _ hg)).mono (by omega), HNR2.out⟩, by simp [intOf]; omega⟩
      · have hki : decide ((k : Int) < (l : Int)) = false := by simp; omega
        go_wp2_with fail
        go_ret
        exact ⟨rfl, HS.out.low⟩
theorem names_walk1 (a : Option Addr) (l cp : Nat) (I : List Ca) (s : Int) (i : ByteArray) (w : World) (hI : CasIn w a l I) (_ : True) : Calls Try.prog 3 #[.slice a l cp, .agg #[.int .i64 s, .string i]] w fun e w' => e = .returned (.bool true) ∧ Below w.heap.size w w' := names_walk a l cp I s i w hI
end Go.Proofs.Ytileamjmhhifaaa
