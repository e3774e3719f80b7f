/-
  Layer 9 (locks): the walk of the document's Ask: one who doesn't hold.
-/
import Derived.Test.YtileamjmhhifaaaGreatLd9a
import Derived.Deep.AppendLies
namespace Go.Proofs.YtileamjmhhifaaaGreat
open Go.RowKit Go.Joins Go.Sort Go.Shelf
set_option linter.unusedVariables false
set_option linter.unusedSimpArgs false

def newC (R : List Dr) (x : Int) (n : Nm) (m : Int) : Prop := (∀ r ∈ R, ¬ wishP n r) ∧ ¬ wantD R n ∧ freeD R x n m
def newR (R : List Dr) (x : Int) (n : Nm) (m T : Int) (b : Bool) (R' : List Dr) : Prop := (b = true ∧ newC R x n m ∧ R' = R ++ [⟨n, x, m, 0, T + 1⟩]) ∨ (b = false ∧ ¬ newC R x n m ∧ R' = R ++ [⟨n, x, 0, m, T + 1⟩])
def NewPost (R : List Dr) (x : Int) (n : Nm) (m T : Int) (B tb : Nat) (rv : Value) (w : World) (e : Ending) (w' : World) : Prop := ∃ b R' rv', e = .returned (.tuple #[.bool b, .int .i64 0]) ∧ newR R x n m T b R' ∧ DAt w' B tb rv' R' (T + 1) ∧ Kept (OD tb rv) (OD tb rv') w w'
theorem lay_grown {w w' : World} {B tb : Nat} {rv v' : Value} {R : List Dr} {T : Int} (h : DAt w B tb rv R T) (hg : w.grownBy w' rv.ownBlock) (r : Dr) (ho : w'.ownsRow B 69 6 v' (R.length + 1) (R.flatMap Dr.l ++ r.l)) (hl : R.length ≤ 1000) :
    w'.cell? ⟨tb, 0, none⟩ = some rv ∧ w'.frozen? ⟨tb, 0, none⟩ = false ∧ DAt (w'.setCell ⟨tb, 0, none⟩ v') B tb v' (R ++ [r]) T := by
  have hb := (hg.block tb (Array.getElem?_eq_some_iff.1 h.at_).1 fun e => own_ne_bl h.own h.at_ (by decide) e.symm).trans h.at_
  have e1 : (R ++ [r]).length = R.length + 1 := by simp
  have e2 : drRow (R ++ [r]) = R.flatMap Dr.l ++ r.l := by simp [drRow]
  refine ⟨(cell_of_block hb 0).trans rfl, by simp [World.frozen?, hb], h.lo, ?_, own_keep (by rw [e1, e2]; exact ho) fun k hk => setCell_far9 w' _ _ k fun e => ?_, by rw [e1]; omega⟩
  · have := setCell_block9 hb 0 v'
    rw [this]; rfl
  · have e2 : tb = k := e
    exact own_ne_bl ho hb (by decide) (hk.trans (congrArg some e2.symm))
section
variable {w : World} {B tb : Nat} {rv : Value} {R : List Dr} {T : Int}
set_option maxHeartbeats 16000000 in
set_option maxRecDepth 100000 in
theorem dask_new (h : DAt w B tb rv R T) (hT : 0 ≤ T ∧ T ≤ 1000000) (hl : R.length ≤ 1000) (hB : B ≤ w.heap.size) (x m : Int) (n : Nm) (h1 : 1 ≤ m) (h6 : m ≤ 6) (hx : ¬ ∃ r ∈ R, r.x = x ∧ r.w ≠ 0) (hidx : idxD (holdP x n) R = -1) :
    Calls Tryz.prog 9 #[.pointer (some ⟨tb, 0, none⟩), .int .i64 x, .agg #[.int .i64 n.s, .string n.i], .int .i64 m] w fun e w' => NewPost R x n m T B tb rv w e w' := by
  obtain ⟨a, c, rfl, ha⟩ := h.form
  have HOLD : Hid (∀ k, (Value.slice a R.length c).ownBlock = some k → k < w.heap.size) := Lib.hid fun k hk => (h.own.lt k hk).2
  have HG : Hid (Gr w (w.alloc (.cells #[.int .i64 n.s, .string n.i] 31))) := Lib.hid ((Gr.refl w).alloc _)
  have hn0 := heap_alloc_new w (.cells #[.int .i64 n.s, .string n.i] 31)
  have hD1 := h.below HG.out.below
  have HW := Lib.hid (dwait_any hD1 x)
  have HX := Lib.hid hx
  have e1 : decide (m < 1) = false := by simp; omega
  have e2 : decide (m > 6) = false := by simp; omega
  obtain ⟨t1, tf1, tf0⟩ := hD1.tk
  have c0 := hD1.hd
  have hD2 := hD1.tick (T + 1)
  have HD2 := Lib.hid hD2
  have HN2 := Lib.hid ((setCell_far9 _ ⟨tb, 1, none⟩ (.int .i64 (T + 1)) w.heap.size (by have := (Array.getElem?_eq_some_iff.1 h.at_).1; show tb ≠ _; omega)).trans hn0)
  have hwr : IntKind.i64.wrap (T + 1) = T + 1 := IntWalk.i64_in _ (by omega)
  have HM2 : Hid (Moved (OD tb (.slice a R.length c)) w ((w.alloc (.cells #[.int .i64 n.s, .string n.i] 31)).setCell ⟨tb, 1, none⟩ (.int .i64 (T + 1)))) := Lib.hid ((Moved.of_below HG.out.below).setCell (p := ⟨tb, 1, none⟩) (.inl (.inl rfl)) _)
  have HHo := Lib.hid (dhold_any hD2 x n)
  rw [hidx] at HHo
  have HLR := Lib.hid hl
  have HBB := Lib.hid hB
  have n0 : ((w.alloc (.cells #[.int .i64 n.s, .string n.i] 31)).setCell ⟨tb, 1, none⟩ (.int .i64 (T + 1))).cell? ⟨w.heap.size, 0, none⟩ = some (.int .i64 n.s) := (cell_of_block HN2.out 0).trans rfl
  have n1 : ((w.alloc (.cells #[.int .i64 n.s, .string n.i] 31)).setCell ⟨tb, 1, none⟩ (.int .i64 (T + 1))).cell? ⟨w.heap.size, 1, none⟩ = some (.string n.i) := (cell_of_block HN2.out 1).trans rfl
  clear h hx hD1 hD2 hn0 ha hidx hl hB
  go_enter Tryz.func9, Tryz.ntmps9
  go_wp2_with fail
  with_reducible refine HW.out.mono ?_
  rintro e w1 ⟨b, rfl, hb, rfl⟩
  have hbt : b = false := by
    cases b with
    | false => rfl
    | true => exact absurd (hb.1 rfl) HX.out
  subst hbt
  clear hb HX HW
  go_wp2_with fail
  generalize (w.alloc (.cells #[.int .i64 n.s, .string n.i] 31)).setCell ⟨tb, 1, none⟩ (.int .i64 (T + 1)) = W2 at *
  clear t1 tf1 tf0 c0 n0 n1
  with_reducible refine HHo.out.mono ?_
  rintro e W3 ⟨rfl, hg3⟩
  have HD3 := Lib.hid (HD2.out.below hg3.below)
  have HM3 := Lib.hid (HM2.out.below hg3.below)
  have hnx := (hg3.below.block _ (Array.getElem?_eq_some_iff.1 HN2.out).1).trans HN2.out
  have HN3 := Lib.hid hnx
  have n0 : W3.cell? ⟨w.heap.size, 0, none⟩ = some (.int .i64 n.s) := (cell_of_block hnx 0).trans rfl
  have n1 : W3.cell? ⟨w.heap.size, 1, none⟩ = some (.string n.i) := (cell_of_block hnx 1).trans rfl
  have t3 := HD3.out.tk.1
  clear hg3 HHo HD2 HN2 HM2 hnx
  go_upto_region 15 with fail
  go_region_held3 (fun W => W.cell? ⟨w.heap.size, 0, none⟩ = some (.int .i64 n.s) ∧ W.cell? ⟨w.heap.size, 1, none⟩ = some (.string n.i) ∧ W.cell? ⟨tb, 1, none⟩ = some (.int .i64 (T + 1))) (first | exact ⟨n0, n1, t3⟩ | go_keep) (fail)
  have HD4 := Lib.hid (HD3.out.below ((Below.refl W3.heap.size W3).alloc (Nat.le_refl _) (.cells #[.int .i64 n.s, .string n.i, .int .i64 x, .int .i64 0, .int .i64 0, .int .i64 (T + 1)] 69)).drew)
  have HM4 := Lib.hid (HM3.out.below ((Below.refl W3.heap.size W3).alloc (Nat.le_refl _) (.cells #[.int .i64 n.s, .string n.i, .int .i64 x, .int .i64 0, .int .i64 0, .int .i64 (T + 1)] 69)).drew)
  have HN4 : Hid ((W3.alloc (.cells #[.int .i64 n.s, .string n.i, .int .i64 x, .int .i64 0, .int .i64 0, .int .i64 (T + 1)] 69)).drew.heap[w.heap.size]? = some (.cells #[.int .i64 n.s, .string n.i] 31)) := Lib.hid ((((Below.refl W3.heap.size W3).alloc (Nat.le_refl _) _).drew.block _ (Array.getElem?_eq_some_iff.1 HN3.out).1).trans HN3.out)
  have HX4 : Hid ((W3.alloc (.cells #[.int .i64 n.s, .string n.i, .int .i64 x, .int .i64 0, .int .i64 0, .int .i64 (T + 1)] 69)).drew.heap[W3.heap.size]? = some (.cells #[.int .i64 n.s, .string n.i, .int .i64 x, .int .i64 0, .int .i64 0, .int .i64 (T + 1)] 69)) := Lib.hid (heap_alloc_new W3 _)
  have HCz : Hid (w.heap.size ≤ W3.heap.size) := Lib.hid HM3.out.size
  generalize (W3.alloc (.cells #[.int .i64 n.s, .string n.i, .int .i64 x, .int .i64 0, .int .i64 0, .int .i64 (T + 1)] 69)).drew = W4 at *
  generalize W3.heap.size = C at *
  clear n0 n1 t3 HD3 HM3 HN3
  have n0 : W4.cell? ⟨w.heap.size, 0, none⟩ = some (.int .i64 n.s) := (cell_of_block HN4.out 0).trans rfl
  have n1 : W4.cell? ⟨w.heap.size, 1, none⟩ = some (.string n.i) := (cell_of_block HN4.out 1).trans rfl
  have HFi := Lib.hid (dfirst_any HD4.out n)
  go_upto_region 16 with fail
  go_cut [13] (fun s13 wc => ∃ b, s13 = .bool b ∧ (b = true ↔ newC R x n m) ∧ Gr W4 wc)
  case first =>
    go_wp2_with fail
    with_reducible refine HFi.out.mono ?_
    rintro e W5 ⟨k, rfl, hbest, hg5⟩
    have HG5 := Lib.hid hg5
    clear n0 n1
    rcases hbest with ⟨rfl, hno⟩ | ⟨b, hb, -, rfl, hwish, hmin⟩
    · have hn5 := (hg5.below.block _ (Array.getElem?_eq_some_iff.1 HN4.out).1).trans HN4.out
      have n0 : W5.cell? ⟨w.heap.size, 0, none⟩ = some (.int .i64 n.s) := (cell_of_block hn5 0).trans rfl
      have n1 : W5.cell? ⟨w.heap.size, 1, none⟩ = some (.string n.i) := (cell_of_block hn5 1).trans rfl
      have HWn := Lib.hid (dwant_any (HD4.out.below hg5.below) n)
      have HNo : Hid (∀ r ∈ R, ¬ wishP n r) := Lib.hid fun r hr => by
        obtain ⟨j, hj, rfl⟩ := List.mem_iff_getElem.1 hr
        exact hno j hj hj
      have HN5 := Lib.hid hn5
      clear hg5 hno hn5
      go_wp2_with fail
      with_reducible refine HWn.out.mono ?_
      rintro e W6 ⟨q, rfl, hq, hg6⟩
      have HQ := Lib.hid hq
      have HG6 := Lib.hid (HG5.out.trans hg6)
      have hn6 := (hg6.below.block _ (Array.getElem?_eq_some_iff.1 HN5.out).1).trans HN5.out
      clear n0 n1 hq hg6
      cases q with
      | true =>
        clear hn6
        go_wp2_with fail
        go_meet
        exact ⟨false, rfl, ⟨fun h => (by cases h), fun h => absurd (HQ.out.1 (by simp)) h.2.1⟩, HG6.out⟩
      | false =>
        have n0 : W6.cell? ⟨w.heap.size, 0, none⟩ = some (.int .i64 n.s) := (cell_of_block hn6 0).trans rfl
        have n1 : W6.cell? ⟨w.heap.size, 1, none⟩ = some (.string n.i) := (cell_of_block hn6 1).trans rfl
        have HFr := Lib.hid (dfree_any (HD4.out.below HG6.out.below) x n m)
        clear hn6
        go_wp2_with fail
        with_reducible refine HFr.out.mono ?_
        rintro e W7 ⟨q2, rfl, hq2, hg7⟩
        have HQ2 := Lib.hid hq2
        have HG7 := Lib.hid (HG6.out.trans hg7)
        clear hq2 hg7 n0 n1
        go_wp2_with fail
        go_meet
        exact ⟨q2, rfl, ⟨fun h => ⟨HNo.out, fun h2 => (by have := HQ.out.2 h2; simp at this), HQ2.out.1 h⟩, fun h => HQ2.out.2 h.2.2⟩, HG7.out⟩
    · have HNo : Hid (¬ newC R x n m) := Lib.hid fun h => h.1 _ (List.getElem_mem hb) hwish
      have hbn : decide ((b : Int) < 0) = false := by first | (simp; done) | (simp; omega)
      clear hwish hmin hg5
      go_wp2_with fail
      go_meet
      exact ⟨false, rfl, ⟨fun h => (by cases h), fun h => absurd h HNo.out⟩, HG5.out⟩
  case rest =>
    obtain ⟨b, rfl, hb, hg6⟩ := hcut
    obtain ⟨W6, rfl⟩ : ∃ W6 : World, W6 = wc := ⟨_, rfl⟩
    have HD6 := Lib.hid (HD4.out.below hg6.below)
    have HM6 := Lib.hid (HM4.out.below hg6.below)
    have hx6 := (hg6.below.block _ (Array.getElem?_eq_some_iff.1 HX4.out).1).trans HX4.out
    have HX6 := Lib.hid hx6
    clear hg6 HD4 HM4 HN4 HX4 HFi n0 n1
    have HLen : Hid (R.length ≤ 1000) := HLR
    cases b with
    | true =>
      have HC : Hid (newC R x n m) := Lib.hid (hb.1 rfl)
      have cx := (cell_of_block hx6 3).trans rfl
      have fx : W6.frozen? ⟨C, 3, none⟩ = false := by simp [World.frozen?, hx6]
      have hAx : (W6.setCell ⟨C, 3, none⟩ (.int .i64 m)).heap[C]? = some (.cells #[.int .i64 n.s, .string n.i, .int .i64 x, .int .i64 m, .int .i64 0, .int .i64 (T + 1)] 69) := (setCell_block9 hx6 3 (.int .i64 m)).trans rfl
      have hfar := fun k (hk : C ≠ k) => setCell_far9 W6 ⟨C, 3, none⟩ (.int .i64 m) k hk
      have hCt : C ≠ tb := heap_ne_ty hx6 HD6.out.at_ (by decide)
      have hCo : ∀ k, (Value.slice a R.length c).ownBlock = some k → C ≠ k := fun k hk e => by
        have := HOLD.out k hk
        have := HCz.out
        omega
      have hAD : DAt (W6.setCell ⟨C, 3, none⟩ (.int .i64 m)) B tb (.slice a R.length c) R (T + 1) := ⟨HD6.out.lo, (hfar tb hCt).trans HD6.out.at_, own_keep HD6.out.own fun g hg => hfar g (hCo g hg), HD6.out.len⟩
      have HAM := Lib.hid (HM6.out.setCell (p := ⟨C, 3, none⟩) (.inr HCz.out) (.int .i64 m))
      have HAx := Lib.hid hAx
      have HAD := Lib.hid hAD
      clear hfar hCt hCo hAx hAD hx6 hb
      go_upto_region 20 with fail
      generalize W6.setCell ⟨C, 3, none⟩ (.int .i64 m) = A at *
      clear cx fx
      have hb1 : Below A.heap.size A (A.alloc (.cells #[.int .i64 n.s, .string n.i, .int .i64 x, .int .i64 m, .int .i64 0, .int .i64 (T + 1)] 69)).drew := ((Below.refl _ _).alloc (Nat.le_refl _) _).drew
      have HD1 := Lib.hid (HAD.out.below hb1)
      have HM1 := Lib.hid (HAM.out.below hb1)
      have hx1 := (hb1.block _ (Array.getElem?_eq_some_iff.1 HAx.out).1).trans HAx.out
      have hown : (A.alloc (.cells #[.int .i64 n.s, .string n.i, .int .i64 x, .int .i64 m, .int .i64 0, .int .i64 (T + 1)] 69)).drew.ownsRow B 69 6 (.slice a R.length c) R.length (R.flatMap Dr.l) := HD1.out.own
      have hnew : (A.alloc (.cells #[.int .i64 n.s, .string n.i, .int .i64 x, .int .i64 m, .int .i64 0, .int .i64 (T + 1)] 69)).drew.heap[A.heap.size]? = some (.cells #[.int .i64 n.s, .string n.i, .int .i64 x, .int .i64 m, .int .i64 0, .int .i64 (T + 1)] 69) := heap_alloc_new A _
      obtain ⟨i0, hi, hz0, hza, hzb⟩ := info_parts infoDr
      have hone : ∀ u ∈ (#[.int .i64 n.s, .string n.i, .int .i64 x, .int .i64 m, .int .i64 0, .int .i64 (T + 1)] : Array Value).toList, u.oneCell' = true := drl_one (⟨n, x, m, 0, T + 1⟩ : Dr)
      have hz1 : B ≤ (A.alloc (.cells #[.int .i64 n.s, .string n.i, .int .i64 x, .int .i64 m, .int .i64 0, .int .i64 (T + 1)] 69)).drew.heap.size := by have := HM1.out.size; have := HBB.out; omega
      have hRl : R.length ≤ 1000 := HLR.out
      have hs1 : (A.alloc (.cells #[.int .i64 n.s, .string n.i, .int .i64 x, .int .i64 m, .int .i64 0, .int .i64 (T + 1)] 69)).drew.heap.size = A.heap.size + 1 := World.size_alloc _ _
      have sa : ∀ W : World, W.heap[C]? = some (.cells #[.int .i64 n.s, .string n.i, .int .i64 x, .int .i64 m, .int .i64 0, .int .i64 (T + 1)] 69) → W.cell? ⟨C, 0, none⟩ = some (.int .i64 n.s) ∧ W.cell? ⟨C, 1, none⟩ = some (.string n.i) ∧ W.cell? ⟨C, 2, none⟩ = some (.int .i64 x) ∧ W.cell? ⟨C, 3, none⟩ = some (.int .i64 m) ∧ W.cell? ⟨C, 4, none⟩ = some (.int .i64 0) ∧ W.cell? ⟨C, 5, none⟩ = some (.int .i64 (T + 1)) := fun W h => ⟨(cell_of_block h 0).trans rfl, (cell_of_block h 1).trans rfl, (cell_of_block h 2).trans rfl, (cell_of_block h 3).trans rfl, (cell_of_block h 4).trans rfl, (cell_of_block h 5).trans rfl⟩
      have HSA : Hid (A.cell? ⟨C, 0, none⟩ = some (.int .i64 n.s) ∧ A.cell? ⟨C, 1, none⟩ = some (.string n.i) ∧ A.cell? ⟨C, 2, none⟩ = some (.int .i64 x) ∧ A.cell? ⟨C, 3, none⟩ = some (.int .i64 m) ∧ A.cell? ⟨C, 4, none⟩ = some (.int .i64 0) ∧ A.cell? ⟨C, 5, none⟩ = some (.int .i64 (T + 1))) := Lib.hid (sa A HAx.out)
      have HSB : Hid (A.drew.cell? ⟨C, 0, none⟩ = some (.int .i64 n.s) ∧ A.drew.cell? ⟨C, 1, none⟩ = some (.string n.i) ∧ A.drew.cell? ⟨C, 2, none⟩ = some (.int .i64 x) ∧ A.drew.cell? ⟨C, 3, none⟩ = some (.int .i64 m) ∧ A.drew.cell? ⟨C, 4, none⟩ = some (.int .i64 0) ∧ A.drew.cell? ⟨C, 5, none⟩ = some (.int .i64 (T + 1))) := Lib.hid (sa A.drew HAx.out)
      have HSC : Hid ((A.alloc (.cells #[.int .i64 n.s, .string n.i, .int .i64 x, .int .i64 m, .int .i64 0, .int .i64 (T + 1)] 69)).drew.cell? ⟨C, 0, none⟩ = some (.int .i64 n.s) ∧ (A.alloc (.cells #[.int .i64 n.s, .string n.i, .int .i64 x, .int .i64 m, .int .i64 0, .int .i64 (T + 1)] 69)).drew.cell? ⟨C, 1, none⟩ = some (.string n.i) ∧ (A.alloc (.cells #[.int .i64 n.s, .string n.i, .int .i64 x, .int .i64 m, .int .i64 0, .int .i64 (T + 1)] 69)).drew.cell? ⟨C, 2, none⟩ = some (.int .i64 x) ∧ (A.alloc (.cells #[.int .i64 n.s, .string n.i, .int .i64 x, .int .i64 m, .int .i64 0, .int .i64 (T + 1)] 69)).drew.cell? ⟨C, 3, none⟩ = some (.int .i64 m) ∧ (A.alloc (.cells #[.int .i64 n.s, .string n.i, .int .i64 x, .int .i64 m, .int .i64 0, .int .i64 (T + 1)] 69)).drew.cell? ⟨C, 4, none⟩ = some (.int .i64 0) ∧ (A.alloc (.cells #[.int .i64 n.s, .string n.i, .int .i64 x, .int .i64 m, .int .i64 0, .int .i64 (T + 1)] 69)).drew.cell? ⟨C, 5, none⟩ = some (.int .i64 (T + 1))) := Lib.hid (sa _ hx1)
      have HLaw : Hid (∀ (g cap : Nat) (w7 : World), w7.ownsRow B 69 6 (.slice (some ⟨g, 0, none⟩) (R.length + 1) cap) (R.length + 1) (R.flatMap Dr.l ++ (#[.int .i64 n.s, .string n.i, .int .i64 x, .int .i64 m, .int .i64 0, .int .i64 (T + 1)] : Array Value).toList) → (A.alloc (.cells #[.int .i64 n.s, .string n.i, .int .i64 x, .int .i64 m, .int .i64 0, .int .i64 (T + 1)] 69)).drew.grownBy w7 (Value.slice a R.length c).ownBlock → (w7.cell? ⟨tb, 0, none⟩ = some (.slice a R.length c) ∧ w7.frozen? ⟨tb, 0, none⟩ = false) ∧ (w7.cell? ⟨C, 0, none⟩ = some (.int .i64 n.s) ∧ w7.cell? ⟨C, 1, none⟩ = some (.string n.i) ∧ w7.cell? ⟨C, 2, none⟩ = some (.int .i64 x) ∧ w7.cell? ⟨C, 3, none⟩ = some (.int .i64 m) ∧ w7.cell? ⟨C, 4, none⟩ = some (.int .i64 0) ∧ w7.cell? ⟨C, 5, none⟩ = some (.int .i64 (T + 1))) ∧ ((w7.setCell ⟨tb, 0, none⟩ (.slice (some ⟨g, 0, none⟩) (R.length + 1) cap)).cell? ⟨C, 0, none⟩ = some (.int .i64 n.s) ∧ (w7.setCell ⟨tb, 0, none⟩ (.slice (some ⟨g, 0, none⟩) (R.length + 1) cap)).cell? ⟨C, 1, none⟩ = some (.string n.i) ∧ (w7.setCell ⟨tb, 0, none⟩ (.slice (some ⟨g, 0, none⟩) (R.length + 1) cap)).cell? ⟨C, 2, none⟩ = some (.int .i64 x) ∧ (w7.setCell ⟨tb, 0, none⟩ (.slice (some ⟨g, 0, none⟩) (R.length + 1) cap)).cell? ⟨C, 3, none⟩ = some (.int .i64 m) ∧ (w7.setCell ⟨tb, 0, none⟩ (.slice (some ⟨g, 0, none⟩) (R.length + 1) cap)).cell? ⟨C, 4, none⟩ = some (.int .i64 0) ∧ (w7.setCell ⟨tb, 0, none⟩ (.slice (some ⟨g, 0, none⟩) (R.length + 1) cap)).cell? ⟨C, 5, none⟩ = some (.int .i64 (T + 1))) ∧ DAt (w7.setCell ⟨tb, 0, none⟩ (.slice (some ⟨g, 0, none⟩) (R.length + 1) cap)) B tb (.slice (some ⟨g, 0, none⟩) (R.length + 1) cap) (R ++ [(⟨n, x, m, 0, T + 1⟩ : Dr)]) (T + 1)) := Lib.hid fun g cap w7 ho hg => by
        obtain ⟨q1, q2, q3⟩ := lay_grown HD1.out hg (⟨n, x, m, 0, T + 1⟩ : Dr) ho HLR.out
        have hC7 := (hg.block C (Array.getElem?_eq_some_iff.1 hx1).1 fun e => by
          have := HOLD.out C e.symm
          have := HCz.out
          omega).trans hx1
        have hC8 := (setCell_far9 w7 ⟨tb, 0, none⟩ (.slice (some ⟨g, 0, none⟩) (R.length + 1) cap) C (heap_ne_ty HD1.out.at_ hx1 (by decide))).trans hC7
        exact ⟨⟨q1, q2⟩, sa _ hC7, sa _ hC8, q3⟩
      have t1 : A.cell? ⟨tb, 0, none⟩ = some (.slice a R.length c) := HAD.out.hd
      have t2 : A.drew.cell? ⟨tb, 0, none⟩ = some (.slice a R.length c) := t1
      have t3 : (A.alloc (.cells #[.int .i64 n.s, .string n.i, .int .i64 x, .int .i64 m, .int .i64 0, .int .i64 (T + 1)] 69)).drew.cell? ⟨tb, 0, none⟩ = some (.slice a R.length c) := HD1.out.hd
      clear hb1 hx1 sa
      obtain ⟨ka0, ka1, ka2, ka3, ka4, ka5⟩ := HSA.out
      obtain ⟨kb0, kb1, kb2, kb3, kb4, kb5⟩ := HSB.out
      obtain ⟨kc0, kc1, kc2, kc3, kc4, kc5⟩ := HSC.out
      first | (go_region_law (first
        | (refine step_append_lies _ (by rfl) _ _ _ (by rfl) B 69 i0 _ 6 56 Tryz.underlying27 hi hz0 hza hzb rfl (by omega) _ R.length _ (by rfl) hown ⟨A.heap.size, 0, none⟩ 1 1 (#[.int .i64 n.s, .string n.i, .int .i64 x, .int .i64 m, .int .i64 0, .int .i64 (T + 1)] : Array Value).toList (by rfl) (by rfl) (World.news_of_block hnew) hone (by omega) (by simp only [maxLen]; omega) (by omega) hz1 (A.heap.size + 1) hs1 ?_; intro gg capg w7 hown7 hgrow hat hltg; have HL7 := Lib.hid (HLaw.out gg capg w7 hown7 hgrow); have HGr := Lib.hid hgrow; have HAt := Lib.hid hat; have hc7 := HL7.out.1.1; have ff7 := HL7.out.1.2; clear hown7 hgrow hat hltg))) | fail
      all_goals
        go_wp2_with fail
        go_ret2
        unfold NewPost
        refine ⟨true, R ++ [(⟨n, x, m, 0, T + 1⟩ : Dr)], _, rfl, .inl ⟨rfl, HC.out, rfl⟩, HL7.out.2.2.2, (HM1.out.grown HGr.out fun k hk => .inl (.inr hk)).setCell (p := ⟨tb, 0, none⟩) (.inl (.inl rfl)) _, fun k hk => ?_⟩
        rcases hk with e | e
        · exact .inl (.inl e)
        · simp only [Value.ownBlock, Option.some.injEq] at e
          subst e
          rcases HAt.out with h | h
          · exact .inl (.inr h)
          · right
            have := HM1.out.size
            omega
    | false =>
      have HC : Hid (¬ newC R x n m) := Lib.hid (fun h => by have := hb.2 h; cases this)
      have cx := (cell_of_block hx6 4).trans rfl
      have fx : W6.frozen? ⟨C, 4, none⟩ = false := by simp [World.frozen?, hx6]
      have hAx : (W6.setCell ⟨C, 4, none⟩ (.int .i64 m)).heap[C]? = some (.cells #[.int .i64 n.s, .string n.i, .int .i64 x, .int .i64 0, .int .i64 m, .int .i64 (T + 1)] 69) := (setCell_block9 hx6 4 (.int .i64 m)).trans rfl
      have hfar := fun k (hk : C ≠ k) => setCell_far9 W6 ⟨C, 4, none⟩ (.int .i64 m) k hk
      have hCt : C ≠ tb := heap_ne_ty hx6 HD6.out.at_ (by decide)
      have hCo : ∀ k, (Value.slice a R.length c).ownBlock = some k → C ≠ k := fun k hk e => by
        have := HOLD.out k hk
        have := HCz.out
        omega
      have hAD : DAt (W6.setCell ⟨C, 4, none⟩ (.int .i64 m)) B tb (.slice a R.length c) R (T + 1) := ⟨HD6.out.lo, (hfar tb hCt).trans HD6.out.at_, own_keep HD6.out.own fun g hg => hfar g (hCo g hg), HD6.out.len⟩
      have HAM := Lib.hid (HM6.out.setCell (p := ⟨C, 4, none⟩) (.inr HCz.out) (.int .i64 m))
      have HAx := Lib.hid hAx
      have HAD := Lib.hid hAD
      clear hfar hCt hCo hAx hAD hx6 hb
      go_upto_region 20 with fail
      generalize W6.setCell ⟨C, 4, none⟩ (.int .i64 m) = A at *
      clear cx fx
      have hb1 : Below A.heap.size A (A.alloc (.cells #[.int .i64 n.s, .string n.i, .int .i64 x, .int .i64 0, .int .i64 m, .int .i64 (T + 1)] 69)).drew := ((Below.refl _ _).alloc (Nat.le_refl _) _).drew
      have HD1 := Lib.hid (HAD.out.below hb1)
      have HM1 := Lib.hid (HAM.out.below hb1)
      have hx1 := (hb1.block _ (Array.getElem?_eq_some_iff.1 HAx.out).1).trans HAx.out
      have hown : (A.alloc (.cells #[.int .i64 n.s, .string n.i, .int .i64 x, .int .i64 0, .int .i64 m, .int .i64 (T + 1)] 69)).drew.ownsRow B 69 6 (.slice a R.length c) R.length (R.flatMap Dr.l) := HD1.out.own
      have hnew : (A.alloc (.cells #[.int .i64 n.s, .string n.i, .int .i64 x, .int .i64 0, .int .i64 m, .int .i64 (T + 1)] 69)).drew.heap[A.heap.size]? = some (.cells #[.int .i64 n.s, .string n.i, .int .i64 x, .int .i64 0, .int .i64 m, .int .i64 (T + 1)] 69) := heap_alloc_new A _
      obtain ⟨i0, hi, hz0, hza, hzb⟩ := info_parts infoDr
      have hone : ∀ u ∈ (#[.int .i64 n.s, .string n.i, .int .i64 x, .int .i64 0, .int .i64 m, .int .i64 (T + 1)] : Array Value).toList, u.oneCell' = true := drl_one (⟨n, x, 0, m, T + 1⟩ : Dr)
      have hz1 : B ≤ (A.alloc (.cells #[.int .i64 n.s, .string n.i, .int .i64 x, .int .i64 0, .int .i64 m, .int .i64 (T + 1)] 69)).drew.heap.size := by have := HM1.out.size; have := HBB.out; omega
      have hRl : R.length ≤ 1000 := HLR.out
      have hs1 : (A.alloc (.cells #[.int .i64 n.s, .string n.i, .int .i64 x, .int .i64 0, .int .i64 m, .int .i64 (T + 1)] 69)).drew.heap.size = A.heap.size + 1 := World.size_alloc _ _
      have sa : ∀ W : World, W.heap[C]? = some (.cells #[.int .i64 n.s, .string n.i, .int .i64 x, .int .i64 0, .int .i64 m, .int .i64 (T + 1)] 69) → W.cell? ⟨C, 0, none⟩ = some (.int .i64 n.s) ∧ W.cell? ⟨C, 1, none⟩ = some (.string n.i) ∧ W.cell? ⟨C, 2, none⟩ = some (.int .i64 x) ∧ W.cell? ⟨C, 3, none⟩ = some (.int .i64 0) ∧ W.cell? ⟨C, 4, none⟩ = some (.int .i64 m) ∧ W.cell? ⟨C, 5, none⟩ = some (.int .i64 (T + 1)) := fun W h => ⟨(cell_of_block h 0).trans rfl, (cell_of_block h 1).trans rfl, (cell_of_block h 2).trans rfl, (cell_of_block h 3).trans rfl, (cell_of_block h 4).trans rfl, (cell_of_block h 5).trans rfl⟩
      have HSA : Hid (A.cell? ⟨C, 0, none⟩ = some (.int .i64 n.s) ∧ A.cell? ⟨C, 1, none⟩ = some (.string n.i) ∧ A.cell? ⟨C, 2, none⟩ = some (.int .i64 x) ∧ A.cell? ⟨C, 3, none⟩ = some (.int .i64 0) ∧ A.cell? ⟨C, 4, none⟩ = some (.int .i64 m) ∧ A.cell? ⟨C, 5, none⟩ = some (.int .i64 (T + 1))) := Lib.hid (sa A HAx.out)
      have HSB : Hid (A.drew.cell? ⟨C, 0, none⟩ = some (.int .i64 n.s) ∧ A.drew.cell? ⟨C, 1, none⟩ = some (.string n.i) ∧ A.drew.cell? ⟨C, 2, none⟩ = some (.int .i64 x) ∧ A.drew.cell? ⟨C, 3, none⟩ = some (.int .i64 0) ∧ A.drew.cell? ⟨C, 4, none⟩ = some (.int .i64 m) ∧ A.drew.cell? ⟨C, 5, none⟩ = some (.int .i64 (T + 1))) := Lib.hid (sa A.drew HAx.out)
      have HSC : Hid ((A.alloc (.cells #[.int .i64 n.s, .string n.i, .int .i64 x, .int .i64 0, .int .i64 m, .int .i64 (T + 1)] 69)).drew.cell? ⟨C, 0, none⟩ = some (.int .i64 n.s) ∧ (A.alloc (.cells #[.int .i64 n.s, .string n.i, .int .i64 x, .int .i64 0, .int .i64 m, .int .i64 (T + 1)] 69)).drew.cell? ⟨C, 1, none⟩ = some (.string n.i) ∧ (A.alloc (.cells #[.int .i64 n.s, .string n.i, .int .i64 x, .int .i64 0, .int .i64 m, .int .i64 (T + 1)] 69)).drew.cell? ⟨C, 2, none⟩ = some (.int .i64 x) ∧ (A.alloc (.cells #[.int .i64 n.s, .string n.i, .int .i64 x, .int .i64 0, .int .i64 m, .int .i64 (T + 1)] 69)).drew.cell? ⟨C, 3, none⟩ = some (.int .i64 0) ∧ (A.alloc (.cells #[.int .i64 n.s, .string n.i, .int .i64 x, .int .i64 0, .int .i64 m, .int .i64 (T + 1)] 69)).drew.cell? ⟨C, 4, none⟩ = some (.int .i64 m) ∧ (A.alloc (.cells #[.int .i64 n.s, .string n.i, .int .i64 x, .int .i64 0, .int .i64 m, .int .i64 (T + 1)] 69)).drew.cell? ⟨C, 5, none⟩ = some (.int .i64 (T + 1))) := Lib.hid (sa _ hx1)
      have HLaw : Hid (∀ (g cap : Nat) (w7 : World), w7.ownsRow B 69 6 (.slice (some ⟨g, 0, none⟩) (R.length + 1) cap) (R.length + 1) (R.flatMap Dr.l ++ (#[.int .i64 n.s, .string n.i, .int .i64 x, .int .i64 0, .int .i64 m, .int .i64 (T + 1)] : Array Value).toList) → (A.alloc (.cells #[.int .i64 n.s, .string n.i, .int .i64 x, .int .i64 0, .int .i64 m, .int .i64 (T + 1)] 69)).drew.grownBy w7 (Value.slice a R.length c).ownBlock → (w7.cell? ⟨tb, 0, none⟩ = some (.slice a R.length c) ∧ w7.frozen? ⟨tb, 0, none⟩ = false) ∧ (w7.cell? ⟨C, 0, none⟩ = some (.int .i64 n.s) ∧ w7.cell? ⟨C, 1, none⟩ = some (.string n.i) ∧ w7.cell? ⟨C, 2, none⟩ = some (.int .i64 x) ∧ w7.cell? ⟨C, 3, none⟩ = some (.int .i64 0) ∧ w7.cell? ⟨C, 4, none⟩ = some (.int .i64 m) ∧ w7.cell? ⟨C, 5, none⟩ = some (.int .i64 (T + 1))) ∧ ((w7.setCell ⟨tb, 0, none⟩ (.slice (some ⟨g, 0, none⟩) (R.length + 1) cap)).cell? ⟨C, 0, none⟩ = some (.int .i64 n.s) ∧ (w7.setCell ⟨tb, 0, none⟩ (.slice (some ⟨g, 0, none⟩) (R.length + 1) cap)).cell? ⟨C, 1, none⟩ = some (.string n.i) ∧ (w7.setCell ⟨tb, 0, none⟩ (.slice (some ⟨g, 0, none⟩) (R.length + 1) cap)).cell? ⟨C, 2, none⟩ = some (.int .i64 x) ∧ (w7.setCell ⟨tb, 0, none⟩ (.slice (some ⟨g, 0, none⟩) (R.length + 1) cap)).cell? ⟨C, 3, none⟩ = some (.int .i64 0) ∧ (w7.setCell ⟨tb, 0, none⟩ (.slice (some ⟨g, 0, none⟩) (R.length + 1) cap)).cell? ⟨C, 4, none⟩ = some (.int .i64 m) ∧ (w7.setCell ⟨tb, 0, none⟩ (.slice (some ⟨g, 0, none⟩) (R.length + 1) cap)).cell? ⟨C, 5, none⟩ = some (.int .i64 (T + 1))) ∧ DAt (w7.setCell ⟨tb, 0, none⟩ (.slice (some ⟨g, 0, none⟩) (R.length + 1) cap)) B tb (.slice (some ⟨g, 0, none⟩) (R.length + 1) cap) (R ++ [(⟨n, x, 0, m, T + 1⟩ : Dr)]) (T + 1)) := Lib.hid fun g cap w7 ho hg => by
        obtain ⟨q1, q2, q3⟩ := lay_grown HD1.out hg (⟨n, x, 0, m, T + 1⟩ : Dr) ho HLR.out
        have hC7 := (hg.block C (Array.getElem?_eq_some_iff.1 hx1).1 fun e => by
          have := HOLD.out C e.symm
          have := HCz.out
          omega).trans hx1
        have hC8 := (setCell_far9 w7 ⟨tb, 0, none⟩ (.slice (some ⟨g, 0, none⟩) (R.length + 1) cap) C (heap_ne_ty HD1.out.at_ hx1 (by decide))).trans hC7
        exact ⟨⟨q1, q2⟩, sa _ hC7, sa _ hC8, q3⟩
      have t1 : A.cell? ⟨tb, 0, none⟩ = some (.slice a R.length c) := HAD.out.hd
      have t2 : A.drew.cell? ⟨tb, 0, none⟩ = some (.slice a R.length c) := t1
      have t3 : (A.alloc (.cells #[.int .i64 n.s, .string n.i, .int .i64 x, .int .i64 0, .int .i64 m, .int .i64 (T + 1)] 69)).drew.cell? ⟨tb, 0, none⟩ = some (.slice a R.length c) := HD1.out.hd
      clear hb1 hx1 sa
      obtain ⟨ka0, ka1, ka2, ka3, ka4, ka5⟩ := HSA.out
      obtain ⟨kb0, kb1, kb2, kb3, kb4, kb5⟩ := HSB.out
      obtain ⟨kc0, kc1, kc2, kc3, kc4, kc5⟩ := HSC.out
      first | (go_region_law (first
        | (refine step_append_lies _ (by rfl) _ _ _ (by rfl) B 69 i0 _ 6 56 Tryz.underlying27 hi hz0 hza hzb rfl (by omega) _ R.length _ (by rfl) hown ⟨A.heap.size, 0, none⟩ 1 1 (#[.int .i64 n.s, .string n.i, .int .i64 x, .int .i64 0, .int .i64 m, .int .i64 (T + 1)] : Array Value).toList (by rfl) (by rfl) (World.news_of_block hnew) hone (by omega) (by simp only [maxLen]; omega) (by omega) hz1 (A.heap.size + 1) hs1 ?_; intro gg capg w7 hown7 hgrow hat hltg; have HL7 := Lib.hid (HLaw.out gg capg w7 hown7 hgrow); have HGr := Lib.hid hgrow; have HAt := Lib.hid hat; have hc7 := HL7.out.1.1; have ff7 := HL7.out.1.2; clear hown7 hgrow hat hltg))) | fail
      all_goals
        go_wp2_with fail
        go_ret2
        unfold NewPost
        refine ⟨false, R ++ [(⟨n, x, 0, m, T + 1⟩ : Dr)], _, rfl, .inr ⟨rfl, HC.out, rfl⟩, HL7.out.2.2.2, (HM1.out.grown HGr.out fun k hk => .inl (.inr hk)).setCell (p := ⟨tb, 0, none⟩) (.inl (.inl rfl)) _, fun k hk => ?_⟩
        rcases hk with e | e
        · exact .inl (.inl e)
        · simp only [Value.ownBlock, Option.some.injEq] at e
          subst e
          rcases HAt.out with h | h
          · exact .inl (.inr h)
          · right
            have := HM1.out.size
            omega
end
end Go.Proofs.YtileamjmhhifaaaGreat
