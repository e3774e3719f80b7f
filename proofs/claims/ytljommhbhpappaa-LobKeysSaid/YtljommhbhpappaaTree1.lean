/-
  Layer 16 (tree): open, and a walker's get.
-/
import Derived.Test.YtljommhbhpappaaTreeM
namespace Go.Proofs.Ytljommhbhpappaa
open Go.RowKit Go.Joins
set_option linter.unusedVariables false
set_option linter.unusedSimpArgs false

theorem results_tct16 {fn : Func} {p u v : Tmp} {ty : TypeId} (h : fn.results = #[.tmp u, .cell p ty, .tmp v]) (tmps : Array Value) (P : Program) (w : World) :
    (results fn tmps).run P w = ((asAddr (tmps.getD p undef)).run P w).andThen fun a w₁ => ((loadVar ty a).run P w₁).andThen fun x w₂ => .ok (.tuple #[tmps.getD u undef, x, tmps.getD v undef]) w₂ := by
  simp only [results, h]
  simp [Sem.run_bind, Result.andThen]
/-- the end of a function that hands back a number, a page, a number -/
theorem ret_tpt16 {fn : Func} {R : Ending → World → Prop} {a : Act} {w : World} {pt u v : Tmp} (h : fn.results = #[.tmp u, .cell pt 112, .tmp v]) (hd : a.defers = []) (n : Nat) (p : Pg) (hp : a.tmps.getD pt undef = .pointer (some ⟨n, 0, none⟩)) (hr : rowAt w n = some p.cs)
    (hR : R (.returned (.tuple #[a.tmps.getD u undef, p.v, a.tmps.getD v undef])) w) : bodyPost Try.prog fn R .ret a w := by
  refine bodyPost_ret ?_ hd hR
  rw [results_tct16 h, hp]
  have hl := run_loadPage w n (by rw [hr]; rfl)
  rw [hr] at hl
  simp only [asAddr, Sem.run_pure, Result.andThen_ok, hl]
  rfl

/-- Find on a volume as values -/
theorem find_st {S : Vol} {d m : Pg} {n : Nat} (b mb hb pb : Nat) (w : World) (hs : StageAt w b mb hb pb S) (h : VolOk S d m n) (k : Nat) (hk : k < 6) (ha : d.a k ≠ 0) (kd r : Int) (h0 : 0 ≤ kd) (h1 : kd < 256) (h2 : 0 ≤ r) (h3 : r < 4294967296) (h5 : d.d k = entryD kd r) (st : Int) (hst : st = (k : Int) + 1) (a : Int) (hda : d.a k = a) :
    Calls Try.prog 68 #[.pointer (some ⟨b, 0, none⟩), .int .i64 st] w fun e w' => e = .returned (.tuple #[.int .i64 kd, .int .i64 r, .int .i64 a, .int .i64 0]) ∧ Below w.heap.size w w' := by
  obtain ⟨b0, b1, b2, b3, b4, e1, e2, e3⟩ := five_of kd r h0 h1 h2 h3
  have hc := find_ok S b mb hb pb d w hs h.dir k hk ha b0 b1 b2 b3 b4 (h5.trans e1)
  rw [e2, e3, hda] at hc
  subst hst
  exact hc

/-- a walker in memory -/
def WalkAt (w : World) (wb b : Nat) (st root : Int) (kv : Value) : Prop := w.heap[wb]? = some (.cells #[.pointer (some ⟨b, 0, none⟩), .int .i64 st, .int .i64 root, kv] 159)
theorem WalkAt.below {w w' : World} {wb b : Nat} {st root : Int} {kv : Value} (h : WalkAt w wb b st root kv) (hb : Below w.heap.size w w') : WalkAt w' wb b st root kv := (hb.block wb (Array.getElem?_eq_some_iff.1 h).1).trans h
theorem WalkAt.lt {w : World} {wb b : Nat} {st root : Int} {kv : Value} (h : WalkAt w wb b st root kv) : wb < w.heap.size := (Array.getElem?_eq_some_iff.1 h).1
theorem WalkAt.cells {w : World} {wb b : Nat} {st root : Int} {kv : Value} (h : WalkAt w wb b st root kv) : w.cell? ⟨wb, 0, none⟩ = some (.pointer (some ⟨b, 0, none⟩)) ∧ w.cell? ⟨wb, 1, none⟩ = some (.int .i64 st) ∧ w.cell? ⟨wb, 2, none⟩ = some (.int .i64 root) ∧ w.cell? ⟨wb, 3, none⟩ = some kv :=
  ⟨(cell_of_block h 0).trans rfl, (cell_of_block h 1).trans rfl, (cell_of_block h 2).trans rfl, (cell_of_block h 3).trans rfl⟩

set_option maxHeartbeats 2000000 in
set_option maxRecDepth 100000 in
theorem open_ok (b : Nat) (st : Int) (kp : Option Addr) (kl kc : Nat) (kd r : Int) (hkd : kd = 2 ∨ kd = 3) (w : World)
    (hf : Calls Try.prog 68 #[.pointer (some ⟨b, 0, none⟩), .int .i64 st] w fun e w' => e = .returned (.tuple #[.int .i64 kd, .int .i64 r, .int .i64 1, .int .i64 0]) ∧ Below w.heap.size w w') :
    Calls Try.prog 79 #[.pointer (some ⟨b, 0, none⟩), .int .i64 st, .slice kp kl kc] w fun e w' => ∃ wb, e = .returned (.tuple #[.pointer (some ⟨wb, 0, none⟩), .int .i64 0]) ∧ Below w.heap.size w w' ∧ w.heap.size ≤ wb ∧ WalkAt w' wb b st r (.slice kp kl kc) := by
  have HF := Lib.hid hf
  clear hf
  rcases hkd with rfl | rfl
  all_goals
    go_enter Try.func79, Try.ntmps79
    go_wp2_with fail
    refine HF.out.mono ?_; rintro e w1 ⟨rfl, hb1⟩
    have hz := hb1.size
    have HB := Lib.hid hb1
    clear hb1
    go_wp2_with fail
    go_ret2
    exact ⟨_, rfl, HB.out.alloc hz _, hz, heap_alloc_new _ _⟩

set_option maxHeartbeats 2000000 in
set_option maxRecDepth 100000 in
/-- a node that is one -/
theorem wget_ok (S : Vol) (b mb hb pb : Nat) (wb : Nat) (st root : Int) (kv : Value) (id : Int) (p : Pg) (hp : stPg S id = p) (he : stE S id = 0) (hst : p.s = st)
    (hck : ∀ w', Calls Try.prog 106 #[p.v] w' fun e w2 => e = .returned (.int .i64 0) ∧ Below w'.heap.size w' w2) (w : World) (hs : StageAt w b mb hb pb S) (hw : WalkAt w wb b st root kv) :
    Calls Try.prog 83 #[.pointer (some ⟨wb, 0, none⟩), .int .i64 id] w fun e w' => e = .returned (.tuple #[p.v, .int .i64 0]) ∧ Below w.heap.size w w' := by
  have HG := Lib.hid (fun w' (h : StageAt w' b mb hb pb S) => get_any S b mb hb pb id w' h)
  rw [hp, he] at HG
  have HCk := Lib.hid hck
  have HS := Lib.hid hs
  have HW := Lib.hid hw
  have hlt := hs.lt
  have B0 : Below w.heap.size w (w.alloc (.cells Pg.zero.cs 112)) := (Below.refl _ _).alloc (Nat.le_refl _) _
  have hw0 := hw.below B0
  obtain ⟨c0, c1, -, -⟩ := hw0.cells
  have HW0 := Lib.hid hw0
  have HB0 := Lib.hid B0
  have hwlt := hw.lt
  clear hs hw hck hp he B0 hw0
  go_enter Try.func83, Try.ntmps83
  go_wp2_with fail
  refine (HG.out _ (HS.out.below HB0.out hlt)).mono ?_; rintro e w1 ⟨rfl, hb1⟩
  have hz1 := hb1.size
  simp only [World.size_alloc] at hz1
  have RZ := (rowAt_below hb1 (by simp)).trans (rowAt_at w Pg.zero.cs 112 _ rfl)
  have HW1 := Lib.hid ((HW0.out.below hb1).below ((Below.refl w1.heap.size w1).alloc (Nat.le_refl _) (.cells p.cs 112)))
  have hz1' : w.heap.size ≤ w1.heap.size := by omega
  have HB1 : Hid (Below w.heap.size w w1) := Lib.hid (HB0.out.trans (hb1.mono (by go_size)))
  have R1 := rowAt_at w1 p.cs 112 _ rfl
  have RZ1 := (rowAt_past w1 (.cells p.cs 112) w.heap.size (by omega)).trans RZ
  clear hb1 RZ c0 c1
  go_wp2_with fail
  have Ra : rowAt (w1.alloc (.cells p.cs 112)).drew w1.heap.size = some p.cs := R1
  have Ca : (w1.alloc (.cells p.cs 112)).drew.cell? ⟨w1.heap.size, 2, none⟩ = some (.int .i64 st) := (cell_row R1 2).trans (by rw [← hst]; rfl)
  have Cb : (w1.alloc (.cells p.cs 112)).drew.cell? ⟨wb, 1, none⟩ = some (.int .i64 st) := HW1.out.cells.2.1
  have hsz : (w1.alloc (.cells p.cs 112)).drew.heap.size = w1.heap.size + 1 := World.size_alloc ..
  have hwb : wb < w1.heap.size + 1 := by omega
  clear R1
  go_region_held3 (fun W => rowAt W w1.heap.size = some p.cs ∧ W.cell? ⟨w1.heap.size, 2, none⟩ = some (.int .i64 st) ∧ W.cell? ⟨wb, 1, none⟩ = some (.int .i64 st))
    (first
      | exact ⟨Ra, Ca, Cb⟩
      | exact ⟨R5, (cell_row R5 2).trans (by rw [← hst]; rfl), C5⟩)
    (first
      | ((go_at_call 106; refine (HCk.out _).mono ?_; rintro e w5 ⟨rfl, hb5⟩; have R5 := (rowAt_below hb5 (by rw [hsz]; omega)).trans Ra; have C5 := (hb5.cell (p := ⟨wb, 1, none⟩) (by rw [hsz]; exact hwb)).trans Cb)))
  all_goals
    have RZ5 := (rowAt_below hb5 (by rw [hsz]; omega)).trans RZ1
    have RF := rowAt_setRow _ _ _ p.cs RZ5
    have hz5 := hb5.size
    rw [hsz] at hz5
    have BF : Below w.heap.size w (w5.setRow w.heap.size p.cs) := below_setRow (((HB1.out.alloc hz1' (.cells p.cs 112)).drew).trans (hb5.mono (by rw [hsz]; omega))) _ (by omega)
    have HBF := Lib.hid BF
    clear BF Ra Ca Cb hb5 C5
    go_wp2_with fail
    exact ret_page rfl rfl w.heap.size p rfl RF ⟨rfl, HBF.out⟩
end Go.Proofs.Ytljommhbhpappaa
