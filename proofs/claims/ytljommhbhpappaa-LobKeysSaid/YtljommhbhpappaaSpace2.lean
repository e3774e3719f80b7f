/-
  Layer 14 (space): the contracts of read, Take, Give, Used.
-/
import Derived.Test.YtljommhbhpappaaSpace1
namespace Go.Proofs.Ytljommhbhpappaa
open Go.RowKit Go.Joins
set_option linter.unusedVariables false
set_option linter.unusedSimpArgs false

theorem cell?_setRow_far (W : World) (n : Nat) (c : Array Value) (a : Addr) (h : n ≠ a.block) : (W.setRow n c).cell? a = W.cell? a := by
  unfold World.cell? World.setRow
  simp only [Array.getElem?_modify, h, if_false]
theorem results_cell_tmp2 {fn : Func} {p u v : Tmp} {ty : TypeId} (h : fn.results = #[.cell p ty, .tmp u, .tmp v]) (tmps : Array Value) (P : Program) (w : World) :
    (results fn tmps).run P w = ((asAddr (tmps.getD p undef)).run P w).andThen fun a w₁ => ((loadVar ty a).run P w₁).andThen fun x w₂ => .ok (.tuple #[x, tmps.getD u undef, tmps.getD v undef]) w₂ := by
  simp only [results, h]
  simp [Sem.run_bind, Result.andThen]
/-- the end of a function that hands back a page and two numbers -/
theorem ret_page2 {fn : Func} {R : Ending → World → Prop} {a : Act} {w : World} {pt u v : Tmp} (h : fn.results = #[.cell pt 112, .tmp u, .tmp v]) (hd : a.defers = []) (n : Nat) (p : Pg) (hp : a.tmps.getD pt undef = .pointer (some ⟨n, 0, none⟩)) (hr : rowAt w n = some p.cs)
    (hR : R (.returned (.tuple #[p.v, a.tmps.getD u undef, a.tmps.getD v undef])) w) : bodyPost Try.prog fn R .ret a w := by
  refine bodyPost_ret ?_ hd hR
  rw [results_cell_tmp2 h, hp]
  have hl := run_loadPage w n (by rw [hr]; rfl)
  rw [hr] at hl
  simp only [asAddr, Sem.run_pure, Result.andThen_ok, hl]
  rfl

/-- a page that is a map -/
structure MapOk (m : Pg) : Prop where
  k : m.k = 2
  n0 : 0 ≤ m.n
  n1 : m.n < 1024
  sz : ∀ i, i < 6 → (m.d i).size = 34

set_option maxHeartbeats 2000000 in
set_option maxRecDepth 100000 in
theorem read_ok (S : Vol) (b mb hb pb : Nat) (m : Pg) (w : World) (hs : StageAt w b mb hb pb S) (h1 : stE S 1 = 0) (h2 : stPg S 1 = m) (hm : MapOk m) :
    Calls Try.prog 76 #[.pointer (some ⟨b, 0, none⟩)] w fun e w' => e = .returned (.tuple #[m.v, .int .i64 (m.n + 1), .int .i64 0]) ∧ Below w.heap.size w w' := by
  obtain ⟨l1, l2, l3, l4⟩ := hs.lt
  have HC := Lib.hid (fun w' h => get_any S b mb hb pb 1 w' h)
  rw [h1, h2] at HC
  have HS := Lib.hid hs
  obtain ⟨k1, k2, k3, k4⟩ := hm
  have HK := Lib.hid k4
  clear hs h1 h2 k4
  go_enter Try.func76, Try.ntmps76
  go_wp2_with fail
  refine (HC.out _ (HS.out.below (B := w.heap.size) ((Below.refl w.heap.size w).alloc (Nat.le_refl _) _) ⟨l1, l2, l3, l4⟩)).mono ?_; rintro e w1 ⟨rfl, hb1⟩
  have hr1 : rowAt w1 w.heap.size = some Pg.zero.cs := (rowAt_below hb1 (by go_size)).trans (by simp [go_sem])
  have hsz := hb1.size
  simp only [World.size_alloc] at hsz
  have hsz' : w.heap.size ≤ w1.heap.size := by omega
  have hb2 := (((Below.refl w.heap.size w).alloc (Nat.le_refl _) (.cells Pg.zero.cs 112)).trans (hb1.mono (by go_size))).alloc hsz' (.cells m.cs 112)
  have HB2 := Lib.hid hb2
  clear hb1 hb2
  go_wp2_with fail
  go_loopw [24] (fun i wr => ∃ k : Nat, k ≤ 6 ∧ i = .int .i64 k ∧ Below (w1.heap.size + 1) (w1.alloc (.cells m.cs 112)) wr) (fun i _ => 6 - (intOf i).toNat)
  case atStart => exact ⟨0, by omega, rfl, (Below.refl _ _)⟩
  case round =>
    obtain ⟨k, hk, rfl, hb⟩ := hrel
    have hz := hb.size
    simp only [World.size_alloc] at hz
    have R0 : rowAt wr w.heap.size = some Pg.zero.cs := (rowAt_below hb (by omega)).trans ((rowAt_past w1 _ _ (by omega)).trans hr1)
    have R1 : rowAt wr w1.heap.size = some m.cs := (rowAt_below hb (by omega)).trans (rowAt_at w1 m.cs _ _ rfl)
    have HB3 := Lib.hid hb
    clear hb
    by_cases hlt : k < 6
    · have hidx := index6 m k hlt
      have hsz2 := HK.out k hlt
      generalize m.a k = a at *
      generalize m.d k = d at *
      go_wp2
      go_roundw
      case rel => exact ⟨k + 1, by omega, by go_num, HB3.out.alloc (by omega) _⟩
      case measure => simp [intOf]; omega
    · have hk6 : k = 6 := by omega
      subst hk6
      have c3 : wr.cell? ⟨w1.heap.size, 3, none⟩ = some (.int .i64 m.n) := (cell_row R1 3).trans rfl
      have c4 : (wr.drew.setRow w.heap.size m.cs).cell? ⟨w1.heap.size, 3, none⟩ = some (.int .i64 m.n) := (cell?_setRow_far _ _ _ _ (by simp; omega)).trans c3
      go_wp2
      go_region
      all_goals
        go_wp2
        refine ret_page2 rfl rfl w.heap.size m rfl (by simp [go_sem, R0]) ⟨rfl, ?_⟩
        exact below_setRow (HB2.out.trans (HB3.out.mono (by omega))).drew _ (Nat.le_refl _)
end Go.Proofs.Ytljommhbhpappaa
