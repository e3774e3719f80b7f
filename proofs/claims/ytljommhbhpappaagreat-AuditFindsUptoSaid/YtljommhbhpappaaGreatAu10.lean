/-
  Layer 22 (audit): Check of a stage that is no volume.
-/
import Derived.Test.YtljommhbhpappaaGreatAu9
namespace Go.Proofs.YtljommhbhpappaaGreat
open Go.RowKit Go.Joins
set_option linter.unusedVariables false
set_option linter.unusedSimpArgs false

set_option maxHeartbeats 2000000 in
set_option maxRecDepth 100000 in
theorem getNil22 (id : Int) (w : World) :
    Calls Tryz.prog 13 #[.pointer none, .int .i64 id] w fun e w' => e = .returned (.tuple #[Pg.zero.v, .int .i64 1]) ∧ Below w.heap.size w w' := by
  go_enter Tryz.func13, Tryz.ntmps13
  go_wp2_with fail
  exact ret_page rfl rfl w.heap.size Pg.zero rfl (by simp [go_sem]) ⟨rfl, (Below.refl _ _).alloc (Nat.le_refl _) _⟩

/-- a stage that has no map -/
def NoMap (v : Value) (w : World) : Prop := ∃ p : Pg, ∃ er : Int, (er = 1 ∨ (er = 0 ∧ ¬ p.k = 2)) ∧ ∀ w', Below w.heap.size w w' → Calls Tryz.prog 13 #[v, .int .i64 1] w' fun e w2 => e = .returned (.tuple #[p.v, .int .i64 er]) ∧ Below w'.heap.size w' w2

set_option maxHeartbeats 4000000 in
set_option maxRecDepth 100000 in
theorem read_bad22 (v : Value) (w : World) (h : NoMap v w) :
    Calls Tryz.prog 33 #[v] w fun e w' => ∃ er, er ≠ 0 ∧ e = .returned (.tuple #[Pg.zero.v, .int .i64 0, .int .i64 er]) ∧ Below w.heap.size w w' := by
  obtain ⟨p, er, hp, hc⟩ := h
  have HC := Lib.hid (hc _ ((Below.refl w.heap.size w).alloc (Nat.le_refl _) (.cells Pg.zero.cs 38)))
  clear hc
  go_enter Tryz.func33, Tryz.ntmps33
  go_wp2_with fail
  with_reducible refine HC.out.mono ?_; rintro e w1 ⟨rfl, hb1⟩
  have hsz := hb1.size
  simp only [World.size_alloc] at hsz
  have hr1 : rowAt (w1.alloc (.cells p.cs 38)) w.heap.size = some Pg.zero.cs := (rowAt_past _ _ _ (by omega)).trans ((rowAt_below hb1 (by go_size)).trans (by simp [go_sem]))
  have hb2 := (((Below.refl w.heap.size w).alloc (Nat.le_refl _) (.cells Pg.zero.cs 38)).trans (hb1.mono (by go_size))).alloc (by omega) (.cells p.cs 38)
  have R1 := rowAt_at w1 p.cs 38 _ rfl
  have RF := rowAt_setRow _ _ _ Pg.zero.cs hr1
  have HBF := Lib.hid (below_setRow hb2 Pg.zero.cs (Nat.le_refl w.heap.size))
  clear hb1 hb2
  rcases hp with rfl | ⟨rfl, hk⟩
  · go_wp2_with fail
    exact ret_page2 rfl rfl w.heap.size Pg.zero rfl RF ⟨_, by decide, rfl, HBF.out⟩
  · have k0 := (cell_row R1 0).trans (show p.cs[0]? = some (.int .i64 p.k) from rfl)
    have hk2 : (p.k == 2) = false := by simpa using hk
    generalize p.k = pk at *
    go_wp2_with fail
    exact ret_page2 rfl rfl w.heap.size Pg.zero rfl RF ⟨_, by decide, rfl, HBF.out⟩

set_option maxHeartbeats 4000000 in
set_option maxRecDepth 100000 in
theorem used_bad22 (v : Value) (w : World) (h : NoMap v w) :
    Calls Tryz.prog 12 #[v] w fun e w' => ∃ er, er ≠ 0 ∧ e = .returned (.tuple #[.slice none 0 0, .int .i64 0, .int .i64 er]) ∧ Below w.heap.size w w' := by
  have HR := Lib.hid (read_bad22 v w h)
  clear h
  go_enter Tryz.func12, Tryz.ntmps12
  go_wp2_with fail
  with_reducible refine HR.out.mono ?_; rintro e w1 ⟨er, her, rfl, hb1⟩
  have he1 : (er == 0) = false := by simpa using her
  have B1 := Lib.hid (hb1.alloc hb1.size (.cells Pg.zero.cs 38))
  clear hb1
  go_wp2_with fail
  first
    | exact ret_tmp3 rfl rfl ⟨er, her, rfl, B1.out⟩
    | (go_ret; exact ⟨er, her, rfl, B1.out⟩)

set_option maxHeartbeats 4000000 in
set_option maxRecDepth 100000 in
theorem auCheck_bad (v : Value) (w : World) (h : NoMap v w) :
    Calls Tryz.prog 10 #[v] w fun e w' => ∃ er, er ≠ 0 ∧ e = .returned (.int .i64 er) ∧ Below w.heap.size w w' := by
  have HU := Lib.hid (used_bad22 v w h)
  clear h
  go_enter Tryz.func10, Tryz.ntmps10
  go_wp2_with fail
  with_reducible refine HU.out.mono ?_; rintro e w1 ⟨er, her, rfl, hb1⟩
  have he1 : (er == 0) = false := by simpa using her
  have B1 := Lib.hid hb1
  clear hb1
  go_wp2_with fail
  go_ret
  exact ⟨er, her, rfl, B1.out⟩
theorem nomap_nil (w : World) : NoMap (.pointer none) w := ⟨Pg.zero, 1, .inl rfl, fun w' _ => getNil22 1 w'⟩
theorem nomap_blank {w : World} {b mb hb pb : Nat} {S : Vol} (hs : StageAt w b mb hb pb S) (h : stE S 1 = 1 ∨ ¬ (stPg S 1).k = 2) : NoMap (.pointer (some ⟨b, 0, none⟩)) w := by
  rcases stE_two S 1 with he | he
  · exact ⟨stPg S 1, 0, .inr ⟨rfl, h.resolve_left (fun e => by rw [he] at e; cases e)⟩, fun w' hb' => by have := get_any S b mb hb pb 1 w' (hs.below hb' hs.lt); rwa [he] at this⟩
  · exact ⟨stPg S 1, 1, .inl rfl, fun w' hb' => by have := get_any S b mb hb pb 1 w' (hs.below hb' hs.lt); rwa [he] at this⟩
end Go.Proofs.YtljommhbhpappaaGreat
