/-
  Layer 22 (audit): page: a page that nobody has had yet.
-/
import Derived.Test.YtljommhbhpappaaAu1
namespace Go.Proofs.Ytljommhbhpappaa
open Go.RowKit Go.Joins
set_option linter.unusedVariables false
set_option linter.unusedSimpArgs false

set_option maxHeartbeats 4000000 in
set_option maxRecDepth 100000 in
theorem page_ok {B : Nat} {w : World} {lb q b mb hb pb : Nat} {S : Vol} {seen : List (Int × Int)} {lvs : List Int} (h : AuAt B w lb q b mb hb pb S seen lvs) (st id kd : Int) (p : Pg) (hp : stPg S id = p) (he : stE S id = 0) (hst : p.s = st) (hk : p.k = kd) (hf : ¬ id ∈ seen.map (·.1)) :
    Calls Try.prog 98 #[.pointer (some ⟨lb, 0, none⟩), .int .i64 st, .int .i64 id, .int .i64 kd] w fun e w' => e = .returned (.tuple #[p.v, .int .i64 0]) ∧ AuAt B w' lb q b mb hb pb S (seen ++ [(id, st)]) lvs ∧ AuK B lb q w w' := by
  have HG := Lib.hid (fun w' (h : StageAt w' b mb hb pb S) => get_any S b mb hb pb id w' h)
  rw [hp, he] at HG
  have B0 : Below w.heap.size w (w.alloc (.cells Pg.zero.cs 112)) := (Below.refl _ _).alloc (Nat.le_refl _) _
  have H0 := Lib.hid (h.step B0)
  obtain ⟨c0, c1⟩ := H0.out.cells
  have hlt := h.lt
  have hlo := h.lo
  have HK0 := Lib.hid (AuK.of_below (lb := lb) (q := q) B0 hlo.2.2)
  have HF := Lib.hid hf
  have HR0 := Lib.hid (heap_alloc_new w (.cells Pg.zero.cs 112))
  clear h hp he hf B0
  go_enter Try.func98, Try.ntmps98
  go_wp2_with fail
  refine (HG.out _ H0.out.st).mono ?_; rintro e w1 ⟨rfl, hb1⟩
  have hz1 := hb1.size
  rw [World.size_alloc] at hz1
  have B1 : Below (w.heap.size + 1) (w.alloc (.cells Pg.zero.cs 112)) (w1.alloc (.cells p.cs 112)) := (hb1.mono (by go_size)).alloc (by omega) _
  have H1 := Lib.hid (H0.out.step (B1.mono (by go_size)))
  have R1 := rowAt_at w1 p.cs 112 _ rfl
  have RZ1 := (rowAt_past w1 (.cells p.cs 112) w.heap.size (by omega)).trans ((rowAt_below hb1 (by go_size)).trans (rowAt_at w Pg.zero.cs 112 _ rfl))
  have HB1 : Hid (Below w.heap.size w (w1.alloc (.cells p.cs 112))) := Lib.hid ((((Below.refl _ _).alloc (Nat.le_refl _) _)).trans (B1.mono (by omega)))
  obtain ⟨d0, d1⟩ := H1.out.cells
  have hl2 := lookup_new H1.out.map HF.out
  obtain ⟨es, clock, hm1, hM1, hSt1⟩ := H1.out.map
  obtain ⟨o, ho⟩ := run_mapUpdate_int (P := Try.prog) Try.underlying128 Try.underlying3 (.int .i64 st) q _ id es clock hM1 hSt1
  rw [updI_seen HF.out] at ho
  have k2 := (cell_row R1 2).trans (show p.cs[2]? = some (.int .i64 st) by rw [← hst]; rfl)
  have k0 := (cell_row R1 0).trans (show p.cs[0]? = some (.int .i64 kd) by rw [← hk]; rfl)
  clear c0 c1 B1
  have u1 := (ho _ hm1).1
  have hH := H1.out.seen (ho _ hm1).2
  have HH := Lib.hid hH.1
  have HK := Lib.hid hH.2
  have hsame : ∀ k, k ≠ q → rowAt (ChangeMaps.setBlock (w1.alloc (.cells p.cs 112)) q o) k = rowAt (w1.alloc (.cells p.cs 112)) k := fun k hk => by
    unfold rowAt; simp [ChangeMaps.setBlock, Array.getElem?_setIfInBounds, Ne.symm hk]
  have R2 := (hsame w1.heap.size (by omega)).trans R1
  have RZ2 := (hsame w.heap.size (by omega)).trans RZ1
  have RF := rowAt_setRow _ _ _ p.cs RZ2
  have BF : Below w.heap.size (ChangeMaps.setBlock (w1.alloc (.cells p.cs 112)) q o) ((ChangeMaps.setBlock (w1.alloc (.cells p.cs 112)) q o).setRow w.heap.size p.cs) := below_setRow (Below.refl _ _) p.cs (Nat.le_refl _)
  have HBF := Lib.hid BF
  have HZ : Hid ((ChangeMaps.setBlock (w1.alloc (.cells p.cs 112)) q o).heap[w.heap.size]? = some (.cells Pg.zero.cs 112)) := Lib.hid (by
    have e1 : (ChangeMaps.setBlock (w1.alloc (.cells p.cs 112)) q o).heap[w.heap.size]? = (w1.alloc (.cells p.cs 112)).heap[w.heap.size]? := by
      simp [ChangeMaps.setBlock, Array.getElem?_setIfInBounds, show q ≠ w.heap.size from by omega]
    rw [e1, Below.heap_alloc _ _ _ (by omega), hb1.block _ (by go_size)]
    exact HR0.out)
  clear hH ho hm1 hM1 hSt1 hsame BF hb1
  go_wp2_with fail
  refine ret_page rfl rfl w.heap.size p rfl RF ⟨rfl, ?_, ?_⟩
  · exact HH.out.poke HZ.out (by decide) (by decide) (by omega) (grown_setRow22 _ _ _)
  · exact ((AuK.of_below HB1.out hlo.2.2).trans HK.out).past HBF.out hlo.2.2
set_option maxHeartbeats 4000000 in
set_option maxRecDepth 100000 in
theorem page_bad1 {B : Nat} {w : World} {lb q b mb hb pb : Nat} {S : Vol} {seen : List (Int × Int)} {lvs : List Int} (h : AuAt B w lb q b mb hb pb S seen lvs) (st id kd : Int) (p : Pg) (hp : stPg S id = p) (he : stE S id = 1) :
    Calls Try.prog 98 #[.pointer (some ⟨lb, 0, none⟩), .int .i64 st, .int .i64 id, .int .i64 kd] w fun e w' => ∃ er, er ≠ 0 ∧ e = .returned (.tuple #[p.v, .int .i64 er]) ∧ Below w.heap.size w w' := by
  have HG := Lib.hid (fun w' (h : StageAt w' b mb hb pb S) => get_any S b mb hb pb id w' h)
  rw [hp, he] at HG
  have B0 : Below w.heap.size w (w.alloc (.cells Pg.zero.cs 112)) := (Below.refl _ _).alloc (Nat.le_refl _) _
  have H0 := Lib.hid (h.step B0)
  obtain ⟨c0, c1⟩ := H0.out.cells
  have hlt := h.lt
  clear h hp he B0
  go_enter Try.func98, Try.ntmps98
  go_wp2_with fail
  refine (HG.out _ H0.out.st).mono ?_; rintro e w1 ⟨rfl, hb1⟩
  have hz1 := hb1.size
  rw [World.size_alloc] at hz1
  have B1 : Below (w.heap.size + 1) (w.alloc (.cells Pg.zero.cs 112)) (w1.alloc (.cells p.cs 112)) := (hb1.mono (by go_size)).alloc (by omega) _
  have H1 := Lib.hid (H0.out.step (B1.mono (by go_size)))
  have R1 := rowAt_at w1 p.cs 112 _ rfl
  have RZ1 := (rowAt_past w1 (.cells p.cs 112) w.heap.size (by omega)).trans ((rowAt_below hb1 (by go_size)).trans (rowAt_at w Pg.zero.cs 112 _ rfl))
  have HB1 : Hid (Below w.heap.size w (w1.alloc (.cells p.cs 112))) := Lib.hid ((((Below.refl _ _).alloc (Nat.le_refl _) _)).trans (B1.mono (by omega)))
  obtain ⟨d0, d1⟩ := H1.out.cells
  have RF := rowAt_setRow _ _ _ p.cs RZ1
  have HBF := Lib.hid (below_setRow HB1.out p.cs (Nat.le_refl w.heap.size))
  clear c0 c1 hb1 B1 
  go_wp2_with fail
  exact ret_page rfl rfl w.heap.size p rfl RF ⟨_, by decide, rfl, HBF.out⟩
set_option maxHeartbeats 4000000 in
set_option maxRecDepth 100000 in
theorem page_bad2 {B : Nat} {w : World} {lb q b mb hb pb : Nat} {S : Vol} {seen : List (Int × Int)} {lvs : List Int} (h : AuAt B w lb q b mb hb pb S seen lvs) (st id kd : Int) (p : Pg) (hp : stPg S id = p) (he : stE S id = 0) (hf : id ∈ seen.map (·.1)) :
    Calls Try.prog 98 #[.pointer (some ⟨lb, 0, none⟩), .int .i64 st, .int .i64 id, .int .i64 kd] w fun e w' => ∃ er, er ≠ 0 ∧ e = .returned (.tuple #[p.v, .int .i64 er]) ∧ Below w.heap.size w w' := by
  have HG := Lib.hid (fun w' (h : StageAt w' b mb hb pb S) => get_any S b mb hb pb id w' h)
  rw [hp, he] at HG
  have B0 : Below w.heap.size w (w.alloc (.cells Pg.zero.cs 112)) := (Below.refl _ _).alloc (Nat.le_refl _) _
  have H0 := Lib.hid (h.step B0)
  obtain ⟨c0, c1⟩ := H0.out.cells
  have hlt := h.lt
  clear h hp he B0
  go_enter Try.func98, Try.ntmps98
  go_wp2_with fail
  refine (HG.out _ H0.out.st).mono ?_; rintro e w1 ⟨rfl, hb1⟩
  have hz1 := hb1.size
  rw [World.size_alloc] at hz1
  have B1 : Below (w.heap.size + 1) (w.alloc (.cells Pg.zero.cs 112)) (w1.alloc (.cells p.cs 112)) := (hb1.mono (by go_size)).alloc (by omega) _
  have H1 := Lib.hid (H0.out.step (B1.mono (by go_size)))
  have R1 := rowAt_at w1 p.cs 112 _ rfl
  have RZ1 := (rowAt_past w1 (.cells p.cs 112) w.heap.size (by omega)).trans ((rowAt_below hb1 (by go_size)).trans (rowAt_at w Pg.zero.cs 112 _ rfl))
  have HB1 : Hid (Below w.heap.size w (w1.alloc (.cells p.cs 112))) := Lib.hid ((((Below.refl _ _).alloc (Nat.le_refl _) _)).trans (B1.mono (by omega)))
  obtain ⟨d0, d1⟩ := H1.out.cells
  have RF := rowAt_setRow _ _ _ p.cs RZ1
  have HBF := Lib.hid (below_setRow HB1.out p.cs (Nat.le_refl w.heap.size))
  obtain ⟨vv, hl2⟩ := lookup_had H1.out.map hf
  clear hf
  clear c0 c1 hb1 B1 
  go_wp2_with fail
  exact ret_page rfl rfl w.heap.size p rfl RF ⟨_, by decide, rfl, HBF.out⟩
set_option maxHeartbeats 4000000 in
set_option maxRecDepth 100000 in
theorem page_bad3 {B : Nat} {w : World} {lb q b mb hb pb : Nat} {S : Vol} {seen : List (Int × Int)} {lvs : List Int} (h : AuAt B w lb q b mb hb pb S seen lvs) (st id kd : Int) (p : Pg) (hp : stPg S id = p) (he : stE S id = 0) (hf : ¬ id ∈ seen.map (·.1)) (hst : ¬ p.s = st) :
    Calls Try.prog 98 #[.pointer (some ⟨lb, 0, none⟩), .int .i64 st, .int .i64 id, .int .i64 kd] w fun e w' => ∃ er, er ≠ 0 ∧ e = .returned (.tuple #[p.v, .int .i64 er]) ∧ Below w.heap.size w w' := by
  have HG := Lib.hid (fun w' (h : StageAt w' b mb hb pb S) => get_any S b mb hb pb id w' h)
  rw [hp, he] at HG
  have B0 : Below w.heap.size w (w.alloc (.cells Pg.zero.cs 112)) := (Below.refl _ _).alloc (Nat.le_refl _) _
  have H0 := Lib.hid (h.step B0)
  obtain ⟨c0, c1⟩ := H0.out.cells
  have hlt := h.lt
  clear h hp he B0
  go_enter Try.func98, Try.ntmps98
  go_wp2_with fail
  refine (HG.out _ H0.out.st).mono ?_; rintro e w1 ⟨rfl, hb1⟩
  have hz1 := hb1.size
  rw [World.size_alloc] at hz1
  have B1 : Below (w.heap.size + 1) (w.alloc (.cells Pg.zero.cs 112)) (w1.alloc (.cells p.cs 112)) := (hb1.mono (by go_size)).alloc (by omega) _
  have H1 := Lib.hid (H0.out.step (B1.mono (by go_size)))
  have R1 := rowAt_at w1 p.cs 112 _ rfl
  have RZ1 := (rowAt_past w1 (.cells p.cs 112) w.heap.size (by omega)).trans ((rowAt_below hb1 (by go_size)).trans (rowAt_at w Pg.zero.cs 112 _ rfl))
  have HB1 : Hid (Below w.heap.size w (w1.alloc (.cells p.cs 112))) := Lib.hid ((((Below.refl _ _).alloc (Nat.le_refl _) _)).trans (B1.mono (by omega)))
  obtain ⟨d0, d1⟩ := H1.out.cells
  have RF := rowAt_setRow _ _ _ p.cs RZ1
  have HBF := Lib.hid (below_setRow HB1.out p.cs (Nat.le_refl w.heap.size))
  have hl2 := lookup_new H1.out.map hf
  have k2 := (cell_row R1 2).trans (show p.cs[2]? = some (.int .i64 p.s) from rfl)
  have x1 : (p.s == st) = false := by simpa using hst
  generalize p.s = ps at *
  clear hf
  clear c0 c1 hb1 B1 
  go_wp2_with fail
  exact ret_page rfl rfl w.heap.size p rfl RF ⟨_, by decide, rfl, HBF.out⟩
set_option maxHeartbeats 4000000 in
set_option maxRecDepth 100000 in
theorem page_bad4 {B : Nat} {w : World} {lb q b mb hb pb : Nat} {S : Vol} {seen : List (Int × Int)} {lvs : List Int} (h : AuAt B w lb q b mb hb pb S seen lvs) (st id kd : Int) (p : Pg) (hp : stPg S id = p) (he : stE S id = 0) (hf : ¬ id ∈ seen.map (·.1)) (hst : p.s = st) (hk : ¬ p.k = kd) :
    Calls Try.prog 98 #[.pointer (some ⟨lb, 0, none⟩), .int .i64 st, .int .i64 id, .int .i64 kd] w fun e w' => ∃ er, er ≠ 0 ∧ e = .returned (.tuple #[p.v, .int .i64 er]) ∧ Below w.heap.size w w' := by
  have HG := Lib.hid (fun w' (h : StageAt w' b mb hb pb S) => get_any S b mb hb pb id w' h)
  rw [hp, he] at HG
  have B0 : Below w.heap.size w (w.alloc (.cells Pg.zero.cs 112)) := (Below.refl _ _).alloc (Nat.le_refl _) _
  have H0 := Lib.hid (h.step B0)
  obtain ⟨c0, c1⟩ := H0.out.cells
  have hlt := h.lt
  clear h hp he B0
  go_enter Try.func98, Try.ntmps98
  go_wp2_with fail
  refine (HG.out _ H0.out.st).mono ?_; rintro e w1 ⟨rfl, hb1⟩
  have hz1 := hb1.size
  rw [World.size_alloc] at hz1
  have B1 : Below (w.heap.size + 1) (w.alloc (.cells Pg.zero.cs 112)) (w1.alloc (.cells p.cs 112)) := (hb1.mono (by go_size)).alloc (by omega) _
  have H1 := Lib.hid (H0.out.step (B1.mono (by go_size)))
  have R1 := rowAt_at w1 p.cs 112 _ rfl
  have RZ1 := (rowAt_past w1 (.cells p.cs 112) w.heap.size (by omega)).trans ((rowAt_below hb1 (by go_size)).trans (rowAt_at w Pg.zero.cs 112 _ rfl))
  have HB1 : Hid (Below w.heap.size w (w1.alloc (.cells p.cs 112))) := Lib.hid ((((Below.refl _ _).alloc (Nat.le_refl _) _)).trans (B1.mono (by omega)))
  obtain ⟨d0, d1⟩ := H1.out.cells
  have RF := rowAt_setRow _ _ _ p.cs RZ1
  have HBF := Lib.hid (below_setRow HB1.out p.cs (Nat.le_refl w.heap.size))
  have hl2 := lookup_new H1.out.map hf
  have k2 := (cell_row R1 2).trans (show p.cs[2]? = some (.int .i64 st) by rw [← hst]; rfl)
  have k0 := (cell_row R1 0).trans (show p.cs[0]? = some (.int .i64 p.k) from rfl)
  have x1 : (p.k == kd) = false := by simpa using hk
  generalize p.k = pk at *
  clear hf
  clear c0 c1 hb1 B1 
  go_wp2_with fail
  exact ret_page rfl rfl w.heap.size p rfl RF ⟨_, by decide, rfl, HBF.out⟩
theorem stE_two (S : Vol) (id : Int) : stE S id = 0 ∨ stE S id = 1 := by
  unfold stE
  split
  · exact .inl rfl
  · unfold shelfE; split
    · exact .inl rfl
    · exact .inr rfl
/-- a page that may not be somebody's -/
def BadPage (S : Vol) (seen : List (Int × Int)) (st id kd : Int) : Prop := stE S id = 1 ∨ id ∈ seen.map (·.1) ∨ ¬ (stPg S id).s = st ∨ ¬ (stPg S id).k = kd
theorem page_bad {B : Nat} {w : World} {lb q b mb hb pb : Nat} {S : Vol} {seen : List (Int × Int)} {lvs : List Int} (h : AuAt B w lb q b mb hb pb S seen lvs) (st id kd : Int) (p : Pg) (hp : stPg S id = p) (hbad : BadPage S seen st id kd) :
    Calls Try.prog 98 #[.pointer (some ⟨lb, 0, none⟩), .int .i64 st, .int .i64 id, .int .i64 kd] w fun e w' => ∃ er, er ≠ 0 ∧ e = .returned (.tuple #[p.v, .int .i64 er]) ∧ Below w.heap.size w w' := by
  unfold BadPage at hbad
  rw [hp] at hbad
  rcases stE_two S id with he | he
  · by_cases hf : id ∈ seen.map (·.1)
    · exact page_bad2 h st id kd p hp he hf
    · by_cases hs : p.s = st
      · refine page_bad4 h st id kd p hp he hf hs ?_
        rcases hbad with e | e | e | e
        · rw [he] at e; cases e
        · exact absurd e hf
        · exact absurd hs e
        · exact e
      · exact page_bad3 h st id kd p hp he hf hs
  · exact page_bad1 h st id kd p hp he
end Go.Proofs.Ytljommhbhpappaa
