/-
  Layer 14 (space): the contracts of dir, Find, State, Make.
-/
import Derived.Test.YtljommhbhpappaaReader
namespace Go.Proofs.Ytljommhbhpappaa
open Go.RowKit Go.Joins
set_option linter.unusedVariables false
set_option linter.unusedSimpArgs false

/-- a stage whose page 0 is a directory -/
structure DirAt (S : Vol) (d : Pg) : Prop where
  e : stE S 0 = 0
  p : stPg S 0 = d
  k : d.k = 1

set_option maxHeartbeats 2000000 in
set_option maxRecDepth 100000 in
theorem dir_ok (S : Vol) (b mb hb pb : Nat) (d : Pg) (w : World) (hs : StageAt w b mb hb pb S) (hd : DirAt S d) :
    Calls Try.prog 74 #[.pointer (some ⟨b, 0, none⟩)] w fun e w' => e = .returned (.tuple #[d.v, .int .i64 0]) ∧ Below w.heap.size w w' := by
  obtain ⟨l1, l2, l3, l4⟩ := hs.lt
  have HC := Lib.hid (fun w' h => get_any S b mb hb pb 0 w' h)
  rw [hd.e, hd.p] at HC
  have HS := Lib.hid hs
  have k1 := hd.k
  clear hs hd
  go_enter Try.func74, Try.ntmps74
  go_wp2_with fail
  refine (HC.out _ (HS.out.below (B := w.heap.size) ((Below.refl w.heap.size w).alloc (Nat.le_refl _) _) ⟨l1, l2, l3, l4⟩)).mono ?_; rintro e w1 ⟨rfl, hb1⟩
  have hr1 : rowAt w1 w.heap.size = some Pg.zero.cs := (rowAt_below hb1 (by go_size)).trans (by simp [go_sem])
  have hsz := hb1.size
  simp only [World.size_alloc] at hsz
  have hb2 := (((Below.refl w.heap.size w).alloc (Nat.le_refl _) (.cells Pg.zero.cs 112)).trans (hb1.mono (by go_size)))
  have HB2 := Lib.hid hb2
  clear hb1 hb2
  have hlt1 : w.heap.size < w1.heap.size := by omega
  have hr2 : rowAt (w1.alloc (.cells d.cs 112)) w.heap.size = some Pg.zero.cs := (rowAt_past w1 _ _ hlt1).trans hr1
  go_wp2_with fail
  exact ret_page rfl rfl w.heap.size d rfl (by simp [go_sem, hr1, hlt1]) ⟨rfl, (below_setRow HB2.out _ (Nat.le_refl _)).alloc (by simp [World.setRow]; omega) _⟩

theorem results_tmp4 {fn : Func} {p q u v : Tmp} (h : fn.results = #[.tmp p, .tmp q, .tmp u, .tmp v]) (tmps : Array Value) (P : Program) (w : World) :
    (results fn tmps).run P w = .ok (.tuple #[tmps.getD p undef, tmps.getD q undef, tmps.getD u undef, tmps.getD v undef]) w := by
  simp only [results, h]
  simp [Sem.run_bind, Result.andThen]
/-- the end of a function that hands back four numbers -/
theorem ret_tmp4 {P : Program} {fn : Func} {R : Ending → World → Prop} {a : Act} {w : World} {p q u v : Tmp} (h : fn.results = #[.tmp p, .tmp q, .tmp u, .tmp v]) (hd : a.defers = [])
    (hR : R (.returned (.tuple #[a.tmps.getD p undef, a.tmps.getD q undef, a.tmps.getD u undef, a.tmps.getD v undef])) w) : bodyPost P fn R .ret a w :=
  bodyPost_ret (results_tmp4 h a.tmps P w) hd hR
theorem setCell_block {w : World} {n : Nat} {c : Array Value} {t : TypeId} (h : w.heap[n]? = some (.cells c t)) (i : Nat) (v : Value) : (w.setCell ⟨n, i, none⟩ v).heap[n]? = some (.cells (c.setIfInBounds i v) t) := by
  simp [World.setCell, Array.getElem?_modify, h]
theorem reader_any (s : ByteArray) (w : World) :
    Calls Try.prog 94 #[.string s] w fun e w' => e = .returned (.pointer (some ⟨w.heap.size, 0, none⟩)) ∧ w' = w.alloc (.cells #[.string s, .bool false] 197) := by
  go_enter Try.func94, Try.ntmps94
  go_wp2_with fail
  go_ret
  exact ⟨rfl, rfl⟩

set_option maxHeartbeats 2000000 in
set_option maxRecDepth 100000 in
/-- a store's kind, root and state, where its cell is five bytes -/
theorem find_ok (S : Vol) (b mb hb pb : Nat) (d : Pg) (w : World) (hs : StageAt w b mb hb pb S) (hd : DirAt S d) (k : Nat) (hk : k < 6) (ha : d.a k ≠ 0) (b0 b1 b2 b3 b4 : UInt8) (h5 : d.d k = five b0 b1 b2 b3 b4) :
    Calls Try.prog 68 #[.pointer (some ⟨b, 0, none⟩), .int .i64 (k + 1 : Nat)] w fun e w' => e = .returned (.tuple #[.int .i64 b0.toNat, .int .i64 (b1.toNat + 256 * b2.toNat + 65536 * b3.toNat + 16777216 * b4.toNat : Nat), .int .i64 (d.a k), .int .i64 0]) ∧ Below w.heap.size w w' := by
  obtain ⟨l1, l2, l3, l4⟩ := hs.lt
  have HD := Lib.hid (fun w' h => dir_ok S b mb hb pb d w' h hd)
  have HS := Lib.hid hs
  have ca := cs_a d k hk
  have cd := cs_d d k hk
  rw [h5] at cd
  have hn0 : (d.a k == 0) = false := by simp [ha]
  generalize d.a k = a at *
  have HV := Lib.hid (fun w n h => rnum4 b1 b2 b3 b4 w n h)
  have v0 := b0.toNat_lt
  have v1 : b1.toNat + 256 * b2.toNat + 65536 * b3.toNat + 16777216 * b4.toNat < 4294967296 := by
    have := b1.toNat_lt; have := b2.toNat_lt; have := b3.toNat_lt; have := b4.toNat_lt; omega
  generalize b1.toNat + 256 * b2.toNat + 65536 * b3.toNat + 16777216 * b4.toNat = v at *
  clear hs hd ha h5
  go_enter Try.func68, Try.ntmps68
  go_wp2_with fail
  refine (HD.out _ HS.out).mono ?_; rintro e w1 ⟨rfl, hb1⟩
  have hsz := hb1.size
  have HB1 := Lib.hid hb1
  clear hb1
  have hN := heap_alloc_new ((w1.alloc (.cells d.cs 112)).alloc (.cells #[.int .i64 a, .string (five b0 b1 b2 b3 b4)] 84)) (.cells #[.string (five b0 b1 b2 b3 b4), .bool false] 197)
  rw [World.size_alloc, World.size_alloc] at hN
  have HN := Lib.hid hN
  clear hN
  go_wp2_with fail
  refine (reader_any _ _).mono ?_; rintro e w2 ⟨rfl, rfl⟩
  go_wp2_with fail
  refine (rnum1 b0 b1 b2 b3 b4 _ _ HN.out).mono ?_; rintro e w3 ⟨rfl, hb3⟩
  have hz3 := hb3.size
  have hN3 := (hb3.block _ (by go_size)).trans (setCell_block HN.out 0 (.string (four b1 b2 b3 b4)))
  have hC3 : w3.cell? ⟨w1.heap.size + 1, 0, none⟩ = some (.int .i64 a) := by
    rw [hb3.cell (by go_size), World.cell?_setCell_far _ _ _ _ (by simp)]
    simp [go_sem]
  simp only [World.size_setCell, World.size_alloc] at hz3
  have B3 := Lib.hid (((HB1.out.alloc (by omega) (.cells d.cs 112)).alloc (by go_size) (.cells #[.int .i64 a, .string (five b0 b1 b2 b3 b4)] 84)).alloc (by go_size) (.cells #[.string (five b0 b1 b2 b3 b4), .bool false] 197) |> fun h => (below_setCell h ⟨w1.heap.size + 1 + 1, 0, none⟩ (.string (four b1 b2 b3 b4)) (by simp; omega)).trans (hb3.mono (by go_size)))
  have HN3 := Lib.hid hN3
  clear hb3 hN3
  go_wp2_with fail
  refine (HV.out _ _ HN3.out).mono ?_; rintro e w4 ⟨rfl, hb4⟩
  have hz4 := hb4.size
  have hN4 := (hb4.block _ (by go_size)).trans (setCell_block HN3.out 0 (.string ByteArray.empty))
  have hC4 : w4.cell? ⟨w1.heap.size + 1, 0, none⟩ = some (.int .i64 a) := by
    rw [hb4.cell (by go_size), World.cell?_setCell_far _ _ _ _ (by simp), hC3]
  have c0 := cell_of_block hN4 0
  have c1 := cell_of_block hN4 1
  simp only [List.setIfInBounds_toArray, List.set_cons_zero, List.getElem?_toArray, List.getElem?_cons_succ, List.getElem?_cons_zero] at c0 c1
  have B4 := Lib.hid (below_setCell B3.out ⟨w1.heap.size + 1 + 1, 0, none⟩ (.string ByteArray.empty) (by simp; omega) |>.trans (hb4.mono (by go_size)))
  clear hb4 hN4
  go_wp2
  go_region
  go_wp2
  exact ret_tmp4 rfl rfl ⟨rfl, B4.out.drew⟩
end Go.Proofs.Ytljommhbhpappaa
