/-
  Layer 16 (tree): the leaf that a key belongs to.
-/
import Derived.Test.YtljommhbhpappaaTree1
namespace Go.Proofs.Ytljommhbhpappaa
open Go.RowKit Go.Joins
set_option linter.unusedVariables false
set_option linter.unusedSimpArgs false

/-- a tree that stands in a volume -/
structure TrIn (S : Vol) (st : Int) (n : Nat) (t : Tr n) : Prop where
  inner : Tr.Inner S st n t
  good : Tr.Good n t
  leaves : ∀ x ∈ Tr.leaves n t, ∃ nx, stPg S x.1 = ndPg 0 st nx x.2
  ids : ∀ i ∈ Tr.ids n t, stE S i = 0 ∧ 1 ≤ i ∧ i < 1024
  low : n ≤ 255
theorem TrIn.kid {S : Vol} {st : Int} {n : Nat} {t : Tr (n + 1)} (h : TrIn S st (n + 1) t) {x : ByteArray × Tr n} (hx : x ∈ kidsOf t) : TrIn S st n x.2 :=
  ⟨h.inner.2 x hx, h.good.2 x hx, fun y hy => h.leaves y (List.mem_flatMap.2 ⟨x, hx, hy⟩), fun i hi => h.ids i (List.mem_cons_of_mem _ (List.mem_flatMap.2 ⟨x, hx, hi⟩)), by have := h.low; omega⟩
theorem TrIn.page : ∀ {S : Vol} {st : Int} {n : Nat} {t : Tr n}, TrIn S st n t → ∃ nx, stPg S (Tr.id n t) = ndPg (n : Int) st nx (Tr.cells n t)
  | S, st, 0, t, h => h.leaves (t.1, t.2) (List.mem_cons_self ..)
  | S, st, n + 1, t, h => ⟨0, h.inner.1⟩
theorem ncheck_node (st nx : Int) {n : Nat} {L : List NC} (h : NodeOk n L) (w : World) :
    Calls Try.prog 106 #[(ndPg (n : Int) st nx L).v] w fun e w' => e = .returned (.int .i64 0) ∧ Below w.heap.size w w' := by
  obtain ⟨h6, hr, h0, h1⟩ := h
  rcases n with _ | n
  · exact ncheck_leaf st nx L h6 (h0 rfl) hr w
  · exact ncheck_inner _ st nx (by omega) L h6 (h1 (by omega)).1 hr (h1 (by omega)).2 w
theorem NodeOk.cells {n : Nat} {L : List NC} (h : NodeOk n L) : ∀ c ∈ L, c.ok := by
  obtain ⟨h6, hr, h0, h1⟩ := h
  rcases n with _ | n
  · exact fun c hc => (h0 rfl c hc).ok
  · exact fun c hc => ((h1 (by omega)).1 c hc).ok
/-- a walker's get, at a node of a tree -/
theorem wget_tr {S : Vol} {st : Int} {n : Nat} {t : Tr n} (h : TrIn S st n t) (nx : Int) (hp : stPg S (Tr.id n t) = ndPg (n : Int) st nx (Tr.cells n t)) (b mb hb pb wb : Nat) (root : Int) (kv : Value) (w : World) (hs : StageAt w b mb hb pb S) (hw : WalkAt w wb b st root kv) :
    Calls Try.prog 83 #[.pointer (some ⟨wb, 0, none⟩), .int .i64 (Tr.id n t)] w fun e w' => e = .returned (.tuple #[(ndPg (n : Int) st nx (Tr.cells n t)).v, .int .i64 0]) ∧ Below w.heap.size w w' :=
  wget_ok S b mb hb pb wb st root kv (Tr.id n t) _ hp (h.ids _ (id_mem n t)).1 rfl (fun w' => ncheck_node st nx h.good.node w') w hs hw
/-- the level of a page, as a loop's measure -/
def levOf (S : Vol) (id : Int) : Nat := (stPg S id).l.toNat
theorem TrIn.lev {S : Vol} {st : Int} {n : Nat} {t : Tr n} (h : TrIn S st n t) : levOf S (Tr.id n t) = n := by
  obtain ⟨nx, hp⟩ := h.page
  unfold levOf
  rw [hp]
  show ((n : Int)).toNat = n
  omega

set_option maxHeartbeats 4000000 in
set_option maxRecDepth 100000 in
theorem leaf_any {S : Vol} {st : Int} {N : Nat} {T : Tr N} (h : TrIn S st N T) (b mb hb pb wb : Nat) (kv : Value) (key : ByteArray) (w : World) (hs : StageAt w b mb hb pb S) (hw : WalkAt w wb b st (Tr.id N T) kv) :
    Calls Try.prog 81 #[.pointer (some ⟨wb, 0, none⟩), .string key] w fun e w' => e = .returned (.tuple #[.int .i64 (Tr.leaf key N T).1, (stPg S (Tr.leaf key N T).1).v, .int .i64 0]) ∧ Below w.heap.size w w' := by
  have HG := Lib.hid (fun n (t : Tr n) (ht : TrIn S st n t) nx hp w' hs' hw' => wget_tr ht nx hp b mb hb pb wb (Tr.id N T) kv w' hs' hw')
  have HS := Lib.hid hs
  have hlt := hs.lt
  have B0 : Below w.heap.size w (w.alloc (.cells Pg.zero.cs 112)) := (Below.refl _ _).alloc (Nat.le_refl _) _
  have hw0 := hw.below B0
  obtain ⟨-, -, c2, -⟩ := hw0.cells
  have HW0 := Lib.hid hw0
  have HB0 := Lib.hid B0
  have HT := Lib.hid h
  have hwlt := hw.lt
  obtain ⟨lf, hlf⟩ : ∃ lf, Tr.leaf key N T = lf := ⟨_, rfl⟩
  rw [hlf]
  have HS0 : Hid (StageAt (w.alloc (.cells Pg.zero.cs 112)) b mb hb pb S) := Lib.hid (hs.below B0 hlt)
  obtain ⟨root, hroot⟩ : ∃ root, Tr.id N T = root := ⟨_, rfl⟩
  rw [hroot] at HW0 c2 HG
  have START : Hid (∃ k, ∃ s : Tr k, root = Tr.id k s ∧ TrIn S st k s ∧ Tr.leaf key k s = lf) := Lib.hid ⟨N, T, hroot.symm, h, hlf⟩
  clear hs hw h B0 hw0 HB0 HS hlf hroot HT
  go_enter Try.func81, Try.ntmps81
  go_wp2_with fail
  go_loopw [7] (fun v wr => Below (w.heap.size + 1) (w.alloc (.cells Pg.zero.cs 112)) wr ∧ ∃ k, ∃ s : Tr k, v = .int .i64 (Tr.id k s) ∧ TrIn S st k s ∧ Tr.leaf key k s = lf) (fun v _ => levOf S (intOf v))
  case atStart =>
    obtain ⟨k, s, e, h1, h2⟩ := START.out
    exact ⟨Below.refl _ _, k, s, by rw [e], h1, h2⟩
  case round =>
    obtain ⟨hbw, k, s, rfl, hs, hlf⟩ := hrel
    have hsz := hbw.size
    rw [World.size_alloc] at hsz
    have mkA : ∀ w', Below wr.heap.size wr w' → StageAt w' b mb hb pb S ∧ WalkAt w' wb b st root kv := fun w' hw' =>
      ⟨(HS0.out.below hbw ⟨by omega, by omega, by omega, by omega⟩).below hw' ⟨by omega, by omega, by omega, by omega⟩, (HW0.out.below (hbw.mono (by go_size))).below hw'⟩
    have MK := Lib.hid mkA
    have R0 := Lib.hid ((rowAt_below hbw (n := w.heap.size) (by omega)).trans (rowAt_at w Pg.zero.cs 112 _ rfl))
    have B0 : Hid (Below w.heap.size w wr) := Lib.hid (((Below.refl _ _).alloc (Nat.le_refl _) _).trans (hbw.mono (by omega)))
    have BW := Lib.hid hbw
    obtain ⟨nx, hp⟩ := hs.page
    have HC := Lib.hid (HG.out k s hs nx hp)
    have HSs := Lib.hid hs
    have HP := Lib.hid hp
    have HLf := Lib.hid hlf
    clear mkA hbw hs hp hlf
    obtain ⟨p, hpp⟩ : ∃ p, ndPg (k : Int) st nx (Tr.cells k s) = p := ⟨_, rfl⟩
    have hpl : p.l = (k : Int) := by rw [← hpp]; rfl
    rw [hpp] at HC HP
    have HPP := Lib.hid hpp
    clear hpp
    have BD := Below.refl wr.heap.size wr
    go_wp2_with fail
    refine (HC.out wr (MK.out _ BD).1 (MK.out _ BD).2).mono ?_; rintro e w1 ⟨rfl, hb1⟩
    have hz1 := hb1.size
    have R1 := rowAt_at w1 p.cs 112 _ rfl
    have R1' := Lib.hid R1
    have B1 : Hid (Below wr.heap.size wr (w1.alloc (.cells p.cs 112))) := Lib.hid (hb1.alloc hz1 _)
    have RZ : rowAt (w1.alloc (.cells p.cs 112)) w.heap.size = some Pg.zero.cs := (rowAt_below B1.out (by omega)).trans R0.out
    have c1 : (w1.alloc (.cells p.cs 112)).cell? ⟨w1.heap.size, 1, none⟩ = some (.int .i64 (k : Int)) := (cell_row R1 1).trans (by rw [← hpl]; rfl)
    clear hb1
    rcases k with _ | k
    · go_wp2_with fail
      go_region
      go_wp2_with fail
      have e1 : Tr.leaf key 0 s = (Tr.id 0 s, s.2) := rfl
      have hl1 := HLf.out
      rw [e1] at hl1
      have e2 : lf.1 = Tr.id 0 s := by rw [← hl1]
      rw [e2, HP.out]
      have RF := rowAt_setRow (w1.alloc (.cells p.cs 112)).drew _ _ p.cs RZ
      have BF := below_setRow (B0.out.trans (B1.out.mono (by omega))).drew p.cs (Nat.le_refl w.heap.size)
      exact ret_tpt16 rfl rfl w.heap.size p rfl RF ⟨rfl, BF⟩
    · have hk0 : (((k + 1 : Nat) : Int) == 0) = false := by simp; omega
      have hG := HSs.out.good.node
      have hcok := hG.cells
      obtain ⟨h6, hr, -, hin⟩ := hG
      obtain ⟨hin, hp0, he0⟩ := hin (by omega)
      obtain ⟨hdl, -, -⟩ := downL_spec (key := key) hr hp0 he0
      have HDn := Lib.hid (fun w' => ndown_any ((k + 1 : Nat) : Int) st nx (Tr.cells (k + 1) s) h6 hcok key w')
      rw [HPP.out] at HDn
      have hlen : (Tr.cells (k + 1) s).length = (kidsOf s).length := by rw [cells_succ, List.length_map]
      obtain ⟨x, hx⟩ : ∃ x, (kidsOf s)[downL key (Tr.cells (k + 1) s)]'(by omega) = x := ⟨_, rfl⟩
      have hxm : x ∈ kidsOf s := by rw [← hx]; exact List.getElem_mem _
      have hcell : (Tr.cells (k + 1) s)[downL key (Tr.cells (k + 1) s)]'hdl = ⟨x.1, 1, le4 (Tr.id k x.2)⟩ := by
        rw [← hx]
        simp [cells_succ]
      have hxin := hin _ (List.getElem_mem hdl)
      rw [hcell] at hxin
      have hlf2 : Tr.leaf key k x.2 = lf := by
        rw [← HLf.out]
        show _ = (match (kidsOf s)[downL key (Tr.cells (k + 1) s)]? with | some x => Tr.leaf key k x.2 | none => (0, []))
        rw [List.getElem?_eq_getElem (by omega), hx]
      have hXs := HSs.out.kid hxm
      have hA := (nd_a ((k + 1 : Nat) : Int) st nx (Tr.cells (k + 1) s) _ (by omega)).trans (stL_get hdl)
      have hD := (nd_d ((k + 1 : Nat) : Int) st nx (Tr.cells (k + 1) s) _ (by omega)).trans (dL_get hdl)
      rw [hcell, HPP.out] at hA hD
      have hid := hXs.ids _ (id_mem k x.2)
      have HCh := Lib.hid (fun w' => nchild_ok 1 x.1 (Tr.id k x.2) (by decide) hxin.2.1 hid.2.1 hid.2.2 w')
      obtain ⟨nx2, hp2⟩ := hXs.page
      have HC2 := Lib.hid (HG.out k x.2 hXs nx2 hp2)
      obtain ⟨p2, hpp2⟩ : ∃ p2, ndPg (k : Int) st nx2 (Tr.cells k x.2) = p2 := ⟨_, rfl⟩
      have hpl2 : p2.l = (k : Int) := by rw [← hpp2]; rfl
      rw [hpp2] at HC2
      have HXs := Lib.hid hXs
      have HL2 := Lib.hid hlf2
      have hd : NC.d ⟨x.1, 1, le4 (Tr.id k x.2)⟩ = tx x.1 ++ le4 (Tr.id k x.2) := rfl
      rw [hd] at hD
      generalize tx x.1 ++ le4 (Tr.id k x.2) = dd at *
      have hi6 : downL key (Tr.cells (k + 1) s) < 6 := by omega
      clear hxin hcell hx hxm hlf2 hdl
      generalize downL key (Tr.cells (k + 1) s) = i at *
      obtain ⟨xk, x2⟩ := x
      simp only at HCh HC2 HXs HL2 hA hD
      clear hXs hp2 hpp2 hin he0 hr hcok hid hlen hp0 hd
      have cA := (cell_row R1 (4 + i * 2)).trans (cs_a p i hi6)
      have cD := (cell_row R1 (4 + i * 2 + 1)).trans (cs_d p i hi6)
      rw [hA] at cA
      rw [hD] at cD
      go_wp2_with fail
      refine (HDn.out _).mono ?_; rintro e w2 ⟨rfl, hb2⟩
      have hz2 := hb2.size
      rw [World.size_alloc] at hz2
      have cA2 := (hb2.cell (p := ⟨w1.heap.size, 4 + i * 2, none⟩) (by simp)).trans cA
      have cD2 := (hb2.cell (p := ⟨w1.heap.size, 4 + i * 2 + 1, none⟩) (by simp)).trans cD
      have R2 := Lib.hid ((rowAt_below hb2 (by simp)).trans R1)
      have B2 : Hid (Below wr.heap.size wr w2) := Lib.hid (B1.out.trans (hb2.mono (by go_size)))
      clear hb2 cA cD c1 RZ R1
      go_wp2_with fail
      refine (HCh.out _).mono ?_; rintro e w3 ⟨rfl, hb3⟩
      have hz3 := hb3.size
      have B3 : Hid (Below wr.heap.size wr w3) := Lib.hid (B2.out.trans (hb3.mono (by omega)))
      have R3 := Lib.hid ((rowAt_below hb3 (by omega)).trans R2.out)
      clear hb3 cA2 cD2
      go_wp2_with fail
      refine (HC2.out _ (MK.out _ B3.out).1 (MK.out _ B3.out).2).mono ?_; rintro e w4 ⟨rfl, hb4⟩
      have hz4 := hb4.size
      have B4 : Hid (Below wr.heap.size wr (w4.alloc (.cells p2.cs 112))) := Lib.hid ((B3.out.trans (hb4.mono (by omega))).alloc (by omega) _)
      have R4 : rowAt (w4.alloc (.cells p2.cs 112)) w1.heap.size = some p.cs := (rowAt_past _ _ _ (by omega)).trans ((rowAt_below hb4 (by omega)).trans R3.out)
      have Q4 := rowAt_at w4 p2.cs 112 _ rfl
      have d1 : (w4.alloc (.cells p2.cs 112)).cell? ⟨w1.heap.size, 1, none⟩ = some (.int .i64 ((k : Int) + 1)) := (cell_row R4 1).trans (by rw [show ((k : Int) + 1) = p.l from by rw [hpl]; omega]; rfl)
      have d2 : (w4.alloc (.cells p2.cs 112)).cell? ⟨w4.heap.size, 1, none⟩ = some (.int .i64 (k : Int)) := (cell_row Q4 1).trans (by rw [← hpl2]; rfl)
      clear hb4
      have hkk : ((k : Int) + 1 - 1) = (k : Int) := by omega
      have hkw : wrap64 (k : Int) = (k : Int) := by have := HXs.out.low; unfold wrap64; omega
      go_wp2_with fail
      refine ⟨⟨BW.out.trans (B4.out.mono (by omega)), k, x2, rfl, HXs.out, HL2.out⟩, ?_⟩
      show levOf S (Tr.id k x2) < levOf S (Tr.id (k + 1) s)
      rw [HXs.out.lev, HSs.out.lev]
      omega
end Go.Proofs.Ytljommhbhpappaa
