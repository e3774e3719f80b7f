/-
  Several texts in one: Tree12, Tree13, Tree14, Tree15.
-/
import Derived.Test.YtljommhbhpappaaTree11
namespace Go.Proofs.Ytljommhbhpappaa
/-!
  Layer 16 (tree): change, Cut, Set.
-/
section
open Go.RowKit Go.Joins
set_option linter.unusedVariables false
set_option linter.unusedSimpArgs false

def ChOut (N : Nat) (T : Tr N) (key : ByteArray) (cx : NC → NC) (S : Vol) (u : Un) (er : Int) (S' : Vol) : Prop :=
  (er = 150 ∧ u = Un.zero ∧ S' = S ∧ ∀ x ∈ (Tr.leaf key N T).2, x.key = key → x.st ≠ 1) ∨
  (∃ x ∈ (Tr.leaf key N T).2, x.key = key ∧ x.st = 1 ∧ er = 0 ∧ u = unC key x ∧ S' = S.put (Tr.leaf key N T).1 (ndPg 0 1 (stPg S (Tr.leaf key N T).1).n (setC (cx x) (Tr.leaf key N T).2)))
theorem change_wrong (b : Value) (st : Int) (key : ByteArray) (hk : ¬ KeyOk key) (fv : Value) (w : World) :
    Calls Try.prog 86 #[b, .int .i64 st, .string key, fv] w fun e w' => e = .returned (.tuple #[Un.zero.v, .int .i64 1]) ∧ Below w.heap.size w w' := by
  have HW := Lib.hid (fun w' => wrong_any key w')
  have hk2 : (!decide (KeyOk key)) = true := by simp [hk]
  rw [hk2] at HW
  have R0 := rowAt_at w Un.zero.cs 86 _ rfl
  have r7 : row7 (rowAt (w.alloc (.cells Un.zero.cs 86)) w.heap.size) = true := by rw [R0]; rfl
  go_enter Try.func86, Try.ntmps86
  go_wp2_with fail
  refine (HW.out _).mono ?_; rintro e w1 ⟨rfl, rfl⟩
  go_wp2_with fail
  exact ret_un rfl rfl w.heap.size Un.zero rfl R0 ⟨rfl, (Below.refl _ _).alloc (Nat.le_refl _) _⟩

set_option maxHeartbeats 8000000 in
set_option maxRecDepth 100000 in
theorem tchange_any {S : Vol} {d m : Pg} {nn : Nat} {kd : Int} {N : Nat} {T : Tr N} (h : IdxOk S d m nn kd N T) (key : ByteArray) (hk : KeyOk key) (f : Nat) (cap : Array Value) (hf : ∀ (args : Array Value) (w : World), (callFunc f args).run Try.prog w = .ok (.enter f args) w) (cx : NC → NC) (hcx : ∀ x : NC, x.leaf → x.key = key → (cx x).leaf ∧ (cx x).key = key) (b mb hb pb : Nat) (w : World) (hs : StageAt w b mb hb pb S)
    (hcl : ∀ x : NC, x.leaf → x.key = key → x.st = 1 → ∀ w', Below w.heap.size w w' → Calls Try.prog f (#[.agg #[.int .i64 1, .string x.d]] ++ cap) w' fun e w'' => e = .returned (.agg #[.int .i64 (cx x).st, .string (cx x).d]) ∧ Below w'.heap.size w' w'') :
    Calls Try.prog 86 #[.pointer (some ⟨b, 0, none⟩), .int .i64 1, .string key, .func (.func f) #[] cap] w fun e w' => ∃ u er S', e = .returned (.tuple #[u.v, .int .i64 er]) ∧ w.grownBy w' (some mb) ∧ StageAt w' b mb hb pb S' ∧ ChOut N T key cx S u er S' := by
  have HF := Lib.hid (fun w' hs' => h.find b mb hb pb w' hs')
  have HS := Lib.hid hs
  have H := Lib.hid h
  have HCl := Lib.hid hcl
  have HCx := Lib.hid hcx
  have hslt := hs.lt
  have HW := Lib.hid (fun w' => wrong_any key w')
  have hk2 : (!decide (KeyOk key)) = false := by simp [hk]
  rw [hk2] at HW
  have hk4 := h.kind
  clear hs h hk hcl hk2 hcx
  go_enter Try.func86, Try.ntmps86
  go_wp2_with fail
  refine (HW.out _).mono ?_; rintro e w1 ⟨rfl, rfl⟩
  have U1 := Lib.hid (rowAt_at w Un.zero.cs 86 _ rfl)
  have B1 : Hid (Below w.heap.size w (w.alloc (.cells Un.zero.cs 86))) := Lib.hid ((Below.refl _ _).alloc (Nat.le_refl _) _)
  have hs1 : (w.alloc (.cells Un.zero.cs 86)).heap.size = w.heap.size + 1 := World.size_alloc ..
  generalize hW1 : w.alloc (.cells Un.zero.cs 86) = W1 at *
  have HOp := Lib.hid (open_ok b 1 none 0 0 kd (Tr.id N T) hk4 W1 (HF.out W1 (HS.out.below B1.out hslt)))
  obtain ⟨root, hroot⟩ : ∃ root, Tr.id N T = root := ⟨_, rfl⟩
  rw [hroot] at HOp
  have HRoot := Lib.hid hroot
  clear hroot
  go_wp2_with fail
  refine HOp.out.mono ?_; rintro e w4 ⟨wb, rfl, hb4, hwb, hwalk⟩
  have hz4 := hb4.size
  have B4 := Lib.hid (B1.out.trans (hb4.mono (by omega)))
  have U4 := Lib.hid ((rowAt_below hb4 (by omega)).trans U1.out)
  have hwlt := hwalk.lt
  have T4 : Hid (TS w4 w4 wb b mb hb pb 1 root none 0 [] S) := Lib.hid (PM.ts ⟨HS.out.below B4.out hslt, hwalk, ⟨by simp, .inl rfl⟩, by omega, fun a ha => by cases ha⟩)
  have HLf := Lib.hid (leaf_any H.out.tree.tin b mb hb pb wb (.slice none 0 0) key)
  rw [HRoot.out] at HLf
  clear hb4 hwalk
  go_wp2_with fail
  refine (HLf.out _ T4.out.p.stage T4.out.p.walk).mono ?_; rintro e w5 ⟨rfl, hb5⟩
  have hz5 := hb5.size
  obtain ⟨id, L, hlf⟩ : ∃ id L, Tr.leaf key N T = (id, L) := ⟨_, _, rfl⟩
  have hset : ∀ x : NC, x.leaf → x.key = key → SetOk S d m nn kd N T (cx x) id (stPg S id).n L := fun x hx hxk => by
    obtain ⟨h1, h2⟩ := HCx.out x hx hxk
    have := setT_ok H.out h1
    rw [h2, hlf] at this
    exact this
  obtain ⟨nx, hnx⟩ : ∃ nx, (stPg S id).n = nx := ⟨_, rfl⟩
  rw [hnx] at hset
  have hmem : (id, L) ∈ Tr.leaves N T := by
    obtain ⟨pre, post, h1, -⟩ := leaf_in H.out key
    rw [h1, hlf]; simp
  have hnode : NodeOk 0 L := (H.out.tree.leafOk _ hmem).1
  have hpage : stPg S id = ndPg 0 1 nx L := by
    obtain ⟨nx', -, h2⟩ := H.out.tree.tin.leaves _ hmem
    have h2 : stPg S id = ndPg 0 1 nx' L := h2
    rw [← hnx, h2]; rfl
  have h6 := hnode.1
  have hids := H.out.vol.map.hi
  have hidm := H.out.most id (leaf_ids hmem)
  obtain ⟨p, hp⟩ : ∃ p, ndPg 0 1 nx L = p := ⟨_, rfl⟩
  have hpg : stPg S id = p := hpage.trans hp
  have hcells : ∀ x ∈ L, x.ok := hnode.cells
  have HFi := Lib.hid (fun w' => nfind_any 0 1 nx L h6 hcells key w')
  have hth := find_there (key := key) hnode.2.1
  rw [hp] at HFi
  rw [hlf]
  simp only [hpg]
  have HLF := Lib.hid hlf
  have HNX := Lib.hid hnx
  have HP := Lib.hid hp
  have HTh := Lib.hid hth
  have HSet := Lib.hid hset
  have HNode := Lib.hid hnode
  have T5 := Lib.hid ((T4.out.after hb5).alloc (.cells p.cs 112))
  have U5 := Lib.hid ((rowAt_past w5 (.cells p.cs 112) w.heap.size (by omega)).trans ((rowAt_below hb5 (by omega)).trans U4.out))
  have B5 := Lib.hid ((B4.out.trans (hb5.mono (by omega))).alloc (by omega) (.cells p.cs 112))
  have P5 := rowAt_at w5 p.cs 112 _ rfl
  have P5' := Lib.hid P5
  have hs5 : (w5.alloc (.cells p.cs 112)).heap.size = w5.heap.size + 1 := World.size_alloc ..
  clear hset hlf hnx hpg hp hcells hth hb5 hnode hpage
  go_wp2_with fail
  generalize hW5 : w5.alloc (.cells p.cs 112) = W5 at *
  generalize hP5 : w5.heap.size = P at *
  refine (HFi.out _).mono ?_; rintro e w6 ⟨rfl, hb6⟩
  have hz6 := hb6.size
  have T6 := Lib.hid (T5.out.after hb6)
  have U6 := Lib.hid ((rowAt_below hb6 (by omega)).trans U5.out)
  have P6 := Lib.hid ((rowAt_below hb6 (by omega)).trans P5'.out)
  have B6 := Lib.hid (B5.out.trans (hb6.mono (by omega)))
  have r7 : row7 (rowAt w6 w.heap.size) = true := by rw [U6.out]; rfl
  have RF := rowAt_setRow w6 _ _ Un.zero.cs U6.out
  have hg := grown_of_below B6.out (some mb)
  have HW := Lib.hid (below_setRow (Below.refl w.heap.size w6) Un.zero.cs (Nat.le_refl _))
  clear hb6 P5
  rcases HTh.out with ⟨hfb, hil, hik⟩ | ⟨hfb, hno⟩
  · rw [hfb]
    obtain ⟨i, hi'⟩ : ∃ i, (findL key L 0).1 = i := ⟨_, rfl⟩
    have hil' : i < L.length := by rw [← hi']; exact hil
    have hik' : L[i].key = key := by
      have := hik
      simp only [hi'] at this
      exact this
    rw [hi']
    have hi6 : i < 6 := by omega
    have hi0 : (0 : Int) ≤ (i : Int) := Int.natCast_nonneg _
    have hij : (i : Int) < 6 := by omega
    have hA := ((nd_a 0 1 nx L i hi6).trans (stL_get hil'))
    have hD := ((nd_d 0 1 nx L i hi6).trans (dL_get hil'))
    rw [HP.out] at hA hD
    obtain ⟨x, hx⟩ : ∃ x, L[i] = x := ⟨_, rfl⟩
    rw [hx] at hA hD hik'
    have hxm : x ∈ L := by rw [← hx]; exact List.getElem_mem hil'
    have hxl := HNode.out.2.2.1 rfl x hxm
    have cA := (cell_row P6.out (4 + i * 2)).trans (cs_a p i hi6)
    have cD := (cell_row P6.out (4 + i * 2 + 1)).trans (cs_d p i hi6)
    rw [hA] at cA
    rw [hD] at cD
    have HX := Lib.hid hx
    have HXl := Lib.hid hxl
    have hst := hxl.1
    clear hil hik hi' hA hD hx hxl
    rcases hst with hs1 | hs2
    · rw [hs1] at cA
      obtain ⟨hcl1, hck1⟩ := HCx.out x HXl.out hik'
      have hset := HSet.out x HXl.out hik'
      have hsa : setC (cx x) L = L.set i (cx x) := setC_at HNode.out.2.1 i hil' (by rw [HX.out, hck1, hik'])
      obtain ⟨q, hq⟩ : ∃ q, ndPg 0 1 nx (setC (cx x) L) = q := ⟨_, rfl⟩
      have HQ := Lib.hid hq
      have hokq : okPg q = true := by rw [← hq]; exact hset.ok
      have hqs : p.setC i (cx x).st (cx x).d = q := by rw [← hq, hsa, ← nd_set 0 1 nx L i hil' h6 (cx x), HP.out]
      obtain ⟨u, hu⟩ : ∃ u, unC key x = u := ⟨_, rfl⟩
      have hu2 : ({ kind := 2, store := 1, key := key, st := 1, d := x.d } : Un) = u := by
        rw [← hu]
        show Un.mk 2 1 0 0 key 1 x.d = Un.mk 2 1 0 0 key x.st x.d
        rw [hs1]
      have HU := Lib.hid hu
      have HU2 := Lib.hid hu2
      have P6' := (rowAt_past w6 (.cells u.cs 86) P (by omega)).trans P6.out
      have V6 := Lib.hid (rowAt_at w6 u.cs 86 _ rfl)
      have U6' := Lib.hid ((rowAt_past w6 (.cells u.cs 86) w.heap.size (by omega)).trans U6.out)
      have T6' := Lib.hid (T6.out.alloc (.cells u.cs 86))
      have B6' := Lib.hid (B6.out.alloc (by omega) (.cells u.cs 86))
      have hs6 : (w6.alloc (.cells u.cs 86)).heap.size = w6.heap.size + 1 := World.size_alloc ..
      have cA' := (cell_row P6' (4 + i * 2)).trans ((cs_a p i hi6).trans (by rw [← HP.out, nd_a 0 1 nx L i hi6, stL_get hil', HX.out, hs1]))
      have cD' := (cell_row P6' (4 + i * 2 + 1)).trans ((cs_d p i hi6).trans (by rw [← HP.out, nd_d 0 1 nx L i hi6, dL_get hil', HX.out]))
      have HC1 := Lib.hid (HCl.out x HXl.out hik' hs1 _ B6'.out)
      have HP6 := Lib.hid P6'
      obtain ⟨nst, hnst⟩ : ∃ nst, (cx x).st = nst := ⟨_, rfl⟩
      obtain ⟨nd, hnd⟩ : ∃ nd, (cx x).d = nd := ⟨_, rfl⟩
      obtain ⟨xd, hxd⟩ : ∃ xd, x.d = xd := ⟨_, rfl⟩
      rw [hnst, hnd] at HC1 hqs
      rw [hxd] at cD cD' HC1 HU2
      rw [← HU2.out] at P6' V6 U6' T6' B6' hs6 HC1 HP6 cA' cD'
      clear hnst hnd hset hcl1 hck1 hsa hq hu hu2 P6'
      go_wp2_with fail
      rw [HU2.out] at V6 U6' T6' B6' hs6 HC1 HP6 ⊢
      generalize hW6 : w6.alloc (.cells u.cs 86) = W6 at *
      generalize hV6 : w6.heap.size = V at *
      clear cA cD cA' cD'
      refine HC1.out.mono ?_; rintro e w7 ⟨rfl, hb7⟩
      have hz7 := hb7.size
      have T7 := Lib.hid (T6'.out.after hb7)
      have B7 := Lib.hid (B6'.out.trans (hb7.mono (by omega)))
      have P7 := (rowAt_below hb7 (by omega)).trans HP6.out
      have V7 := (rowAt_below hb7 (by omega)).trans V6.out
      have U7 := (rowAt_below hb7 (by omega)).trans U6'.out
      have fA := frozen_row P7 (4 + i * 2)
      have fD := frozen_row P7 (4 + i * 2 + 1)
      have zA := (cell_row P7 (4 + i * 2)).trans (cs_a p i hi6)
      have zD := (cell_row P7 (4 + i * 2 + 1)).trans (cs_d p i hi6)
      have R8 := rowAt_setCell_here _ _ (4 + i * 2 + 1) (.string nd) _ (rowAt_setCell_here _ _ (4 + i * 2) (.int .i64 nst) _ P7)
      rw [cs_setC p i hi6, hqs] at R8
      have far8 : ∀ k, k ≠ P → rowAt ((w7.setCell ⟨P, 4 + i * 2, none⟩ (.int .i64 nst)).setCell ⟨P, 4 + i * 2 + 1, none⟩ (.string nd)) k = rowAt w7 k := fun k hk => (rowAt_setCell_far _ _ _ k (by simpa using Ne.symm hk)).trans (rowAt_setCell_far _ _ _ k (by simpa using Ne.symm hk))
      have V8 := Lib.hid ((far8 V (by omega)).trans V7)
      have U8 := Lib.hid ((far8 w.heap.size (by omega)).trans U7)
      have R8h := Lib.hid R8
      have T8 := Lib.hid ((T7.out.cell ⟨P, 4 + i * 2, none⟩ (.int .i64 nst) (by show _ ≤ P; omega)).cell ⟨P, 4 + i * 2 + 1, none⟩ (.string nd) (by show _ ≤ P; omega))
      have B8 := Lib.hid (below_setCell (below_setCell B7.out ⟨P, 4 + i * 2, none⟩ (.int .i64 nst) (by show w.heap.size ≤ P; omega)) ⟨P, 4 + i * 2 + 1, none⟩ (.string nd) (by show w.heap.size ≤ P; omega))
      have hz8 : ((w7.setCell ⟨P, 4 + i * 2, none⟩ (.int .i64 nst)).setCell ⟨P, 4 + i * 2 + 1, none⟩ (.string nd)).heap.size = w7.heap.size := by simp only [World.size_setCell]
      clear far8 hb7 V7 U7 R8 P7
      go_wp2_with fail
      generalize (w7.setCell ⟨P, 4 + i * 2, none⟩ (.int .i64 nst)).setCell ⟨P, 4 + i * 2 + 1, none⟩ (.string nd) = W8 at *
      clear fA fD zA zD
      have V8d : rowAt W8.drew V = some u.cs := V8.out
      have R8d : rowAt W8.drew P = some q.cs := R8h.out
      have HSt := Lib.hid (set_pm T8.out.drew.p id q hokq (by omega) (by omega))
      have hmb := T8.out.lt
      have hgg := grown_of_below B8.out.drew (some mb)
      go_region_held3 (fun W => rowAt W V = some u.cs ∧ rowAt W P = some q.cs)
        (first
          | exact ⟨V8d, R8d⟩
          | exact ⟨V9, R9⟩
          | exact ⟨(rowAt_setRow_far _ _ _ _ (by omega)).trans V9, (rowAt_setRow_far _ _ _ _ (by omega)).trans R9⟩)
        (first
          | (go_at_call 59; refine HSt.out.mono ?_; rintro e w9 ⟨rfl, hg9, hp9⟩; have T9 := Lib.hid (T8.out.drew.grown hg9 hp9); have V9 := (rowAt_grown hg9 (n := V) (by show _ < W8.heap.size; omega) (by omega)).trans V8d; have R9 := (rowAt_grown hg9 (n := P) (by show _ < W8.heap.size; omega) (by omega)).trans R8d; have U9 := (rowAt_grown hg9 (n := w.heap.size) (by show _ < W8.heap.size; omega) (by omega)).trans U8.out; have r7 : row7 (rowAt w9 w.heap.size) = true := (by rw [U9]; rfl)))
      all_goals
        have RF := rowAt_setRow w9 _ _ u.cs U9
        have HW := Lib.hid (below_setRow (Below.refl w.heap.size w9) u.cs (Nat.le_refl _))
        have hg2 := hgg.trans hg9
        clear hg9 hp9 V9 R9 V8d R8d
        go_wp2_with fail
        refine ret_un rfl rfl w.heap.size u rfl RF ⟨u, 0, _, rfl, grown_below hg2 HW.out (Nat.le_refl _), T9.out.p.stage.below HW.out hslt, .inr ⟨x, ?_, hik', hs1, rfl, HU.out.symm, ?_⟩⟩
        · rw [HLF.out]; exact hxm
        · rw [HLF.out, HNX.out, HQ.out]
    · rw [hs2] at cA
      go_wp2_with fail
      refine ret_un rfl rfl w.heap.size Un.zero rfl RF ⟨Un.zero, 150, S, rfl, grown_below hg HW.out (Nat.le_refl _), T6.out.p.stage.below HW.out hslt, .inl ⟨rfl, rfl, rfl, fun y hy hyk => ?_⟩⟩
      rw [HLF.out] at hy
      have : y = x := by
        obtain ⟨j, hj, e⟩ := List.mem_iff_getElem.1 hy
        have hr := HNode.out.2.1
        by_cases hij' : i = j
        · subst hij'; rw [← e, ← HX.out]
        · exfalso
          have hkk : L[i].key = L[j].key := by rw [HX.out, hik', e, hyk]
          rcases Nat.lt_or_gt_of_ne hij' with hlt | hlt
          · exact (List.pairwise_iff_getElem.1 hr i j hil' hj hlt).ne hkk
          · exact (List.pairwise_iff_getElem.1 hr j i hj hil' hlt).ne hkk.symm
      rw [this, hs2]; decide
  · rw [hfb]
    go_wp2_with fail
    refine ret_un rfl rfl w.heap.size Un.zero rfl RF ⟨Un.zero, 150, S, rfl, grown_below hg HW.out (Nat.le_refl _), T6.out.p.stage.below HW.out hslt, .inl ⟨rfl, rfl, rfl, fun y hy hyk => ?_⟩⟩
    rw [HLF.out] at hy
    exact absurd hyk (hno y hy)
end

/-!
  Layer 16 (tree): Cut, Set; what is refused.
-/
section
open Go.RowKit Go.Joins
set_option linter.unusedVariables false
set_option linter.unusedSimpArgs false

theorem cfCut (args : Array Value) (w : World) : (callFunc 87 args).run Try.prog w = .ok (.enter 87 args) w := by kernel_rfl
theorem cfSet (args : Array Value) (w : World) : (callFunc 92 args).run Try.prog w = .ok (.enter 92 args) w := by kernel_rfl
theorem infoCell16 : (Try.prog.info? 84).map (·.size) = some 2 := by kernel_rfl
theorem ret_cell16 {fn : Func} {R : Ending → World → Prop} {a : Act} {w : World} {pt : Tmp} (h : fn.results = #[.cell pt 84]) (hd : a.defers = []) (n : Nat) (c : Array Value) (hc : c.size = 2) (hp : a.tmps.getD pt undef = .pointer (some ⟨n, 0, none⟩)) (hr : rowAt w n = some c)
    (hR : R (.returned (.agg c)) w) : bodyPost Try.prog fn R .ret a w := by
  obtain ⟨t, ht⟩ := rowAt_heap hr
  exact bodyPost_ret (results_cell_row h a.tmps w n t c (0, 0) _ hp ht Try.underlying84 rfl (by rw [infoCell16, hc])) hd hR
set_option maxHeartbeats 2000000 in
theorem cut_clo (a : Int) (x : ByteArray) (w : World) :
    Calls Try.prog 87 #[.agg #[.int .i64 a, .string x]] w fun e w' => e = .returned (.agg #[.int .i64 2, .string x]) ∧ Below w.heap.size w w' := by
  go_enter Try.func87, Try.ntmps87
  go_wp2_with fail
  exact ret_cell16 rfl rfl (w.heap.size + 1) #[.int .i64 2, .string x] rfl rfl (rowAt_at _ _ _ _ (by simp)) ⟨rfl, ((Below.refl _ _).alloc (Nat.le_refl _) _).alloc (by simp) _⟩
set_option maxHeartbeats 4000000 in
set_option maxRecDepth 100000 in
theorem set_clo (a : Int) (x key val : ByteArray) (hk : KeyOk key) (hv : val.size ≤ 20) (c e : Nat) (w : World) (k1 : w.heap[c]? = some (.cells #[.string key] 9)) (k2 : w.heap[e]? = some (.cells #[.string val] 9)) :
    Calls Try.prog 92 #[.agg #[.int .i64 a, .string x], .pointer (some ⟨c, 0, none⟩), .pointer (some ⟨e, 0, none⟩)] w fun r w' => r = .returned (.agg #[.int .i64 1, .string (tx key ++ val)]) ∧ Below w.heap.size w w' := by
  have HL := Lib.hid (fun w' => nleaf_ok key val 1 hk.1 hk.2 hv (.inl rfl) w')
  have l1 := (Array.getElem?_eq_some_iff.1 k1).1
  have l2 := (Array.getElem?_eq_some_iff.1 k2).1
  have c1 := (cell_of_block k1 0).trans rfl
  have c2 := (cell_of_block k2 0).trans rfl
  generalize tx key ++ val = dd at *
  clear hk
  go_enter Try.func92, Try.ntmps92
  go_wp2_with fail
  refine (HL.out _).mono ?_; rintro r w1 ⟨rfl, hb1⟩
  have hz1 := hb1.size
  simp only [World.size_alloc] at hz1
  have R4 := (rowAt_past w1 (.cells #[.int .i64 1, .string dd] 84) (w.heap.size + 1) (by omega)).trans ((rowAt_below hb1 (n := w.heap.size + 1) (by go_size)).trans (rowAt_at (w.alloc (.cells #[.int .i64 a, .string x] 84)) #[.int .i64 0, .string ⟨#[]⟩] 84 _ (by go_size)))
  have R5 := rowAt_at w1 #[.int .i64 1, .string dd] 84 _ rfl
  have B1 : Hid (Below w.heap.size w (w1.alloc (.cells #[.int .i64 1, .string dd] 84))) := Lib.hid (((((Below.refl _ _).alloc (Nat.le_refl _) _).alloc (by go_size) _).trans (hb1.mono (by go_size))).alloc (by omega) _)
  have x0 := cell_row R5 0
  have x1 := cell_row R5 1
  have y0 := cell_row R4 0
  have y1 := cell_row R4 1
  have f0 := frozen_row R4 0
  have f1 := frozen_row R4 1
  simp only [List.getElem?_toArray, List.getElem?_cons_succ, List.getElem?_cons_zero] at x0 x1 y0 y1
  have RF := Lib.hid (rowAt_setCell_here _ _ 1 (.string dd) _ (rowAt_setCell_here _ _ 0 (.int .i64 1) _ R4))
  have BF := Lib.hid (below_setCell (below_setCell B1.out ⟨w.heap.size + 1, 0, none⟩ (.int .i64 1) (by show _ ≤ w.heap.size + 1; omega)) ⟨w.heap.size + 1, 1, none⟩ (.string dd) (by show _ ≤ w.heap.size + 1; omega))
  clear hb1 R4 R5 c1 c2
  go_wp2_with fail
  exact ret_cell16 rfl rfl (w.heap.size + 1) #[.int .i64 1, .string dd] rfl rfl RF.out ⟨rfl, BF.out⟩
set_option maxHeartbeats 4000000 in
set_option maxRecDepth 100000 in
theorem nleaf_bad (k v : ByteArray) (h : ¬ (KeyOk k ∧ v.size ≤ 20)) (w : World) :
    Calls Try.prog 78 #[.string k, .string v, .int .i64 1] w fun e w' => e = .returned (.tuple #[.agg #[.int .i64 0, .string ⟨#[]⟩], .int .i64 1]) ∧ Below w.heap.size w w' := by
  have R0 := rowAt_at w #[.int .i64 0, .string ⟨#[]⟩] 84 _ rfl
  by_cases h0 : k = ByteArray.empty
  · subst h0
    clear h
    go_enter Try.func78, Try.ntmps78
    go_wp2_with fail
    exact ret_cell1 rfl rfl w.heap.size _ ⟨#[]⟩ rfl R0 ⟨rfl, (Below.refl _ _).alloc (Nat.le_refl _) _⟩
  · have h3 := sem_f h0
    by_cases h8 : k.size ≤ 8
    · have h1 : decide ((8 : Int) < (k.size : Int)) = false := by simp; omega
      have h20 : ¬ v.size ≤ 20 := fun e => h ⟨⟨h0, h8⟩, e⟩
      have h2 : decide ((20 : Int) < (v.size : Int)) = true := by simp; omega
      clear h
      go_enter Try.func78, Try.ntmps78
      go_wp2_with fail
      exact ret_cell1 rfl rfl w.heap.size _ ⟨#[]⟩ rfl R0 ⟨rfl, (Below.refl _ _).alloc (Nat.le_refl _) _⟩
    · have h1 : decide ((8 : Int) < (k.size : Int)) = true := by simp; omega
      clear h
      go_enter Try.func78, Try.ntmps78
      go_wp2_with fail
      exact ret_cell1 rfl rfl w.heap.size _ ⟨#[]⟩ rfl R0 ⟨rfl, (Below.refl _ _).alloc (Nat.le_refl _) _⟩
set_option maxHeartbeats 4000000 in
set_option maxRecDepth 100000 in
theorem tput_bad (b : Value) (st : Int) (key val : ByteArray) (h : ¬ (KeyOk key ∧ val.size ≤ 20)) (kv : Value) (w : World) :
    Calls Try.prog 47 #[b, .int .i64 st, .string key, .string val, kv] w fun e w' => e = .returned (.tuple #[Un.zero.v, .int .i64 (if KeyOk key then 2 else 1)]) ∧ Below w.heap.size w w' := by
  have HL := Lib.hid (fun w' => nleaf_bad key val h w')
  have R0 : rowAt (w.alloc (.cells Un.zero.cs 86)) w.heap.size = some Un.zero.cs := rowAt_at w Un.zero.cs 86 _ rfl
  have key3 : ∀ (er : Int), (if KeyOk key then (2 : Int) else 1) = er → er = if KeyOk key then 2 else 1 := fun _ e => e.symm
  obtain ⟨er, her⟩ : ∃ er : Int, (if KeyOk key then (2 : Int) else 1) = er := ⟨_, rfl⟩
  rw [her]
  have HEr := Lib.hid her
  clear h key3 her
  go_enter Try.func47, Try.ntmps47
  go_wp2_with fail
  refine (HL.out _).mono ?_; rintro e w1 ⟨rfl, hb1⟩
  have hz1 := hb1.size
  simp only [World.size_alloc] at hz1
  have R1 := (rowAt_past w1 (.cells #[.int .i64 0, .string ⟨#[]⟩] 84) w.heap.size (by omega)).trans ((rowAt_below hb1 (n := w.heap.size) (by go_size)).trans R0)
  have B1 : Hid (Below w.heap.size w (w1.alloc (.cells #[.int .i64 0, .string ⟨#[]⟩] 84))) := Lib.hid ((((Below.refl _ _).alloc (Nat.le_refl _) _).trans (hb1.mono (by go_size))).alloc (by omega) _)
  have RF := rowAt_setRow _ _ _ Un.zero.cs R1
  have r7 : row7 (rowAt (w1.alloc (.cells #[.int .i64 0, .string ⟨#[]⟩] 84)) w.heap.size) = true := by rw [R1]; rfl
  have BF := Lib.hid (below_setRow B1.out Un.zero.cs (Nat.le_refl w.heap.size))
  clear hb1 R0
  by_cases h0 : key = ByteArray.empty
  · have hk : ¬ KeyOk key := fun hk => hk.1 h0
    have he := HEr.out
    rw [if_neg hk] at he
    subst he
    subst h0
    clear hk
    go_wp2_with fail
    exact ret_un rfl rfl w.heap.size Un.zero rfl RF ⟨rfl, BF.out⟩
  · have h3 := sem_f h0
    by_cases h8 : key.size ≤ 8
    · have hk : KeyOk key := ⟨h0, h8⟩
      have he := HEr.out
      rw [if_pos hk] at he
      subst he
      have h1 : decide ((key.size : Int) ≤ 8) = true := by simp; omega
      clear hk
      go_wp2_with fail
      exact ret_un rfl rfl w.heap.size Un.zero rfl RF ⟨rfl, BF.out⟩
    · have hk : ¬ KeyOk key := fun hk => h8 hk.2
      have he := HEr.out
      rw [if_neg hk] at he
      subst he
      have h1 : decide ((key.size : Int) ≤ 8) = false := by simp; omega
      clear hk
      go_wp2_with fail
      exact ret_un rfl rfl w.heap.size Un.zero rfl RF ⟨rfl, BF.out⟩
end

/-!
  Layer 16 (tree): Cut and Set.
-/
section
open Go.RowKit Go.Joins
set_option linter.unusedVariables false
set_option linter.unusedSimpArgs false

def cutOf (key : ByteArray) (x : NC) : NC := ⟨key, 2, x.rest⟩
def setOf (key val : ByteArray) (x : NC) : NC := ⟨key, 1, val⟩
set_option maxHeartbeats 4000000 in
set_option maxRecDepth 100000 in
theorem tcut_any {S : Vol} {d m : Pg} {nn : Nat} {kd : Int} {N : Nat} {T : Tr N} (h : IdxOk S d m nn kd N T) (key : ByteArray) (hk : KeyOk key) (b mb hb pb : Nat) (w : World) (hs : StageAt w b mb hb pb S) :
    Calls Try.prog 48 #[.pointer (some ⟨b, 0, none⟩), .int .i64 1, .string key] w fun e w' => ∃ u er S', e = .returned (.tuple #[u.v, .int .i64 er]) ∧ w.grownBy w' (some mb) ∧ StageAt w' b mb hb pb S' ∧ ChOut N T key (cutOf key) S u er S' := by
  have hl := hs.lt
  have R9 : rowAt (w.alloc (.cells Un.zero.cs 86)) w.heap.size = some Un.zero.cs := rowAt_at _ _ _ _ rfl
  have B2 : Below w.heap.size w (w.alloc (.cells Un.zero.cs 86)) := (Below.refl _ _).alloc (Nat.le_refl _) _
  have HC := Lib.hid (tchange_any h key hk 87 #[] cfCut (cutOf key) (fun x hx _ => ⟨⟨.inr rfl, hk.1, hk.2, hx.2.2.2⟩, rfl⟩) b mb hb pb _ (hs.below B2 hl)
    (fun x hx hxk _ w' _ => by
      have e : (cutOf key x).d = x.d := by unfold cutOf NC.d; simp only; rw [hxk]
      rw [e]
      exact cut_clo 1 x.d w'))
  have HB2 := Lib.hid B2
  clear h hs hk B2
  go_enter Try.func48, Try.ntmps48
  go_wp2_with fail
  refine HC.out.mono ?_; rintro e w3 ⟨u, er, S', rfl, hg3, hs3, hch⟩
  have hz3 := hg3.size
  simp only [World.size_alloc] at hz3
  have R3 := (rowAt_grown hg3 (n := w.heap.size) (by go_size) (by omega)).trans R9
  have r7 : row7 (rowAt w3 w.heap.size) = true := by rw [R3]; rfl
  have RF := rowAt_setRow w3 w.heap.size _ u.cs R3
  have HW := Lib.hid (below_setRow (Below.refl w.heap.size w3) u.cs (Nat.le_refl _))
  have HG := Lib.hid ((grown_of_below HB2.out (some mb)).trans hg3)
  have HS := Lib.hid (hs3.below HW.out hl)
  have HCh := Lib.hid hch
  clear hg3 hs3 R9 hch
  go_wp2_with fail
  exact ret_un rfl rfl w.heap.size u rfl RF ⟨u, er, S', rfl, grown_below HG.out HW.out (Nat.le_refl _), HS.out, HCh.out⟩
set_option maxHeartbeats 4000000 in
set_option maxRecDepth 100000 in
theorem tcut_bad (b : Value) (st : Int) (key : ByteArray) (hk : ¬ KeyOk key) (w : World) :
    Calls Try.prog 48 #[b, .int .i64 st, .string key] w fun e w' => e = .returned (.tuple #[Un.zero.v, .int .i64 1]) ∧ Below w.heap.size w w' := by
  have R9 : rowAt (w.alloc (.cells Un.zero.cs 86)) w.heap.size = some Un.zero.cs := rowAt_at _ _ _ _ rfl
  have B2 : Below w.heap.size w (w.alloc (.cells Un.zero.cs 86)) := (Below.refl _ _).alloc (Nat.le_refl _) _
  have HC := Lib.hid (fun fv w' => change_wrong b st key hk fv w')
  have HB2 := Lib.hid B2
  clear hk B2
  go_enter Try.func48, Try.ntmps48
  go_wp2_with fail
  refine (HC.out _ _).mono ?_; rintro e w3 ⟨rfl, hb3⟩
  have hz3 := hb3.size
  simp only [World.size_alloc] at hz3
  have R3 := (rowAt_below hb3 (n := w.heap.size) (by go_size)).trans R9
  have r7 : row7 (rowAt w3 w.heap.size) = true := by rw [R3]; rfl
  have RF := rowAt_setRow w3 w.heap.size _ Un.zero.cs R3
  have HW := Lib.hid (below_setRow (HB2.out.trans (hb3.mono (by go_size))) Un.zero.cs (Nat.le_refl w.heap.size))
  clear hb3 R9
  go_wp2_with fail
  exact ret_un rfl rfl w.heap.size Un.zero rfl RF ⟨rfl, HW.out⟩
set_option maxHeartbeats 4000000 in
set_option maxRecDepth 100000 in
theorem tset_any {S : Vol} {d m : Pg} {nn : Nat} {kd : Int} {N : Nat} {T : Tr N} (h : IdxOk S d m nn kd N T) (key val : ByteArray) (hk : KeyOk key) (hv : val.size ≤ 20) (b mb hb pb : Nat) (w : World) (hs : StageAt w b mb hb pb S) :
    Calls Try.prog 63 #[.pointer (some ⟨b, 0, none⟩), .int .i64 1, .string key, .string val] w fun e w' => ∃ u er S', e = .returned (.tuple #[u.v, .int .i64 er]) ∧ w.grownBy w' (some mb) ∧ StageAt w' b mb hb pb S' ∧ ChOut N T key (setOf key val) S u er S' := by
  have hl := hs.lt
  have k1 : (((w.alloc (.cells #[.string key] 9)).alloc (.cells #[.string val] 9)).alloc (.cells Un.zero.cs 86)).heap[w.heap.size]? = some (.cells #[.string key] 9) := (Below.heap_alloc _ _ _ (by go_size)).trans ((Below.heap_alloc _ _ _ (by go_size)).trans (heap_alloc_new _ _))
  have k2 : (((w.alloc (.cells #[.string key] 9)).alloc (.cells #[.string val] 9)).alloc (.cells Un.zero.cs 86)).heap[w.heap.size + 1]? = some (.cells #[.string val] 9) := by
    refine (Below.heap_alloc _ _ _ (by go_size)).trans ?_
    have := heap_alloc_new (w.alloc (.cells #[.string key] 9)) (.cells #[.string val] 9)
    simpa using this
  have c1 := (cell_of_block k1 0).trans rfl
  have c2 := (cell_of_block k2 0).trans rfl
  simp only [List.getElem?_toArray, List.getElem?_cons_succ, List.getElem?_cons_zero] at c1 c2
  have R9 : rowAt (((w.alloc (.cells #[.string key] 9)).alloc (.cells #[.string val] 9)).alloc (.cells Un.zero.cs 86)) (w.heap.size + 1 + 1) = some Un.zero.cs := rowAt_at _ _ _ _ (by go_size)
  have B2 : Below w.heap.size w (((w.alloc (.cells #[.string key] 9)).alloc (.cells #[.string val] 9)).alloc (.cells Un.zero.cs 86)) := (((Below.refl _ _).alloc (Nat.le_refl _) _).alloc (by go_size) _).alloc (by go_size) _
  have HC := Lib.hid (tchange_any h key hk 92 #[.pointer (some ⟨w.heap.size, 0, none⟩), .pointer (some ⟨w.heap.size + 1, 0, none⟩)] cfSet (setOf key val) (fun x hx _ => ⟨⟨.inl rfl, hk.1, hk.2, hv⟩, rfl⟩) b mb hb pb _ (hs.below B2 hl)
    (fun x hx hxk _ w' hb' => set_clo 1 x.d key val hk hv _ _ w' ((hb'.block _ (by go_size)).trans k1) ((hb'.block _ (by go_size)).trans k2)))
  have HB2 := Lib.hid B2
  have h20 : decide ((20 : Int) < (val.size : Int)) = false := by simp; omega
  clear h hs hk B2 k1 k2 hv
  go_enter Try.func63, Try.ntmps63
  go_wp2_with fail
  refine HC.out.mono ?_; rintro e w3 ⟨u, er, S', rfl, hg3, hs3, hch⟩
  have hz3 := hg3.size
  simp only [World.size_alloc] at hz3
  have R3 := (rowAt_grown hg3 (n := w.heap.size + 1 + 1) (by go_size) (by omega)).trans R9
  have r7 : row7 (rowAt w3 (w.heap.size + 1 + 1)) = true := by rw [R3]; rfl
  have RF := rowAt_setRow w3 (w.heap.size + 1 + 1) _ u.cs R3
  have HW := Lib.hid (below_setRow (Below.refl w.heap.size w3) u.cs (n := w.heap.size + 1 + 1) (by omega))
  have HG := Lib.hid ((grown_of_below HB2.out (some mb)).trans hg3)
  have HS := Lib.hid (hs3.below HW.out hl)
  have HCh := Lib.hid hch
  clear hg3 hs3 R9 hch c1 c2
  go_wp2_with fail
  exact ret_un rfl rfl (w.heap.size + 1 + 1) u rfl RF ⟨u, er, S', rfl, grown_below HG.out HW.out (Nat.le_refl _), HS.out, HCh.out⟩
set_option maxHeartbeats 4000000 in
set_option maxRecDepth 100000 in
theorem tset_bad (b : Value) (st : Int) (key val : ByteArray) (hk : ¬ (KeyOk key ∧ val.size ≤ 20)) (w : World) :
    Calls Try.prog 63 #[b, .int .i64 st, .string key, .string val] w fun e w' => e = .returned (.tuple #[Un.zero.v, .int .i64 (if KeyOk key then 2 else 1)]) ∧ Below w.heap.size w w' := by
  have k1 : (((w.alloc (.cells #[.string key] 9)).alloc (.cells #[.string val] 9)).alloc (.cells Un.zero.cs 86)).heap[w.heap.size]? = some (.cells #[.string key] 9) := (Below.heap_alloc _ _ _ (by go_size)).trans ((Below.heap_alloc _ _ _ (by go_size)).trans (heap_alloc_new _ _))
  have k2 : (((w.alloc (.cells #[.string key] 9)).alloc (.cells #[.string val] 9)).alloc (.cells Un.zero.cs 86)).heap[w.heap.size + 1]? = some (.cells #[.string val] 9) := by
    refine (Below.heap_alloc _ _ _ (by go_size)).trans ?_
    have := heap_alloc_new (w.alloc (.cells #[.string key] 9)) (.cells #[.string val] 9)
    simpa using this
  have c1 := (cell_of_block k1 0).trans rfl
  have c2 := (cell_of_block k2 0).trans rfl
  simp only [List.getElem?_toArray, List.getElem?_cons_succ, List.getElem?_cons_zero] at c1 c2
  have R9 : rowAt (((w.alloc (.cells #[.string key] 9)).alloc (.cells #[.string val] 9)).alloc (.cells Un.zero.cs 86)) (w.heap.size + 1 + 1) = some Un.zero.cs := rowAt_at _ _ _ _ (by go_size)
  have B2 : Below w.heap.size w (((w.alloc (.cells #[.string key] 9)).alloc (.cells #[.string val] 9)).alloc (.cells Un.zero.cs 86)) := (((Below.refl _ _).alloc (Nat.le_refl _) _).alloc (by go_size) _).alloc (by go_size) _
  have HB2 := Lib.hid B2
  have HWr := Lib.hid (fun w' => wrong_any key w')
  have r7 : row7 (rowAt (((w.alloc (.cells #[.string key] 9)).alloc (.cells #[.string val] 9)).alloc (.cells Un.zero.cs 86)) (w.heap.size + 1 + 1)) = true := by rw [R9]; rfl
  clear k1 k2 B2
  by_cases hk1 : KeyOk key
  · have hv : ¬ val.size ≤ 20 := fun e => hk ⟨hk1, e⟩
    have h20 : decide ((20 : Int) < (val.size : Int)) = true := by simp; omega
    have hk2 : (!decide (KeyOk key)) = false := by simp [hk1]
    rw [hk2] at HWr
    rw [if_pos hk1]
    have RF := rowAt_setRow _ _ _ Un.zero.cs R9
    have HW := Lib.hid (below_setRow HB2.out Un.zero.cs (n := w.heap.size + 1 + 1) (by omega))
    clear hk hk1 hk2 hv
    go_enter Try.func63, Try.ntmps63
    go_wp2_with fail
    refine (HWr.out _).mono ?_; rintro e w1 ⟨rfl, rfl⟩
    go_wp2_with fail
    first
      | exact ret_un rfl rfl (w.heap.size + 1 + 1) Un.zero rfl RF ⟨rfl, HW.out⟩
      | exact ret_un rfl rfl (w.heap.size + 1 + 1) Un.zero rfl R9 ⟨rfl, HB2.out⟩
  · have hk2 : (!decide (KeyOk key)) = true := by simp [hk1]
    rw [hk2] at HWr
    rw [if_neg hk1]
    have HC := Lib.hid (fun fv w' => change_wrong b st key hk1 fv w')
    clear hk hk1 hk2
    by_cases hv : val.size ≤ 20
    · have h20 : decide ((20 : Int) < (val.size : Int)) = false := by simp; omega
      go_enter Try.func63, Try.ntmps63
      go_wp2_with fail
      refine (HC.out _ _).mono ?_; rintro e w3 ⟨rfl, hb3⟩
      have hz3 := hb3.size
      simp only [World.size_alloc] at hz3
      have R3 := (rowAt_below hb3 (n := w.heap.size + 1 + 1) (by go_size)).trans R9
      have r7 : row7 (rowAt w3 (w.heap.size + 1 + 1)) = true := by rw [R3]; rfl
      have RF := rowAt_setRow w3 (w.heap.size + 1 + 1) _ Un.zero.cs R3
      have HW := Lib.hid (below_setRow (HB2.out.trans (hb3.mono (by go_size))) Un.zero.cs (n := w.heap.size + 1 + 1) (by omega))
      clear hb3 R9 c1 c2
      go_wp2_with fail
      exact ret_un rfl rfl (w.heap.size + 1 + 1) Un.zero rfl RF ⟨rfl, HW.out⟩
    · have h20 : decide ((20 : Int) < (val.size : Int)) = true := by simp; omega
      go_enter Try.func63, Try.ntmps63
      go_wp2_with fail
      refine (HWr.out _).mono ?_; rintro e w1 ⟨rfl, rfl⟩
      go_wp2_with fail
      refine (HC.out _ _).mono ?_; rintro e w3 ⟨rfl, hb3⟩
      have hz3 := hb3.size
      simp only [World.size_alloc] at hz3
      have R3 := (rowAt_below hb3 (n := w.heap.size + 1 + 1) (by go_size)).trans R9
      have r7 : row7 (rowAt w3 (w.heap.size + 1 + 1)) = true := by rw [R3]; rfl
      have RF := rowAt_setRow w3 (w.heap.size + 1 + 1) _ Un.zero.cs R3
      have HW := Lib.hid (below_setRow (HB2.out.trans (hb3.mono (by go_size))) Un.zero.cs (n := w.heap.size + 1 + 1) (by omega))
      clear hb3 R9 c1 c2
      go_wp2_with fail
      exact ret_un rfl rfl (w.heap.size + 1 + 1) Un.zero rfl RF ⟨rfl, HW.out⟩
end

/-!
  Layer 16 (tree): Restore.
-/
section
open Go.RowKit Go.Joins
set_option linter.unusedVariables false
set_option linter.unusedSimpArgs false

/-- an undo of a key -/
structure UnOk (u : Un) (c : NC → NC) : Prop where
  kind : u.kind = 2
  store : u.store = 1
  key : KeyOk u.key
  cell : (u.st = 0 ∧ c = cutOf u.key) ∨ (∃ y : NC, y.leaf ∧ y.key = u.key ∧ u.st = y.st ∧ u.d = y.d ∧ c = fun _ => y)
def ReOut (N : Nat) (T : Tr N) (key : ByteArray) (cx : NC → NC) (S : Vol) (er : Int) (S' : Vol) : Prop :=
  (er = 150 ∧ S' = S ∧ ∀ x ∈ (Tr.leaf key N T).2, x.key ≠ key) ∨
  (∃ x ∈ (Tr.leaf key N T).2, x.key = key ∧ er = 0 ∧ S' = S.put (Tr.leaf key N T).1 (ndPg 0 1 (stPg S (Tr.leaf key N T).1).n (setC (cx x) (Tr.leaf key N T).2)))

theorem setC_same (p : Pg) (i : Nat) (hi : i < 6) (a : Int) : p.setC i a (p.d i) = p.setA i a := by
  refine six (P := fun i => p.setC i a (p.d i) = p.setA i a) ?_ ?_ ?_ ?_ ?_ ?_ i hi <;> rfl
set_option maxHeartbeats 8000000 in
set_option maxRecDepth 100000 in
theorem trestore_any {S : Vol} {d m : Pg} {nn : Nat} {kd : Int} {N : Nat} {T : Tr N} (h : IdxOk S d m nn kd N T) (u : Un) (cx : NC → NC) (hu : UnOk u cx) (b mb hb pb : Nat) (w : World) (hs : StageAt w b mb hb pb S) :
    Calls Try.prog 52 #[.pointer (some ⟨b, 0, none⟩), u.v] w fun e w' => ∃ er S', e = .returned (.int .i64 er) ∧ w.grownBy w' (some mb) ∧ StageAt w' b mb hb pb S' ∧ ReOut N T u.key cx S er S' := by
  obtain ⟨key, hkey⟩ : ∃ key, u.key = key := ⟨_, rfl⟩
  have hcx : ∀ x : NC, x.leaf → x.key = key → (cx x).leaf ∧ (cx x).key = key := fun x hx hxk => by
    rcases hu.cell with ⟨-, rfl⟩ | ⟨y, hy, hyk, -, -, rfl⟩
    · rw [← hkey]; exact ⟨⟨.inr rfl, hu.key.1, hu.key.2, hx.2.2.2⟩, rfl⟩
    · exact ⟨hy, hyk.trans hkey⟩
  have HF := Lib.hid (fun w' hs' => h.find b mb hb pb w' hs')
  have HS := Lib.hid hs
  have H := Lib.hid h
  have HCx := Lib.hid hcx
  have hslt := hs.lt
  have hk : KeyOk key := hkey ▸ hu.key
  have HW := Lib.hid (fun w' => wrong_any key w')
  have hk2 : (!decide (KeyOk key)) = false := by simp [hk]
  rw [hk2] at HW
  have hk4 := h.kind
  have hcell := hu.cell
  have R0 := rowAt_at w u.cs 86 _ rfl
  have HR0 := Lib.hid R0
  have u0 := (cell_row R0 0).trans (show u.cs[0]? = some (.int .i64 2) by rw [← hu.kind]; rfl)
  have u1 := (cell_row R0 1).trans (show u.cs[1]? = some (.int .i64 1) by rw [← hu.store]; rfl)
  have u4 := (cell_row R0 4).trans (show u.cs[4]? = some (.string key) by rw [← hkey]; rfl)
  have HU := Lib.hid hu
  have HKey := Lib.hid hkey
  have B1 : Hid (Below w.heap.size w (w.alloc (.cells u.cs 86))) := Lib.hid ((Below.refl _ _).alloc (Nat.le_refl _) _)
  have hs1 : (w.alloc (.cells u.cs 86)).heap.size = w.heap.size + 1 := World.size_alloc ..
  rw [hkey]
  clear hs h hk hk2 hcx hu hkey R0
  go_enter Try.func52, Try.ntmps52
  go_wp2_with fail
  refine (HW.out _).mono ?_; rintro e w1 ⟨rfl, rfl⟩
  generalize hW1 : w.alloc (.cells u.cs 86) = W1 at *
  obtain ⟨root, hroot⟩ : ∃ root, Tr.id N T = root := ⟨_, rfl⟩
  have HRoot := Lib.hid hroot
  have HFi1 := Lib.hid (HF.out W1 (HS.out.below B1.out hslt))
  rw [hroot] at HFi1
  clear hroot
  rcases hk4 with rfl | rfl
  all_goals
    go_wp2_with fail
    refine HFi1.out.mono ?_; rintro e w2 ⟨rfl, hb2⟩
    have hz2 := hb2.size
    have B2 := Lib.hid (B1.out.trans (hb2.mono (by omega)))
    have R2 := Lib.hid ((rowAt_below hb2 (n := w.heap.size) (by omega)).trans HR0.out)
    have u1 := (hb2.cell (p := ⟨w.heap.size, 1, none⟩) (by show w.heap.size < _; omega)).trans u1
    have u4 := (hb2.cell (p := ⟨w.heap.size, 4, none⟩) (by show w.heap.size < _; omega)).trans u4
    have T4 : Hid (TS (w2.alloc (.cells #[.pointer (some ⟨b, 0, none⟩), .int .i64 1, .int .i64 root, .slice none 0 0] 159)) (w2.alloc (.cells #[.pointer (some ⟨b, 0, none⟩), .int .i64 1, .int .i64 root, .slice none 0 0] 159)) w2.heap.size b mb hb pb 1 root none 0 [] S) := Lib.hid (PM.ts ⟨HS.out.below (B2.out.alloc (by omega) _) hslt, heap_alloc_new _ _, ⟨by simp, .inl rfl⟩, by omega, fun a ha => by cases ha⟩)
    have R4 := Lib.hid ((rowAt_past w2 (.cells #[.pointer (some ⟨b, 0, none⟩), .int .i64 1, .int .i64 root, .slice none 0 0] 159) w.heap.size (by omega)).trans R2.out)
    have B4 := Lib.hid (B2.out.alloc (by omega) (.cells #[.pointer (some ⟨b, 0, none⟩), .int .i64 1, .int .i64 root, .slice none 0 0] 159))
    have hs4 : (w2.alloc (.cells #[.pointer (some ⟨b, 0, none⟩), .int .i64 1, .int .i64 root, .slice none 0 0] 159)).heap.size = w2.heap.size + 1 := World.size_alloc ..
    have u4' : (w2.alloc (.cells #[.pointer (some ⟨b, 0, none⟩), .int .i64 1, .int .i64 root, .slice none 0 0] 159)).cell? ⟨w.heap.size, 4, none⟩ = some (.string key) := (((Below.refl w2.heap.size w2).alloc (Nat.le_refl _) _).cell (p := ⟨w.heap.size, 4, none⟩) (by show w.heap.size < _; omega)).trans u4
    clear hb2
    go_wp2_with fail
    generalize hW4 : w2.alloc (.cells #[.pointer (some ⟨b, 0, none⟩), .int .i64 1, .int .i64 root, .slice none 0 0] 159) = W4 at *
    generalize hwb : w2.heap.size = wb at *
    have HLf := Lib.hid (leaf_any H.out.tree.tin b mb hb pb wb (.slice none 0 0) key)
    rw [HRoot.out] at HLf
    refine (HLf.out _ T4.out.p.stage T4.out.p.walk).mono ?_; rintro e w5 ⟨rfl, hb5⟩
    have hz5 := hb5.size
    obtain ⟨id, L, hlf⟩ : ∃ id L, Tr.leaf key N T = (id, L) := ⟨_, _, rfl⟩
    have hset : ∀ x : NC, x.leaf → x.key = key → ∃ kd, SetOk S d m nn kd N T (cx x) id (stPg S id).n L := fun x hx hxk => by
      obtain ⟨h1, h2⟩ := HCx.out x hx hxk
      have := setT_ok H.out h1
      rw [h2, hlf] at this
      exact ⟨_, this⟩
    obtain ⟨nx, hnx⟩ : ∃ nx, (stPg S id).n = nx := ⟨_, rfl⟩
    rw [hnx] at hset
    have hmem : (id, L) ∈ Tr.leaves N T := by
      obtain ⟨pre, post, h1, -⟩ := leaf_in H.out key
      rw [h1, hlf]; simp
    have hnode : NodeOk 0 L := (H.out.tree.leafOk _ hmem).1
    have hpage : stPg S id = ndPg 0 1 nx L := by
      obtain ⟨nx', -, h2⟩ := H.out.tree.tin.leaves _ hmem
      have h2 : stPg S id = ndPg 0 1 nx' L := h2
      rw [← hnx, h2]; rfl
    have h6 := hnode.1
    have hids := H.out.vol.map.hi
    have hidm := H.out.most id (leaf_ids hmem)
    obtain ⟨p, hp⟩ : ∃ p, ndPg 0 1 nx L = p := ⟨_, rfl⟩
    have hpg : stPg S id = p := hpage.trans hp
    have hcells : ∀ x ∈ L, x.ok := hnode.cells
    have HFi := Lib.hid (fun w' => nfind_any 0 1 nx L h6 hcells key w')
    have hth := find_there (key := key) hnode.2.1
    rw [hp] at HFi
    rw [hlf]
    simp only [hpg]
    have HLF := Lib.hid hlf
    have HNX := Lib.hid hnx
    have HP := Lib.hid hp
    have HTh := Lib.hid hth
    have HSet := Lib.hid hset
    have HNode := Lib.hid hnode
    have T5 := Lib.hid ((T4.out.after hb5).alloc (.cells p.cs 112))
    have R5 := Lib.hid ((rowAt_past w5 (.cells p.cs 112) w.heap.size (by omega)).trans ((rowAt_below hb5 (by omega)).trans R4.out))
    have B5 := Lib.hid ((B4.out.trans (hb5.mono (by omega))).alloc (by omega) (.cells p.cs 112))
    have P5 := rowAt_at w5 p.cs 112 _ rfl
    have P5' := Lib.hid P5
    have u5 := (cell_row R5.out 4).trans (show u.cs[4]? = some (.string key) by rw [← HKey.out]; rfl)
    have hs5 : (w5.alloc (.cells p.cs 112)).heap.size = w5.heap.size + 1 := World.size_alloc ..
    clear hset hlf hnx hpg hp hcells hth hb5 hnode hpage u1 u4 u4'
    go_wp2_with fail
    generalize hW5 : w5.alloc (.cells p.cs 112) = W5 at *
    generalize hP5 : w5.heap.size = P at *
    refine (HFi.out _).mono ?_; rintro e w6 ⟨rfl, hb6⟩
    have hz6 := hb6.size
    have T6 := Lib.hid (T5.out.after hb6)
    have R6 := Lib.hid ((rowAt_below hb6 (by omega)).trans R5.out)
    have P6 := Lib.hid ((rowAt_below hb6 (by omega)).trans P5'.out)
    have B6 := Lib.hid (B5.out.trans (hb6.mono (by omega)))
    have hg := grown_of_below B6.out (some mb)
    clear hb6 P5 u5
    rcases HTh.out with ⟨hfb, hil, hik⟩ | ⟨hfb, hno⟩
    · rw [hfb]
      obtain ⟨i, hi'⟩ : ∃ i, (findL key L 0).1 = i := ⟨_, rfl⟩
      have hil' : i < L.length := by rw [← hi']; exact hil
      have hik' : L[i].key = key := by
        have := hik
        simp only [hi'] at this
        exact this
      rw [hi']
      have hi6 : i < 6 := by omega
      have hi0 : (0 : Int) ≤ (i : Int) := Int.natCast_nonneg _
      have hij : (i : Int) < 6 := by omega
      obtain ⟨x, hx⟩ : ∃ x, L[i] = x := ⟨_, rfl⟩
      rw [hx] at hik'
      have hxm : x ∈ L := by rw [← hx]; exact List.getElem_mem hil'
      have hxl := HNode.out.2.2.1 rfl x hxm
      have hD := ((nd_d 0 1 nx L i hi6).trans (dL_get hil'))
      rw [HP.out, hx] at hD
      have hck1 := (HCx.out x hxl hik').2
      obtain ⟨kd', hset⟩ := HSet.out x hxl hik'
      have hsa : setC (cx x) L = L.set i (cx x) := setC_at HNode.out.2.1 i hil' (by rw [hx, hck1, hik'])
      obtain ⟨q, hq⟩ : ∃ q, ndPg 0 1 nx (setC (cx x) L) = q := ⟨_, rfl⟩
      have HQ := Lib.hid hq
      have hokq : okPg q = true := by rw [← hq]; exact hset.ok
      have hqs : p.setC i (cx x).st (cx x).d = q := by rw [← hq, hsa, ← nd_set 0 1 nx L i hil' h6 (cx x), HP.out]
      have fA := frozen_row P6.out (4 + i * 2)
      have fD := frozen_row P6.out (4 + i * 2 + 1)
      have zA := (cell_row P6.out (4 + i * 2)).trans (cs_a p i hi6)
      have zD := (cell_row P6.out (4 + i * 2 + 1)).trans (cs_d p i hi6)
      clear hil hik hi' hx hsa hq hset
      rcases HU.out.cell with ⟨hst0, rfl⟩ | ⟨y, hyl, hyk, hys, hyd, rfl⟩
      · have u5 := (cell_row R6.out 5).trans (show u.cs[5]? = some (.int .i64 0) by rw [← hst0]; rfl)
        have e1 : (cutOf u.key x).d = x.d := by unfold cutOf NC.d; simp only; rw [HKey.out, hik']
        have e2 : (cutOf u.key x).st = 2 := rfl
        rw [e1, e2, ← hD, setC_same p i hi6] at hqs
        have R8 := rowAt_setCell_here _ _ (4 + i * 2) (.int .i64 2) _ P6.out
        rw [cs_setA p i hi6, hqs] at R8
        have T8 := Lib.hid (T6.out.cell ⟨P, 4 + i * 2, none⟩ (.int .i64 2) (by show _ ≤ P; omega))
        have hg8 := grown_of_below (below_setCell B6.out ⟨P, 4 + i * 2, none⟩ (.int .i64 2) (by show w.heap.size ≤ P; omega)) (some mb)
        clear e1 e2 hst0 hD
        go_wp2_with fail
        have hnm := T6.out.lt
        generalize w6.setCell ⟨P, 4 + i * 2, none⟩ (.int .i64 2) = W8 at *
        have HSt := Lib.hid (set_pm T8.out.p id q hokq (by omega) (by omega))
        refine HSt.out.mono ?_; rintro e w9 ⟨rfl, hg9, hp9⟩
        have hg2 := hg8.trans hg9
        clear hg9
        go_wp2_with fail
        go_ret
        refine ⟨0, _, rfl, hg2, hp9.stage, .inr ⟨x, ?_, hik', rfl, ?_⟩⟩
        · rw [HLF.out]; exact hxm
        · rw [HLF.out, HNX.out, HQ.out]

      · have hy0 : (y.st == 0) = false := by
          rcases hyl.1 with e | e <;> rw [e] <;> rfl
        obtain ⟨ys, hys'⟩ : ∃ ys, y.st = ys := ⟨_, rfl⟩
        obtain ⟨yd, hyd'⟩ : ∃ yd, y.d = yd := ⟨_, rfl⟩
        have u5 := (cell_row R6.out 5).trans (show u.cs[5]? = some (.int .i64 ys) by rw [← hys', ← hys]; rfl)
        have u6 := (cell_row R6.out 6).trans (show u.cs[6]? = some (.string yd) by rw [← hyd', ← hyd]; rfl)
        simp only at hqs
        rw [hys'] at hy0
        rw [hys', hyd'] at hqs
        have R8 := rowAt_setCell_here _ _ (4 + i * 2 + 1) (.string yd) _ (rowAt_setCell_here _ _ (4 + i * 2) (.int .i64 ys) _ P6.out)
        rw [cs_setC p i hi6, hqs] at R8
        have T8 := Lib.hid ((T6.out.cell ⟨P, 4 + i * 2, none⟩ (.int .i64 ys) (by show _ ≤ P; omega)).cell ⟨P, 4 + i * 2 + 1, none⟩ (.string yd) (by show _ ≤ P; omega))
        have hg8 := grown_of_below (below_setCell (below_setCell B6.out ⟨P, 4 + i * 2, none⟩ (.int .i64 ys) (by show w.heap.size ≤ P; omega)) ⟨P, 4 + i * 2 + 1, none⟩ (.string yd) (by show w.heap.size ≤ P; omega)) (some mb)
        clear hys hyd hys' hyd' hyk hyl hD
        go_wp2_with fail
        have hnm := T6.out.lt
        generalize (w6.setCell ⟨P, 4 + i * 2, none⟩ (.int .i64 ys)).setCell ⟨P, 4 + i * 2 + 1, none⟩ (.string yd) = W8 at *
        have HSt := Lib.hid (set_pm T8.out.p id q hokq (by omega) (by omega))
        refine HSt.out.mono ?_; rintro e w9 ⟨rfl, hg9, hp9⟩
        have hg2 := hg8.trans hg9
        clear hg9
        go_wp2_with fail
        go_ret
        refine ⟨0, _, rfl, hg2, hp9.stage, .inr ⟨x, ?_, hik', rfl, ?_⟩⟩
        · rw [HLF.out]; exact hxm
        · rw [HLF.out, HNX.out, HQ.out]

    · rw [hfb]
      go_wp2_with fail
      go_ret
      refine ⟨150, S, rfl, hg, T6.out.p.stage, .inl ⟨rfl, rfl, ?_⟩⟩
      rw [HLF.out]; exact hno
end
end Go.Proofs.Ytljommhbhpappaa
