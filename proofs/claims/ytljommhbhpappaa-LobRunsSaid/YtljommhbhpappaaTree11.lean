/-
  Layer 16 (tree): Put.
-/
import Derived.Test.YtljommhbhpappaaPkUndo
namespace Go.Proofs.Ytljommhbhpappaa
open Go.RowKit Go.Joins
set_option linter.unusedVariables false
set_option linter.unusedSimpArgs false

abbrev unK (key : ByteArray) : Un := { kind := 2, store := 1, key := key }
abbrev unC (key : ByteArray) (x : NC) : Un := { kind := 2, store := 1, key := key, st := x.st, d := x.d }
def PutNew (nn N : Nat) (T : Tr N) (c : NC) (kp : List ByteArray) (S : Vol) (m : Pg) (u : Un) (er : Int) (S' : Vol) : Prop :=
  match putV 1 nn kp c N T S m with
  | (.bad, S1, _) => er = 140 ∧ u = Un.zero ∧ S' = S1
  | (.one _, S1, _) => er = 0 ∧ u = unK c.key ∧ S' = S1
  | (.two a sep b, S1, m1) => match growV 1 nn (Tr.id N T) a sep b S1 m1 with
    | none => er = 140 ∧ u = Un.zero ∧ S' = S1
    | some (_, S2, _) => er = 0 ∧ u = unK c.key ∧ S' = S2
def PutOut (nn N : Nat) (T : Tr N) (c : NC) (kp : List ByteArray) (S : Vol) (m : Pg) (u : Un) (er : Int) (S' : Vol) : Prop :=
  (er = 160 ∧ u = Un.zero ∧ S' = S ∧ ∃ x ∈ (Tr.leaf c.key N T).2, x.key = c.key ∧ x.st = 1) ∨
  (∃ x ∈ (Tr.leaf c.key N T).2, x.key = c.key ∧ x.st = 2 ∧ er = 0 ∧ u = unC c.key x ∧ S' = S.put (Tr.leaf c.key N T).1 (ndPg 0 1 (stPg S (Tr.leaf c.key N T).1).n (setC c (Tr.leaf c.key N T).2))) ∨
  ((∀ x ∈ (Tr.leaf c.key N T).2, x.key ≠ c.key) ∧ PutNew nn N T c kp S m u er S')

theorem wrapN {N : Nat} (h : N ≤ 9) : wrap64 ((N : Int) + 1) = ((N + 1 : Nat) : Int) ∧ IntKind.i64.wrap ((N : Int) + 1) = ((N + 1 : Nat) : Int) := by
  constructor
  · unfold wrap64; omega
  · rw [IntKind.wrap_i64]; omega
theorem grow_pre {S S1 : Vol} {d m m1 : Pg} {nn : Nat} {kd : Int} {N : Nat} {T a b : Tr N} {sep : ByteArray} {c : NC} {kp : List ByteArray} (h : IdxOk S d m nn kd N T) (hp : Post S m S1 m1 d nn 1 N T [a, b] c kp) (hid : Tr.id N a = Tr.id N T)
    (hlt : KLt ByteArray.empty sep) (hs8 : sep.size ≤ 8) :
    okPg (stPg S1 (Tr.id N T)) = true ∧ (stPg S1 (Tr.id N T)).l = (N : Int) ∧ stE S1 (Tr.id N T) = 0 ∧ (1 ≤ Tr.id N b ∧ Tr.id N b < 1024) ∧
      ∀ r S2 m2, takeV nn S1 m1 = some (r, S2, m2) → 1 ≤ r ∧ okPg (ndPg ((N + 1 : Nat) : Int) 1 0 [⟨ByteArray.empty, 1, le4 r⟩, ⟨sep, 1, le4 (Tr.id N b)⟩]) = true := by
  have hN := h.few
  have hnn := h.vol.map.hi
  have hta := hp.tin a (List.mem_cons_self ..)
  have htb := hp.tin b (List.mem_cons_of_mem _ (List.mem_cons_self ..))
  have hib := htb.ids _ (id_mem N b)
  have hia := hta.ids _ (id_mem N a)
  obtain ⟨nx, hnx, hpp⟩ : ∃ nx, (0 ≤ nx ∧ nx < 1024) ∧ stPg S1 (Tr.id N a) = ndPg (N : Int) 1 nx (Tr.cells N a) := by
    cases N with
    | zero =>
      obtain ⟨nx, h1, h2⟩ := hta.leaves (a.1, a.2) (List.mem_cons_self ..)
      exact ⟨nx, h1, h2⟩
    | succ n => exact ⟨0, by omega, hta.inner.1⟩
  rw [← hid]
  refine ⟨by rw [hpp]; exact nd_okPg hta.good.node hta.low (by omega) hnx, by rw [hpp]; rfl, hia.1, hib.2, fun r S2 m2 ht => ?_⟩
  obtain ⟨-, -, hr2, hrn, -⟩ := takeV_some hp.vol ht
  have hkk : kidC [(ByteArray.empty, moveT N a r), (sep, b)] = [⟨ByteArray.empty, 1, le4 r⟩, ⟨sep, 1, le4 (Tr.id N b)⟩] := by simp [kidC, moveT_id]
  have hno : NodeOk (N + 1) (kidC [(ByteArray.empty, moveT N a r), (sep, b)]) := by
    refine node_kids (by simp) (by simp) rfl (List.pairwise_cons.2 ⟨fun z hz => ?_, by simp⟩) (fun y hy => ?_)
    · obtain rfl : z = (sep, b) := by simpa using hz
      exact hlt
    · rcases List.mem_cons.1 hy with rfl | hy
      · exact ⟨by simp, by rw [moveT_id]; omega, by rw [moveT_id]; omega⟩
      · obtain rfl : y = (sep, b) := by simpa using hy
        exact ⟨hs8, hib.2⟩
  refine ⟨by omega, ?_⟩
  rw [← hkk]
  exact nd_okPg hno (by omega) (by omega) (by omega)

set_option maxHeartbeats 8000000 in
set_option maxRecDepth 100000 in
theorem tput_any {S : Vol} {d m : Pg} {nn : Nat} {kd : Int} {N : Nat} {T : Tr N} (h : IdxOk S d m nn kd N T) (key val : ByteArray) (hk : KeyOk key) (hv : val.size ≤ 20) (ka : Option Addr) (kc : Nat) (kp : List ByteArray) (b mb hb pb : Nat) (w : World) (hs : StageAt w b mb hb pb S) (hkp : StrIn w ka kp) :
    Calls Try.prog 47 #[.pointer (some ⟨b, 0, none⟩), .int .i64 1, .string key, .string val, .slice ka kp.length kc] w fun e w' => ∃ u er S', e = .returned (.tuple #[u.v, .int .i64 er]) ∧ w.grownBy w' (some mb) ∧ StageAt w' b mb hb pb S' ∧ PutOut nn N T ⟨key, 1, val⟩ (kp ++ [key]) S m u er S' := by
  obtain ⟨i0, hi, hz0, hz1, hz2⟩ := info_parts infoStr17
  have HL := Lib.hid (fun w' => nleaf_ok key val 1 hk.1 hk.2 hv (.inl rfl) w')
  have HCl := Lib.hid (fun w' hk' => sclone_any ka kc kp w' hk')
  have HF := Lib.hid (fun w' hs' => h.find b mb hb pb w' hs')
  have HKp := Lib.hid hkp
  have HS := Lib.hid hs
  have H := Lib.hid h
  have hslt := hs.lt
  obtain ⟨c, hc⟩ : ∃ c : NC, (⟨key, 1, val⟩ : NC) = c := ⟨_, rfl⟩
  have hck : c.key = key := by rw [← hc]
  have hcs : c.st = 1 := by rw [← hc]
  have hcd : c.d = tx key ++ val := by rw [← hc]; rfl
  have hclf : c.leaf := by rw [← hc]; exact ⟨.inl rfl, hk.1, hk.2, hv⟩
  rw [hc]
  have HClf := Lib.hid hclf
  generalize hdd : tx key ++ val = dd at *
  have hk4 := h.kind
  clear hs h hkp hk hc hclf
  go_enter Try.func47, Try.ntmps47
  go_wp2_with fail
  refine (HL.out _).mono ?_; rintro e w1 ⟨rfl, hb1⟩
  have hz1' := hb1.size
  simp only [World.size_alloc] at hz1'
  have U1 := (rowAt_below hb1 (n := w.heap.size) (by go_size)).trans (rowAt_at w Un.zero.cs 86 _ rfl)
  have B1 : Hid (Below w.heap.size w (w1.alloc (.cells #[.int .i64 1, .string dd] 84))) := Lib.hid ((((Below.refl _ _).alloc (Nat.le_refl _) _).trans (hb1.mono (by go_size))).alloc (by omega) _)
  have U1' := Lib.hid ((rowAt_past w1 (.cells #[.int .i64 1, .string dd] 84) w.heap.size (by omega)).trans U1)
  have C1 := Lib.hid (rowAt_at w1 #[.int .i64 1, .string dd] 84 _ rfl)
  have hs1 : (w1.alloc (.cells #[.int .i64 1, .string dd] 84)).heap.size = w1.heap.size + 1 := World.size_alloc ..
  clear hb1 U1
  go_wp2_with fail
  generalize w1.alloc (.cells #[.int .i64 1, .string dd] 84) = W1 at *
  generalize w1.heap.size = C at *
  have hkp1 : StrIn W1 ka kp := HKp.out.below B1.out
  have hkl := hkp1.1
  refine (HCl.out _ hkp1).mono ?_; rintro e w2 ⟨v, rfl, hown, hb2⟩
  have hz2' := hb2.size
  have B2 := Lib.hid (B1.out.trans (hb2.mono (by omega)))
  have U2 := Lib.hid ((rowAt_below hb2 (by omega)).trans U1'.out)
  have C2 := Lib.hid ((rowAt_below hb2 (by omega)).trans C1.out)
  clear hkp1 hb2
  go_wp2_with (at_builtin; refine wpList_append_own _ rfl _ _ 27 rfl W1.heap.size 9 i0 _ 1 16 Try.underlying27 hi hz0 hz1 hz2 rfl (by decide) _ _ _ rfl (hown.alloc _) ⟨w2.heap.size, 0, none⟩ 1 1 [.string key] rfl rfl ?c1 ?c2 ?c3 ?c4 ?c5 ?_)
  case c1 => exact cell_one_new _ _ _
  case c2 => simp [Value.oneCell']
  case c3 => simp only [maxLen]; omega
  case c4 => omega
  case c5 => first | omega | (simp; omega)
  intro v3 w3 hown3 hgrow _
  have hb3 : Below W1.heap.size w2 w3 := ((Below.refl w2.heap.size w2).alloc (Nat.le_refl _) _).mono (by omega) |>.grown hgrow (by go_size) (fun q hq => (hown.lt q hq).1)
  have hz3 := hb3.size
  have B3 := Lib.hid (B2.out.trans (hb3.mono (by omega)))
  have U3 := Lib.hid ((rowAt_below hb3 (by omega)).trans U2.out)
  have C3 := Lib.hid ((rowAt_below hb3 (by omega)).trans C2.out)
  obtain ⟨g, cap, rfl, hg1, hg2, hstr⟩ := own_str (kp := kp ++ [key]) (by simpa using hown3) (by simp) (by simp; omega)
  obtain ⟨kp2, hkp2⟩ : ∃ kp2, kp ++ [key] = kp2 := ⟨_, rfl⟩
  rw [hkp2] at hstr ⊢
  have HStr := Lib.hid hstr
  clear hown hown3 hgrow hstr hb3
  have HOp := Lib.hid (open_ok b 1 (some ⟨g, 0, none⟩) kp2.length cap kd (Tr.id N T) hk4 w3 (HF.out w3 (HS.out.below B3.out hslt)))
  obtain ⟨root, hroot⟩ : ∃ root, Tr.id N T = root := ⟨_, rfl⟩
  rw [hroot] at HOp
  have HRoot := Lib.hid hroot
  clear hroot
  go_wp2_with fail
  refine HOp.out.mono ?_; rintro e w4 ⟨wb, rfl, hb4, hwb, hwalk⟩
  have hz4 := hb4.size
  have B4 := Lib.hid (B3.out.trans (hb4.mono (by omega)))
  have U4 := Lib.hid ((rowAt_below hb4 (by omega)).trans U3.out)
  have C4 := Lib.hid ((rowAt_below hb4 (by omega)).trans C3.out)
  have hwlt := hwalk.lt
  have PM4 : Hid (PM w4 wb b mb hb pb 1 root (some ⟨g, 0, none⟩) cap kp2 S) := Lib.hid ⟨HS.out.below B4.out hslt, hwalk, HStr.out.below hb4, by omega, fun a ha => by cases ha; show g ≠ mb; omega⟩
  have T4 := Lib.hid (PM4.out.ts.alloc (.cells (unK key).cs 86))
  have HLf := Lib.hid (leaf_any H.out.tree.tin b mb hb pb wb (.slice (some ⟨g, 0, none⟩) kp2.length cap) key)
  rw [HRoot.out] at HLf
  have V4 := Lib.hid (rowAt_at w4 (unK key).cs 86 _ rfl)
  have hs4 : (w4.alloc (.cells (unK key).cs 86)).heap.size = w4.heap.size + 1 := World.size_alloc ..
  have U4' := Lib.hid ((rowAt_past w4 (.cells (unK key).cs 86) w.heap.size (by omega)).trans U4.out)
  have C4' := Lib.hid ((rowAt_past w4 (.cells (unK key).cs 86) C (by omega)).trans C4.out)
  have huk : ({ kind := 2, store := 1, key := key } : Un) = unK key := rfl
  clear hb4 hwalk
  go_wp2_with fail
  obtain ⟨u0, hu0⟩ : ∃ u0, u0 = unK key := ⟨_, rfl⟩
  simp only [← hu0] at T4 V4 U4' C4' hs4 ⊢
  have HU0 := Lib.hid hu0
  clear hu0
  generalize hWW : w4.alloc (.cells u0.cs 86) = W4 at *
  generalize hUU : w4.heap.size = U at *
  refine (HLf.out _ T4.out.p.stage T4.out.p.walk).mono ?_; rintro e w5 ⟨rfl, hb5⟩
  have hz5 := hb5.size
  obtain ⟨id, L, hlf⟩ : ∃ id L, Tr.leaf key N T = (id, L) := ⟨_, _, rfl⟩
  have hlf' : Tr.leaf c.key N T = (id, L) := by rw [hck]; exact hlf
  have hset := setT_ok H.out HClf.out
  rw [hlf'] at hset
  obtain ⟨nx, hnx⟩ : ∃ nx, (stPg S id).n = nx := ⟨_, rfl⟩
  have hset' : SetOk S d m nn kd N T c id nx L := by rw [← hnx]; exact hset
  have HSet := Lib.hid hset'
  have h6 := hset'.node.1
  have hids := H.out.vol.map.hi
  have hid2 := hset'.id2
  have hidn := hset'.idn
  obtain ⟨p, hp⟩ : ∃ p, ndPg 0 1 nx L = p := ⟨_, rfl⟩
  have hpg : stPg S id = p := hset'.page.trans hp
  have hcells : ∀ x ∈ L, x.ok := hset'.node.cells
  have HFi := Lib.hid (fun w' => nfind_any 0 1 nx L h6 hcells key w')
  have hth := find_there (key := key) hset'.node.2.1
  rw [hp] at HFi
  rw [hlf]
  simp only [hpg]
  have HLF := Lib.hid hlf'
  have HNX := Lib.hid hnx
  have HP := Lib.hid hp
  have HTh := Lib.hid hth
  have T5 := Lib.hid ((T4.out.after hb5).alloc (.cells p.cs 112))
  have U5 := Lib.hid ((rowAt_past w5 (.cells p.cs 112) w.heap.size (by omega)).trans ((rowAt_below hb5 (by omega)).trans U4'.out))
  have C5 := Lib.hid ((rowAt_past w5 (.cells p.cs 112) C (by omega)).trans ((rowAt_below hb5 (by omega)).trans C4'.out))
  have V5 := Lib.hid ((rowAt_past w5 (.cells p.cs 112) U (by omega)).trans ((rowAt_below hb5 (by omega)).trans V4.out))
  have P5 := rowAt_at w5 p.cs 112 _ rfl
  have P5' := Lib.hid P5
  have hs5 : (w5.alloc (.cells p.cs 112)).heap.size = w5.heap.size + 1 := World.size_alloc ..
  clear hset hset' hlf hlf' hnx hpg hp hcells hth hb5
  go_wp2_with fail
  generalize hW5 : w5.alloc (.cells p.cs 112) = W5 at *
  generalize hP5 : w5.heap.size = P at *
  refine (HFi.out _).mono ?_; rintro e w6 ⟨rfl, hb6⟩
  have hz6 := hb6.size
  have T6 := Lib.hid (T5.out.after hb6)
  have U6 := Lib.hid ((rowAt_below hb6 (by omega)).trans U5.out)
  have C6 := Lib.hid ((rowAt_below hb6 (by omega)).trans C5.out)
  have V6 := Lib.hid ((rowAt_below hb6 (by omega)).trans V5.out)
  have P6 := Lib.hid ((rowAt_below hb6 (by omega)).trans P5'.out)
  clear hb6 P5
  rcases HTh.out with ⟨hfb, hil, hik⟩ | ⟨hfb, hno⟩
  · rw [hfb]
    obtain ⟨i, hi'⟩ : ∃ i, (findL key L 0).1 = i := ⟨_, rfl⟩
    have hil' : i < L.length := by rw [← hi']; exact hil
    have hik' : L[i].key = key := by
      have := hik
      simp only [hi'] at this
      exact this
    rw [hi']
    have hi6 : i < 6 := by omega
    have hi0 : (0 : Int) ≤ (i : Int) := Int.natCast_nonneg _
    have hij : (i : Int) < 6 := by omega
    have hA := ((nd_a 0 1 nx L i hi6).trans (stL_get hil'))
    have hD := ((nd_d 0 1 nx L i hi6).trans (dL_get hil'))
    rw [HP.out] at hA hD
    obtain ⟨x, hx⟩ : ∃ x, L[i] = x := ⟨_, rfl⟩
    rw [hx] at hA hD hik'
    have hxm : x ∈ L := by rw [← hx]; exact List.getElem_mem hil'
    have hxl := HSet.out.node.2.2.1 rfl x hxm
    have cA := (cell_row P6.out (4 + i * 2)).trans (cs_a p i hi6)
    have cD := (cell_row P6.out (4 + i * 2 + 1)).trans (cs_d p i hi6)
    rw [hA] at cA
    rw [hD] at cD
    have hst := hxl.1
    have HX := Lib.hid hx
    have hxd : ∃ xd, x.d = xd := ⟨_, rfl⟩
    obtain ⟨xd, hxd⟩ := hxd
    rw [hxd] at cD
    clear hil hik hi' hA hD hxl hx
    rcases hst with hs1 | hs2
    · rw [hs1] at cA
      have r7 : row7 (rowAt w6 w.heap.size) = true := by rw [U6.out]; rfl
      have RF := rowAt_setRow w6 _ _ Un.zero.cs U6.out
      have hg := grown_of_below B4.out (some mb)
      have HW := Lib.hid (below_setRow (Below.refl w.heap.size w6) Un.zero.cs (Nat.le_refl _))
      go_wp2_with fail
      refine ret_un rfl rfl w.heap.size Un.zero rfl RF ⟨Un.zero, 160, S, rfl, grown_below (hg.trans T6.out.g) HW.out (Nat.le_refl _), T6.out.p.stage.below HW.out hslt, .inl ⟨rfl, rfl, rfl, x, ?_, ?_, hs1⟩⟩
      · rw [HLF.out]; exact hxm
      · rw [hck, hik']
    · rw [hs2] at cA
      obtain ⟨u1, hu1⟩ : ∃ u1, unC key x = u1 := ⟨_, rfl⟩
      have HU1 := Lib.hid hu1
      have hv7 : ((u0.cs.setIfInBounds 5 (.int .i64 2)).setIfInBounds 6 (.string xd)) = u1.cs := by
        rw [HU0.out, ← hu1, ← hxd, ← hs2]; rfl
      obtain ⟨q, hq⟩ : ∃ q, ndPg 0 1 nx (setC c L) = q := ⟨_, rfl⟩
      have HQ := Lib.hid hq
      have hqs : (p.setC i 1 dd) = q := by
        rw [← hq, setC_at HSet.out.node.2.1 i hil' (by rw [HX.out, hik', hck]), ← nd_set 0 1 nx L i hil' h6 c, HP.out, hcs, hcd]
      have hokq : okPg q = true := by rw [← hq]; exact HSet.out.ok
      have f5 := frozen_row V6.out 5
      have f6 := frozen_row V6.out 6
      have v5 := (cell_row V6.out 5).trans (show u0.cs[5]? = some (.int .i64 0) by rw [HU0.out]; rfl)
      have v6 := (cell_row V6.out 6).trans (show u0.cs[6]? = some (.string ByteArray.empty) by rw [HU0.out]; rfl)
      have far7 : ∀ k, k ≠ U → rowAt ((w6.setCell ⟨U, 5, none⟩ (.int .i64 2)).setCell ⟨U, 6, none⟩ (.string xd)) k = rowAt w6 k := fun k hk => (rowAt_setCell_far _ _ _ k (by simpa using Ne.symm hk)).trans (rowAt_setCell_far _ _ _ k (by simpa using Ne.symm hk))
      have V7 := rowAt_setCell_here _ _ 6 (.string xd) _ (rowAt_setCell_here _ _ 5 (.int .i64 2) _ V6.out)
      rw [hv7] at V7
      have P7 := (far7 P (by omega)).trans P6.out
      have C7 := (far7 C (by omega)).trans C6.out
      have U7 := (far7 w.heap.size (by omega)).trans U6.out
      have T7 := Lib.hid ((T6.out.cell ⟨U, 5, none⟩ (.int .i64 2) (by show _ ≤ U; omega)).cell ⟨U, 6, none⟩ (.string xd) (by show _ ≤ U; omega))
      have hz7 : ((w6.setCell ⟨U, 5, none⟩ (.int .i64 2)).setCell ⟨U, 6, none⟩ (.string xd)).heap.size = w6.heap.size := by simp only [World.size_setCell]
      have x0 := cell_row C7 0
      have x1 := cell_row C7 1
      simp only [List.getElem?_toArray, List.getElem?_cons_succ, List.getElem?_cons_zero] at x0 x1
      have fA := frozen_row P7 (4 + i * 2)
      have fD := frozen_row P7 (4 + i * 2 + 1)
      have zA := (cell_row P7 (4 + i * 2)).trans (cs_a p i hi6)
      have zD := (cell_row P7 (4 + i * 2 + 1)).trans (cs_d p i hi6)
      have hHV7 := Lib.hid V7
      have hHP7 := Lib.hid P7
      have hHU7 := Lib.hid U7
      clear far7 V7 P7 U7 C7
      go_wp2_with fail
      generalize (w6.setCell ⟨U, 5, none⟩ (.int .i64 2)).setCell ⟨U, 6, none⟩ (.string xd) = W7 at *
      have R8 := rowAt_setCell_here _ _ (4 + i * 2 + 1) (.string dd) _ (rowAt_setCell_here _ _ (4 + i * 2) (.int .i64 1) _ hHP7.out)
      rw [cs_setC p i hi6, hqs] at R8
      have far8 : ∀ k, k ≠ P → rowAt ((W7.setCell ⟨P, 4 + i * 2, none⟩ (.int .i64 1)).setCell ⟨P, 4 + i * 2 + 1, none⟩ (.string dd)) k = rowAt W7 k := fun k hk => (rowAt_setCell_far _ _ _ k (by simpa using Ne.symm hk)).trans (rowAt_setCell_far _ _ _ k (by simpa using Ne.symm hk))
      have V8 := (far8 U (by omega)).trans hHV7.out
      have U8 := Lib.hid ((far8 w.heap.size (by omega)).trans hHU7.out)
      have T8 := Lib.hid ((T7.out.cell ⟨P, 4 + i * 2, none⟩ (.int .i64 1) (by show _ ≤ P; omega)).cell ⟨P, 4 + i * 2 + 1, none⟩ (.string dd) (by show _ ≤ P; omega))
      have hz8 : ((W7.setCell ⟨P, 4 + i * 2, none⟩ (.int .i64 1)).setCell ⟨P, 4 + i * 2 + 1, none⟩ (.string dd)).heap.size = W7.heap.size := by simp only [World.size_setCell]
      clear far8 x0 x1 fA fD zA zD f5 f6 v5 v6 cA cD
      generalize (W7.setCell ⟨P, 4 + i * 2, none⟩ (.int .i64 1)).setCell ⟨P, 4 + i * 2 + 1, none⟩ (.string dd) = W8 at *
      have V8d : rowAt W8.drew U = some u1.cs := V8
      have R8d : rowAt W8.drew P = some q.cs := R8
      have HSt := Lib.hid (set_pm T8.out.drew.p id q hokq (by omega) (by omega))
      have hmb := T8.out.lt
      go_wp2_with fail
      go_region_held3 (fun W => rowAt W U = some u1.cs ∧ rowAt W P = some q.cs)
        (first
          | exact ⟨V8d, R8d⟩
          | exact ⟨V9, R9⟩
          | exact ⟨(rowAt_setRow_far _ _ _ _ (by omega)).trans V9, (rowAt_setRow_far _ _ _ _ (by omega)).trans R9⟩)
        (first
          | (go_at_call 59; refine HSt.out.mono ?_; rintro e w9 ⟨rfl, hg9, hp9⟩; have T9 := Lib.hid (T8.out.drew.grown hg9 hp9); have V9 := (rowAt_grown hg9 (n := U) (by show _ < W8.heap.size; omega) (by omega)).trans V8d; have R9 := (rowAt_grown hg9 (n := P) (by show _ < W8.heap.size; omega) (by omega)).trans R8d; have U9 := (rowAt_grown hg9 (n := w.heap.size) (by show _ < W8.heap.size; omega) (by omega)).trans U8.out; have r7 : row7 (rowAt w9 w.heap.size) = true := (by rw [U9]; rfl)))
      all_goals
        have RF := rowAt_setRow w9 _ _ u1.cs U9
        have hgg := grown_of_below B4.out (some mb)
        have HW := Lib.hid (below_setRow (Below.refl w.heap.size w9) u1.cs (Nat.le_refl _))
        clear hg9 hp9 V9 R9 V8 R8 V8d R8d
        go_wp2_with fail
        refine ret_un rfl rfl w.heap.size u1 rfl RF ⟨u1, 0, _, rfl, grown_below (hgg.trans T9.out.g) HW.out (Nat.le_refl _), T9.out.p.stage.below HW.out hslt, .inr (.inl ⟨x, ?_, ?_, hs2, rfl, ?_, ?_⟩)⟩
        · rw [HLF.out]; exact hxm
        · rw [hck, hik']
        · rw [← HU1.out, hck]
        · rw [HLF.out, HNX.out, HQ.out]
  · rw [hfb]
    have hfresh : ∀ x ∈ flat (Tr.leaves N T), x.key ≠ c.key := fun x hx e => by
      have := leaf_there H.out hx e
      rw [HLF.out] at this
      exact hno x this (by rw [e, hck])
    have hpre := H.out.pre HClf.out hfresh
    have hpo := putV_ok kp2 N T S m _ _ hpre
    have HPut := Lib.hid (wput_any (some ⟨g, 0, none⟩) cap kp2 root b mb hb pb wb N T S m _ _ hpre)
    rw [HRoot.out, hck, hcs, hcd] at HPut
    obtain ⟨nxr, hpr⟩ := H.out.tree.tin.page
    have HGt := Lib.hid (wget_tr H.out.tree.tin nxr hpr b mb hb pb wb root (.slice (some ⟨g, 0, none⟩) kp2.length cap))
    rw [HRoot.out] at HGt
    obtain ⟨pr, hprr⟩ : ∃ pr, ndPg (N : Int) 1 nxr (Tr.cells N T) = pr := ⟨_, rfl⟩
    have hprl : pr.l = (N : Int) := by rw [← hprr]; rfl
    rw [hprr] at HGt
    have cr := T6.out.p.walk.cells.2.2.1
    have hno' : ∀ x ∈ (Tr.leaf c.key N T).2, x.key ≠ c.key := by rw [HLF.out, hck]; exact hno
    have HNo := Lib.hid hno'
    have HPo := Lib.hid hpo
    clear hfresh hpre hpo hpr hprr hno hno'
    go_wp2_with fail
    refine (HGt.out _ T6.out.p.stage T6.out.p.walk).mono ?_; rintro e w7 ⟨rfl, hb7⟩
    have hz7 := hb7.size
    have T7 := Lib.hid ((T6.out.after hb7).alloc (.cells pr.cs 112))
    have U7 := Lib.hid ((rowAt_past w7 (.cells pr.cs 112) w.heap.size (by omega)).trans ((rowAt_below hb7 (by omega)).trans U6.out))
    have C7 := Lib.hid ((rowAt_past w7 (.cells pr.cs 112) C (by omega)).trans ((rowAt_below hb7 (by omega)).trans C6.out))
    have V7 := Lib.hid ((rowAt_past w7 (.cells pr.cs 112) U (by omega)).trans ((rowAt_below hb7 (by omega)).trans V6.out))
    have R7 := rowAt_at w7 pr.cs 112 _ rfl
    have hs7 : (w7.alloc (.cells pr.cs 112)).heap.size = w7.heap.size + 1 := World.size_alloc ..
    have c2d : (w7.alloc (.cells pr.cs 112)).drew.cell? ⟨wb, 2, none⟩ = some (.int .i64 root) := T7.out.p.walk.cells.2.2.1
    have cld : (w7.alloc (.cells pr.cs 112)).drew.cell? ⟨w7.heap.size, 1, none⟩ = some (.int .i64 (N : Int)) := (cell_row R7 1).trans (show pr.cs[1]? = some (.int .i64 (N : Int)) by rw [← hprl]; rfl)
    have x0 : (w7.alloc (.cells pr.cs 112)).drew.cell? ⟨C, 0, none⟩ = some (.int .i64 1) := cell_row C7.out 0
    have x1 : (w7.alloc (.cells pr.cs 112)).drew.cell? ⟨C, 1, none⟩ = some (.string dd) := cell_row C7.out 1
    clear hb7 cr
    go_wp2_with fail
    generalize hW7 : w7.alloc (.cells pr.cs 112) = W7 at *
    generalize hQ7 : w7.heap.size = Q at *
    have R7h := Lib.hid R7
    have HL1 : Hid (pr.cs[1]? = some (.int .i64 (N : Int))) := Lib.hid (by rw [← hprl]; rfl)
    have T7d := Lib.hid T7.out.drew
    have hmb := T7.out.lt
    obtain ⟨res, hres⟩ : ∃ res, putV 1 nn kp2 c N T S m = res := ⟨_, rfl⟩
    rw [hres] at HPut HPo
    obtain ⟨q, S1, m1⟩ := res
    have HRes := Lib.hid hres
    clear hres
    cases q with
    | bad =>
      simp only [prV] at HPut
      go_region_held3 (fun W => W.cell? ⟨wb, 2, none⟩ = some (.int .i64 root) ∧ W.cell? ⟨Q, 1, none⟩ = some (.int .i64 (N : Int)) ∧ W.cell? ⟨C, 0, none⟩ = some (.int .i64 1) ∧ W.cell? ⟨C, 1, none⟩ = some (.string dd))
        (first
          | exact ⟨c2d, cld, x0, x1⟩
          | exact ⟨T8.out.p.walk.cells.2.2.1, cl8, cell_row C8 0, cell_row C8 1⟩)
        (first
          | (go_at_call 84; refine (HPut.out _ T7d.out.p).mono ?_; rintro e w8 ⟨rfl, ht8⟩; have T8 := Lib.hid (T7d.out.trans ht8); have hz8 := ht8.lt; have cl8 := (cell_row ((rowAt_grown ht8.g (n := Q) (by show _ < W7.heap.size; omega) (by omega)).trans R7h.out) 1).trans HL1.out; have C8 := (rowAt_grown ht8.g (n := C) (by show _ < W7.heap.size; omega) (by omega)).trans C7.out; have U8 := (rowAt_grown ht8.g (n := w.heap.size) (by show _ < W7.heap.size; omega) (by omega)).trans U7.out; have V8 := (rowAt_grown ht8.g (n := U) (by show _ < W7.heap.size; omega) (by omega)).trans V7.out))
      all_goals
        have hw8 : W7.drew.heap.size = W7.heap.size := rfl
        rw [hw8] at hz8
        have r7 : row7 (rowAt w8 w.heap.size) = true := by rw [U8]; rfl
        have RF := rowAt_setRow w8 _ _ Un.zero.cs U8
        have hgg := grown_of_below B4.out (some mb)
        have HW := Lib.hid (below_setRow (Below.refl w.heap.size w8) Un.zero.cs (Nat.le_refl _))
        clear ht8 cl8 C8 V8
        go_wp2_with fail
        refine ret_un rfl rfl w.heap.size Un.zero rfl RF ⟨Un.zero, 140, S1, rfl, grown_below (hgg.trans T8.out.g) HW.out (Nat.le_refl _), T8.out.p.stage.below HW.out hslt, .inr (.inr ⟨HNo.out, ?_⟩)⟩
        unfold PutNew
        rw [hkp2, HRes.out]
        exact ⟨rfl, rfl, rfl⟩
    | one t' =>
      simp only [prV] at HPut
      go_region_held3 (fun W => W.cell? ⟨wb, 2, none⟩ = some (.int .i64 root) ∧ W.cell? ⟨Q, 1, none⟩ = some (.int .i64 (N : Int)) ∧ W.cell? ⟨C, 0, none⟩ = some (.int .i64 1) ∧ W.cell? ⟨C, 1, none⟩ = some (.string dd))
        (first
          | exact ⟨c2d, cld, x0, x1⟩
          | exact ⟨T8.out.p.walk.cells.2.2.1, cl8, cell_row C8 0, cell_row C8 1⟩)
        (first
          | (go_at_call 84; refine (HPut.out _ T7d.out.p).mono ?_; rintro e w8 ⟨rfl, ht8⟩; have T8 := Lib.hid (T7d.out.trans ht8); have hz8 := ht8.lt; have cl8 := (cell_row ((rowAt_grown ht8.g (n := Q) (by show _ < W7.heap.size; omega) (by omega)).trans R7h.out) 1).trans HL1.out; have C8 := (rowAt_grown ht8.g (n := C) (by show _ < W7.heap.size; omega) (by omega)).trans C7.out; have U8 := (rowAt_grown ht8.g (n := w.heap.size) (by show _ < W7.heap.size; omega) (by omega)).trans U7.out; have V8 := (rowAt_grown ht8.g (n := U) (by show _ < W7.heap.size; omega) (by omega)).trans V7.out))
      all_goals
        have hw8 : W7.drew.heap.size = W7.heap.size := rfl
        rw [hw8] at hz8
        have r7 : row7 (rowAt w8 w.heap.size) = true := by rw [U8]; rfl
        have RF := rowAt_setRow w8 _ _ u0.cs U8
        have hgg := grown_of_below B4.out (some mb)
        have HW := Lib.hid (below_setRow (Below.refl w.heap.size w8) u0.cs (Nat.le_refl _))
        clear ht8 cl8 C8
        go_wp2_with fail
        refine ret_un rfl rfl w.heap.size u0 rfl RF ⟨u0, 0, S1, rfl, grown_below (hgg.trans T8.out.g) HW.out (Nat.le_refl _), T8.out.p.stage.below HW.out hslt, .inr (.inr ⟨HNo.out, ?_⟩)⟩
        unfold PutNew
        rw [hkp2, HRes.out]
        exact ⟨rfl, by rw [HU0.out, hck], rfl⟩
    | two a sep bb =>
      simp only [prV] at HPut
      go_region_held3 (fun W => W.cell? ⟨wb, 2, none⟩ = some (.int .i64 root) ∧ W.cell? ⟨Q, 1, none⟩ = some (.int .i64 (N : Int)) ∧ W.cell? ⟨C, 0, none⟩ = some (.int .i64 1) ∧ W.cell? ⟨C, 1, none⟩ = some (.string dd))
        (first
          | exact ⟨c2d, cld, x0, x1⟩
          | exact ⟨T8.out.p.walk.cells.2.2.1, cl8, cell_row C8 0, cell_row C8 1⟩)
        (first
          | (go_at_call 84; refine (HPut.out _ T7d.out.p).mono ?_; rintro e w8 ⟨rfl, ht8⟩; have T8 := Lib.hid (T7d.out.trans ht8); have hz8 := ht8.lt; have cl8 := (cell_row ((rowAt_grown ht8.g (n := Q) (by show _ < W7.heap.size; omega) (by omega)).trans R7h.out) 1).trans HL1.out; have C8 := (rowAt_grown ht8.g (n := C) (by show _ < W7.heap.size; omega) (by omega)).trans C7.out; have U8 := (rowAt_grown ht8.g (n := w.heap.size) (by show _ < W7.heap.size; omega) (by omega)).trans U7.out; have V8 := (rowAt_grown ht8.g (n := U) (by show _ < W7.heap.size; omega) (by omega)).trans V7.out))
      all_goals
        have hw8 : W7.drew.heap.size = W7.heap.size := rfl
        rw [hw8] at hz8
        obtain ⟨hpk, hida, hoa, hob, hls, hsh, hs8⟩ := HPo.out
        obtain ⟨g1, g2, g3, g4, g5⟩ := grow_pre H.out hpk hida hls hs8
        have hrr : (Tr.id N bb == 0) = false := by simp; omega
        have hNf := H.out.few
        have hw1 := (wrapN hNf).1
        have hw2 := (wrapN hNf).2
        rw [HRoot.out] at g1 g2 g3
        have hrt := H.out.most _ (id_mem N T)
        rw [HRoot.out] at hrt
        have U8h := Lib.hid U8
        have V8h := Lib.hid V8
        clear cl8 C8 U8 V8 c2d cld x0 x1 hoa hob hsh
        cases htk : takeV nn S1 m1 with
        | none =>
          have hgr : growV 1 nn (Tr.id N T) a sep bb S1 m1 = none := by unfold growV; rw [htk]
          have HGr := Lib.hid (wgrow_any hpk.vol 1 root (N : Int) ((N + 1 : Nat) : Int) (Tr.id N bb) sep (stPg S1 root) rfl g3 g2 hw1 hw2 hs8 g4.1 g4.2 (by omega) (by omega) g1 (some ⟨g, 0, none⟩) cap kp2 b mb hb pb wb w8 T8.out.p 140 S1 (.inl ⟨htk, rfl, rfl⟩))
          have HGv := Lib.hid hgr
          clear g1 g2 g3 g4 g5 hpk hls hs8 htk hgr
          go_wp2_with fail
          refine HGr.out.mono ?_; rintro e w9 ⟨rfl, ht9⟩
          have hz9 := ht9.lt
          have T9 := Lib.hid (T8.out.trans ht9)
          have U9 := (rowAt_grown ht9.g (n := w.heap.size) (by omega) (by omega)).trans U8h.out
          have r7 : row7 (rowAt w9 w.heap.size) = true := by rw [U9]; rfl
          have RF := rowAt_setRow w9 _ _ Un.zero.cs U9
          have hgg := grown_of_below B4.out (some mb)
          have HW := Lib.hid (below_setRow (Below.refl w.heap.size w9) Un.zero.cs (Nat.le_refl _))
          clear ht9
          go_wp2_with fail
          refine ret_un rfl rfl w.heap.size Un.zero rfl RF ⟨Un.zero, 140, S1, rfl, grown_below (hgg.trans T9.out.g) HW.out (Nat.le_refl _), T9.out.p.stage.below HW.out hslt, .inr (.inr ⟨HNo.out, ?_⟩)⟩
          unfold PutNew
          rw [hkp2, HRes.out]
          simp only [HGv.out]
          exact ⟨trivial, trivial, trivial⟩
        | some y =>
          obtain ⟨r, S2, m2⟩ := y
          obtain ⟨hr1, hok⟩ := g5 r S2 m2 htk
          have hgr : ∃ S3 T3, growV 1 nn (Tr.id N T) a sep bb S1 m1 = some (T3, S3, m2) ∧ S3 = (S2.put r (stPg S1 root)).put root (ndPg ((N + 1 : Nat) : Int) 1 0 [⟨ByteArray.empty, 1, le4 r⟩, ⟨sep, 1, le4 (Tr.id N bb)⟩]) := by
            unfold growV; rw [htk, HRoot.out]; exact ⟨_, _, rfl, rfl⟩
          obtain ⟨S3, T3, hgr, hS3⟩ := hgr
          have HGr := Lib.hid (wgrow_any hpk.vol 1 root (N : Int) ((N + 1 : Nat) : Int) (Tr.id N bb) sep (stPg S1 root) rfl g3 g2 hw1 hw2 hs8 g4.1 g4.2 (by omega) (by omega) g1 (some ⟨g, 0, none⟩) cap kp2 b mb hb pb wb w8 T8.out.p 0 S3 (.inr ⟨r, S2, m2, htk, hr1, hok, rfl, hS3⟩))
          have HGv := Lib.hid hgr
          clear g1 g2 g3 g4 g5 hpk hls hs8 htk hgr hok hS3
          go_wp2_with fail
          refine HGr.out.mono ?_; rintro e w9 ⟨rfl, ht9⟩
          have hz9 := ht9.lt
          have T9 := Lib.hid (T8.out.trans ht9)
          have U9 := (rowAt_grown ht9.g (n := w.heap.size) (by omega) (by omega)).trans U8h.out
          have V9 := (rowAt_grown ht9.g (n := U) (by omega) (by omega)).trans V8h.out
          have r7 : row7 (rowAt w9 w.heap.size) = true := by rw [U9]; rfl
          have RF := rowAt_setRow w9 _ _ u0.cs U9
          have hgg := grown_of_below B4.out (some mb)
          have HW := Lib.hid (below_setRow (Below.refl w.heap.size w9) u0.cs (Nat.le_refl _))
          clear ht9
          go_wp2_with fail
          refine ret_un rfl rfl w.heap.size u0 rfl RF ⟨u0, 0, S3, rfl, grown_below (hgg.trans T9.out.g) HW.out (Nat.le_refl _), T9.out.p.stage.below HW.out hslt, .inr (.inr ⟨HNo.out, ?_⟩)⟩
          unfold PutNew
          rw [hkp2, HRes.out]
          simp only [HGv.out]
          exact ⟨trivial, by rw [HU0.out, hck], trivial⟩
end Go.Proofs.Ytljommhbhpappaa
