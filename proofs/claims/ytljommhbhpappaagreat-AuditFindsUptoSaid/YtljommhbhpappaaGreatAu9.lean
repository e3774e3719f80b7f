/-
  Layer 22 (audit): Check: a volume's stores, one by one.
-/
import Derived.Test.YtljommhbhpappaaGreatAu8
namespace Go.Proofs.YtljommhbhpappaaGreat
open Go.RowKit Go.Joins
set_option linter.unusedVariables false
set_option linter.unusedSimpArgs false

set_option maxHeartbeats 2000000 in
set_option maxRecDepth 100000 in
theorem find_none22 {S : Vol} {d m : Pg} {n : Nat} (b mb hb pb : Nat) (w : World) (hs : StageAt w b mb hb pb S) (h : VolOk S d m n) (k : Nat) (hk : k < 6) (ha : d.a k = 0) :
    Calls Tryz.prog 30 #[.pointer (some ⟨b, 0, none⟩), .int .i64 ((k : Int) + 1)] w fun e w' => e = .returned (.tuple #[.int .i64 0, .int .i64 0, .int .i64 0, .int .i64 190]) ∧ Below w.heap.size w w' := by
  have HD := Lib.hid (fun w' hh => dir_ok S b mb hb pb d w' hh h.dir)
  have HS := Lib.hid hs
  have ca := cs_a d k hk
  rw [ha] at ca
  clear hs h ha
  go_enter Tryz.func30, Tryz.ntmps30
  go_wp2_with fail
  refine (HD.out _ HS.out).mono ?_; rintro e w1 ⟨rfl, hb1⟩
  have hsz := hb1.size
  have HB1 := Lib.hid hb1
  clear hb1
  go_wp2_with fail
  exact ret_tmp4 rfl rfl ⟨rfl, HB1.out.alloc (by omega) (.cells d.cs 38)⟩

theorem intMap_size22 {M : List (Int × Value)} {es : Array MapEntry} (hM : es.toList.map (fun e => (e.key, e.val)) = M.map fun x => (Value.int .i64 x.1, x.2)) : es.size = M.length := by
  have := congrArg List.length hM
  simpa using this
theorem run_len_int22 {P : Program} {t kt et : TypeId} (ht : P.underlying t = some (.map kt et)) (b : Nat) (M : List (Int × Value)) (w : World) (h : IntMap w b M) (ty : TypeId) :
    (Builtin.len_ #[t] ty #[.map (some b)]).run P w = .ok (.int .i64 (M.length : Int)) w := by
  obtain ⟨es, clock, hb, hM, -⟩ := h
  have hs := intMap_size22 hM
  have hg : (getObj b).run P w = .ok (.map es clock) w := MapKept.run_getObj_map hb
  unfold Builtin.len_
  simp [run_underlying ht, hg, goInt, hs]

theorem run_newMap22 (w : World) : (Instr.makeMap 83 none).run Tryz.prog w = .ok (.map (some w.heap.size)) (w.alloc (.map #[] 0)) := by kernel_rfl
/-- what a volume has at a place of its directory -/
inductive Part where
  | nil
  | heap (C : List Int)
  | tree (kd : Int) (N : Nat) (T : Tr N)
def Part.ids : Part → List Int
  | .nil => []
  | .heap C => C
  | .tree _ N T => Tr.ids N T
def Part.chained (S : Vol) : Part → Prop
  | .tree _ N T => Chained S ((Tr.leaves N T).map (·.1))
  | _ => True
def Part.Au (S : Vol) (d : Pg) (k : Nat) (x : Int) : Part → Prop
  | .nil => d.a k = 0
  | .heap C => d.a k ≠ 0 ∧ (∃ r, C[0]? = some r ∧ d.d k = entryD 1 r ∧ 0 ≤ r ∧ r < 4294967296) ∧ HpOk S ((k : Int) + 1) C x
  | .tree kd N T => d.a k ≠ 0 ∧ (kd = 2 ∨ kd = 3) ∧ d.d k = entryD kd (Tr.id N T) ∧ Tr.Au S ((k : Int) + 1) x N T ∧ Tr.Good N T ∧ Tr.Ord N T ByteArray.empty none ∧ N ≤ 255 ∧ (Tr.ids N T).Nodup ∧ (∀ id ∈ Tr.ids N T, 1 ≤ id ∧ id < 1024) ∧ (Tr.id N T = x → ¬ (stPg S x).s = (k : Int) + 1) ∧ ∀ id ∈ Tr.ids N T, stE S id = 0
/-- a volume as an audit meets it: all is well but page x -/
structure AuVol (S : Vol) (d m : Pg) (n : Nat) (P : Nat → Part) (x : Int) : Prop where
  vol : VolOk S d m n
  part : ∀ k, k < 6 → (P k).Au S d k x
  two : ∀ k, k < 6 → ∀ id ∈ (P k).ids, id ≠ 0 ∧ id ≠ 1
  apart : ∀ j, j < 6 → ∀ k, k < 6 → j ≠ k → ∀ id ∈ (P j).ids, ¬ id ∈ (P k).ids
  xx : x ≠ 0 ∧ x ≠ 1
/-- all pages that are reached -/
def reach (P : Nat → Part) : List Int := 0 :: 1 :: firstN (fun k => (P k).ids) 6
def seenAt (P : Nat → Part) (k : Nat) : List (Int × Int) := [(0, 0), (1, 0)] ++ firstN (fun j => withS ((j : Int) + 1) (P j).ids) k
theorem firstN_map {α β : Type} (f : Nat → List α) (g : α → β) (i : Nat) : (firstN f i).map g = firstN (fun j => (f j).map g) i := by simp [firstN, List.map_flatMap]
theorem seenAt_keys (P : Nat → Part) (k : Nat) : (seenAt P k).map (·.1) = 0 :: 1 :: firstN (fun j => (P j).ids) k := by
  unfold seenAt
  rw [List.map_append, firstN_map]
  simp only [withS_keys]
  rfl

set_option maxHeartbeats 8000000 in
set_option maxRecDepth 100000 in
theorem auCheck_any {S : Vol} {d m : Pg} {n : Nat} {P : Nat → Part} {x : Int} (h : AuVol S d m n P x) (b mb hb pb : Nat) (w : World) (hs : StageAt w b mb hb pb S) :
    Calls Tryz.prog 10 #[.pointer (some ⟨b, 0, none⟩)] w fun e w' => ∃ er, e = .returned (.int .i64 er) ∧ Below w.heap.size w w' ∧
      (er = 0 ↔ ¬ x ∈ reach P ∧ (∀ k, k < 6 → (P k).chained S) ∧ (∀ u ∈ usedTo m n, (u : Int) ∈ reach P) ∧ (usedTo m n).length = (reach P).length) ∧ (¬ x ∈ reach P → (∀ k, k < 6 → (P k).chained S) → er = 0 ∨ er = 40) := by
  have hul : (usedTo m n).length ≤ 1024 := by
    have h1 : (usedTo m n).length ≤ (List.range n).length := List.length_filter_le _ _
    rw [List.length_range] at h1
    have := h.vol.map.hi
    omega
  have HU := Lib.hid (used_any S b mb hb pb m n w hs h.vol.map)
  have HS := Lib.hid hs
  have H := Lib.hid h
  have hslt := hs.lt
  clear h hs
  generalize usedTo m n = U at *
  go_enter Tryz.func10, Tryz.ntmps10
  go_wp2_with fail
  with_reducible refine HU.out.mono ?_; rintro e w1 ⟨v, rfl, hb1, hown⟩
  obtain ⟨ua, ucap, rfl, hua⟩ := own_form22 hown
  have B1 := Lib.hid hb1
  have O1 := Lib.hid hown
  have HUa := Lib.hid hua
  have hz1 := hb1.size
  have N1 : IntMap (w1.alloc (.map #[] 0)) w1.heap.size [] := ⟨#[], 0, heap_alloc_new _ _, rfl, MapKept.stamped_empty 0⟩
  obtain ⟨o1, ho1⟩ := run_mapUpdate_int (P := Tryz.prog) Tryz.underlying83 Tryz.underlying3 (.int .i64 0) w1.heap.size [] 0 #[] 0 rfl (MapKept.stamped_empty 0)
  obtain ⟨u1, n1⟩ := ho1 _ (heap_alloc_new w1 (.map #[] 0))
  obtain ⟨es2, cl2, hm2, hM2, hSt2⟩ := n1
  obtain ⟨o2, ho2⟩ := run_mapUpdate_int (P := Tryz.prog) Tryz.underlying83 Tryz.underlying3 (.int .i64 0) w1.heap.size _ 1 es2 cl2 hM2 hSt2
  obtain ⟨u2, n2⟩ := ho2 _ hm2
  have hnm := run_newMap22 w1
  clear hb1 hown hua
  go_wp2_with fail
  have hsz2 : (ChangeMaps.setBlock (ChangeMaps.setBlock (w1.alloc (.map #[] 0)) w1.heap.size o1) w1.heap.size o2).heap.size = w1.heap.size + 1 := by
    simp [ChangeMaps.setBlock]
  have B2 : Below w1.heap.size w1 (ChangeMaps.setBlock (ChangeMaps.setBlock (w1.alloc (.map #[] 0)) w1.heap.size o1) w1.heap.size o2) := by
    refine ⟨rfl, rfl, rfl, by omega, fun k hk => ?_⟩
    have e1 : ∀ (W : World) (o : Obj), (ChangeMaps.setBlock W w1.heap.size o).heap[k]? = W.heap[k]? := fun W o => by
      simp [ChangeMaps.setBlock, Array.getElem?_setIfInBounds, show w1.heap.size ≠ k from by omega]
    rw [e1, e1, Below.heap_alloc _ _ _ hk]
  generalize hW2 : ChangeMaps.setBlock (ChangeMaps.setBlock (w1.alloc (.map #[] 0)) w1.heap.size o1) w1.heap.size o2 = W2 at *
  have B3 := Lib.hid (B2.alloc (by omega) (.cells #[.pointer (some ⟨b, 0, none⟩), .map (some w1.heap.size), .slice none 0 0] 85))
  have A3 : AuAt w1.heap.size (W2.alloc (.cells #[.pointer (some ⟨b, 0, none⟩), .map (some w1.heap.size), .slice none 0 0] 85)) W2.heap.size w1.heap.size b mb hb pb S (seenAt P 0) [] := by
    refine ⟨(HS.out.below B1.out hslt).below B3.out ⟨by omega, by omega, by omega, by omega⟩, ⟨by omega, by omega, by omega, by omega⟩, ⟨by omega, Nat.le_refl _, by rw [World.size_alloc]; omega⟩, ?_, _, heap_alloc_new _ _, World.ownsRow_nil _ _ _ _⟩
    have := n2.alloc (.cells #[.pointer (some ⟨b, 0, none⟩), .map (some w1.heap.size), .slice none 0 0] 85)
    exact this
  have A3h := Lib.hid A3
  clear A3 hW2 u1 u2 hm2 hM2 hSt2 n2 ho1 ho2 N1 hnm B2
  generalize hlb : W2.heap.size = lb at *
  generalize W2.alloc (.cells #[.pointer (some ⟨b, 0, none⟩), .map (some w1.heap.size), .slice none 0 0] 85) = W3 at *
  clear hlb hsz2
  have HFree := Lib.hid (fun (k : Nat) (hk : k < 6) (ha : d.a k = 0) (w' : World) (hs' : StageAt w' b mb hb pb S) => find_none22 b mb hb pb w' hs' H.out.vol k hk ha)
  have HFind := Lib.hid (fun (k : Nat) (hk : k < 6) (ha : d.a k ≠ 0) (kd r : Int) (h0 : 0 ≤ kd) (h1 : kd < 256) (h2 : 0 ≤ r) (h3 : r < 4294967296) (h5 : d.d k = entryD kd r) (w' : World) (hs' : StageAt w' b mb hb pb S) => find_st b mb hb pb w' hs' H.out.vol k hk ha kd r h0 h1 h2 h3 h5 ((k : Int) + 1) rfl (d.a k) rfl)
  go_loopw [7] (fun v wr => ∃ k : Nat, k ≤ 6 ∧ v = .int .i64 ((k : Int) + 1) ∧ (∀ j, j < k → ¬ x ∈ (P j).ids ∧ (P j).chained S) ∧ ∃ lvs, AuAt w1.heap.size wr lb w1.heap.size b mb hb pb S (seenAt P k) lvs ∧ AuK w1.heap.size lb w1.heap.size W3 wr) (fun v _ => 7 - (intOf v).toNat)
  case atStart => exact ⟨0, by omega, rfl, fun j hj => by omega, _, A3h.out, AuK.refl _ _ _ _⟩
  case round =>
    obtain ⟨k, hk, rfl, hok, lvs, hA, hK⟩ := hrel
    obtain ⟨wo, rfl⟩ : ∃ wo : World, wo = wr := ⟨_, rfl⟩
    have HOk := Lib.hid hok
    have A4 := Lib.hid hA
    have K4 := Lib.hid hK
    have hszo := hA.lo.2.2
    clear hA hK hok
    by_cases hlt : k < 6
    · have hk6 : decide ((k : Int) + 1 ≤ 6) = true := by simp; omega
      have hw3 : IntKind.i64.wrap ((k : Int) + 1 + 1) = (k : Int) + 1 + 1 := by rw [IntKind.wrap_i64]; omega
      have hfr : ∀ id ∈ (P k).ids, ¬ id ∈ (seenAt P k).map (·.1) := fun id hid hm => by
        rw [seenAt_keys] at hm
        have h01 := H.out.two k hlt id hid
        rcases List.mem_cons.1 hm with e | hm
        · exact h01.1 e
        · rcases List.mem_cons.1 hm with e | hm
          · exact h01.2 e
          · obtain ⟨j, hj, hm⟩ := mem_firstN.1 hm
            exact H.out.apart k hlt j (by omega) (by omega) id hid hm
      have hpk := H.out.part k hlt
      have hnext : seenAt P (k + 1) = seenAt P k ++ withS ((k : Int) + 1) (P k).ids := by
        unfold seenAt
        rw [firstN_succ, List.append_assoc]
      have HN := Lib.hid hnext
      clear hnext
      cases hP : P k with
      | nil =>
        rw [hP] at hpk
        have HP := Lib.hid hP
        have hc := Lib.hid (HFree.out k hlt hpk)
        clear hpk hfr hP
        go_wp2_with fail
        with_reducible refine (hc.out _ A4.out.st).mono ?_; rintro e w5 ⟨rfl, hb5⟩
        have A5 := Lib.hid (A4.out.step hb5)
        have K5 := Lib.hid (K4.out.trans (AuK.of_below hb5 hszo))
        clear hb5
        go_wp2_with fail
        go_roundw
        case rel =>
          refine ⟨k + 1, by omega, by go_num, fun j hj => ?_, lvs, ?_, K5.out⟩
          · by_cases e : j = k
            · subst e; rw [HP.out]; exact ⟨by simp [Part.ids], trivial⟩
            · exact HOk.out j (by omega)
          · rw [HN.out, HP.out]
            simpa [Part.ids, withS] using A5.out
        case measure => simp [intOf]; omega
      | heap C =>
        rw [hP] at hpk hfr HN
        obtain ⟨ha, ⟨r, hr, hd, hr0, hr1⟩, hC⟩ := hpk
        have HP := Lib.hid hP
        have hc := Lib.hid (HFind.out k hlt ha 1 r (by omega) (by omega) hr0 hr1 hd)
        have hh := Lib.hid (fun (w' : World) (h' : AuAt w1.heap.size w' lb w1.heap.size b mb hb pb S (seenAt P k) lvs) => heap_any hC h' hfr r hr)
        clear ha hr hd hr0 hr1 hC hfr hP
        go_wp2_with fail
        with_reducible refine (hc.out _ A4.out.st).mono ?_; rintro e w5 ⟨rfl, hb5⟩
        have A5 := Lib.hid (A4.out.step hb5)
        have K5 := Lib.hid (K4.out.trans (AuK.of_below hb5 hszo))
        clear hb5
        go_wp2_with fail
        with_reducible refine (hh.out _ A5.out).mono ?_; rintro e w6 ⟨er, rfl, ⟨hx, her, hB6⟩ | ⟨hx, rfl, hA6, hK6⟩⟩
        · have he1 : (er == 0) = false := by simpa using her
          have BF := Lib.hid ((B1.out.trans (B3.out.mono hz1)).trans ((K5.out.below.trans hB6).mono hz1))
          clear hB6
          go_wp2_with fail
          go_ret
          have hx' : x ∈ (P k).ids := by rw [HP.out]; exact hx
          have hx2 : x ∈ reach P := List.mem_cons_of_mem _ (List.mem_cons_of_mem _ (mem_firstN.2 ⟨k, hlt, hx'⟩))
          exact ⟨er, rfl, BF.out, ⟨fun e => absurd e her, fun hh => absurd hx2 hh.1⟩, fun hh => absurd hx2 hh⟩
        · have A6 := Lib.hid hA6
          have K6 := Lib.hid (K5.out.trans hK6)
          clear hA6 hK6
          go_wp2_with fail
          go_roundw
          case rel =>
            refine ⟨k + 1, by omega, by go_num, fun j hj => ?_, lvs, ?_, K6.out⟩
            · by_cases e : j = k
              · subst e; rw [HP.out]; exact ⟨hx, trivial⟩
              · exact HOk.out j (by omega)
            · rw [HN.out]; exact A6.out
          case measure => simp [intOf]; omega
      | tree kd N T =>
        rw [hP] at hpk hfr HN
        obtain ⟨ha, hkd, hd, p1, p2, p3, p4, p5, p6, p7, p8⟩ := hpk
        have HP := Lib.hid hP
        have hid0 := p6 _ (id_mem N T)
        have hc := Lib.hid (HFind.out k hlt ha kd (Tr.id N T) (by omega) (by omega) (by omega) (by omega) hd)
        have hcap : (Tr.leaves N T).length ≤ 5000 := by
          have h1 := len_bound 1023 ((Tr.leaves N T).map (·.1)) (p5.sublist (leaves_sub N T)) (fun y hy => by
            have := p6 y ((leaves_sub N T).subset hy)
            omega)
          rw [List.length_map] at h1
          omega
        have hh := Lib.hid (fun (w' : World) (h' : AuAt w1.heap.size w' lb w1.heap.size b mb hb pb S (seenAt P k) lvs) => auTree_any p1 p2 p3 p4 p5 p6 p7 p8 h' hfr hcap)
        have hk1 : (kd == 1) = false := by rcases hkd with rfl | rfl <;> rfl
        clear ha hd p1 p2 p3 p4 p5 p6 p7 p8 hfr hP hcap hkd
        go_wp2_with fail
        with_reducible refine (hc.out _ A4.out.st).mono ?_; rintro e w5 ⟨rfl, hb5⟩
        have A5 := Lib.hid (A4.out.step hb5)
        have K5 := Lib.hid (K4.out.trans (AuK.of_below hb5 hszo))
        clear hb5
        go_wp2_with fail
        with_reducible refine (hh.out _ A5.out).mono ?_; rintro e w6 ⟨er, rfl, hK6, ⟨her, hx⟩ | ⟨rfl, hx, hch, lvs', hA6⟩⟩
        · have he1 : (er == 0) = false := by simpa using her
          have BF := Lib.hid ((B1.out.trans (B3.out.mono hz1)).trans (((K5.out.trans hK6).below).mono hz1))
          clear hK6
          go_wp2_with fail
          go_ret
          have hno : ¬ x ∈ reach P → (∀ k, k < 6 → (P k).chained S) → False := fun h1 h2 => by
            rcases hx with hx | hx
            · have hx' : x ∈ (P k).ids := by rw [HP.out]; exact hx
              exact h1 (List.mem_cons_of_mem _ (List.mem_cons_of_mem _ (mem_firstN.2 ⟨k, hlt, hx'⟩)))
            · have := h2 k hlt
              rw [HP.out] at this
              exact hx this
          exact ⟨er, rfl, BF.out, ⟨fun e => absurd e her, fun hh => (hno hh.1 hh.2.1).elim⟩, fun h1 h2 => (hno h1 h2).elim⟩
        · have A6 := Lib.hid hA6
          have K6 := Lib.hid (K5.out.trans hK6)
          have HCh := Lib.hid hch
          clear hA6 hK6 hch
          go_wp2_with fail
          go_roundw
          case rel =>
            refine ⟨k + 1, by omega, by go_num, fun j hj => ?_, lvs', ?_, K6.out⟩
            · by_cases e : j = k
              · subst e; rw [HP.out]; exact ⟨hx, HCh.out⟩
              · exact HOk.out j (by omega)
            · rw [HN.out]; exact A6.out
          case measure => simp [intOf]; omega
    · have hke : k = 6 := by omega
      subst hke
      have hxr : Hid (¬ x ∈ reach P) := Lib.hid (fun hm => by
        rcases List.mem_cons.1 hm with e | hm
        · exact H.out.xx.1 e
        · rcases List.mem_cons.1 hm with e | hm
          · exact H.out.xx.2 e
          · obtain ⟨j, hj, hm⟩ := mem_firstN.1 hm
            exact (HOk.out j hj).1 hm)
      have hch : Hid (∀ k, k < 6 → (P k).chained S) := Lib.hid (fun j hj => (HOk.out j hj).2)
      have hks : Hid ((seenAt P 6).map (·.1) = reach P) := Lib.hid (seenAt_keys P 6)
      have hsl : (seenM (seenAt P 6)).length = (reach P).length := by
        rw [← hks.out]; simp [seenM]
      have BW : Below w1.heap.size w1 wo := B3.out.trans K4.out.below
      have OU := Lib.hid (own_low22 O1.out BW)
      have BF := Lib.hid (B1.out.trans (BW.mono hz1))

      obtain ⟨c0, c1⟩ := A4.out.cells
      have hlenm := run_len_int22 (P := Tryz.prog) Tryz.underlying83 w1.heap.size (seenM (seenAt P 6)) wo A4.out.map
      rw [hsl] at hlenm
      have HIV := Lib.hid (show ∀ i (hi : i < U.length), (idVals U)[i]? = some (.int .i64 (U[i] : Int)) from fun i hi => by simp [idVals, hi])
      clear BW HOk
      have HLn := Lib.hid (fun (W : World) (h' : IntMap W w1.heap.size (seenM (seenAt P 6))) => run_len_int22 (P := Tryz.prog) Tryz.underlying83 w1.heap.size (seenM (seenAt P 6)) W h')
      rw [hsl] at HLn
      clear hlenm c0 c1 hsl
      go_wp2_with fail
      go_loopw [61] (fun v wr => ∃ i, i ≤ U.length ∧ v = .int .i64 i ∧ (∀ j (hj : j < U.length), j < i → (U[j] : Int) ∈ reach P) ∧ Below wo.heap.size wo wr) (fun v _ => U.length - (intOf v).toNat)
      case atStart => exact ⟨0, by omega, rfl, fun j hj h0 => by omega, Below.refl _ _⟩
      case round =>
        obtain ⟨i, hi, rfl, hin, hb⟩ := hrel
        have HIn := Lib.hid hin
        have A5 := Lib.hid (A4.out.step hb)
        have HB := Lib.hid hb
        have BF5 := Lib.hid (BF.out.trans (hb.mono (by omega)))
        obtain ⟨c0, c1⟩ := A5.out.cells
        have hlenm := HLn.out _ A5.out.map
        have OU5 := Lib.hid (own_low22 OU.out hb)
        clear hin hb
        by_cases hlt : i < U.length
        · obtain ⟨G, rfl, -⟩ := HUa.out (by omega)
          have ci := own_cell22 OU5.out i _ (HIV.out i hlt)
          obtain ⟨u, hu⟩ : ∃ u : Int, ((U[i] : Nat) : Int) = u := ⟨_, rfl⟩
          rw [hu] at ci
          have HU2 := Lib.hid hu
          by_cases hm : u ∈ (seenAt P 6).map (·.1)
          · obtain ⟨vv, hl2⟩ := lookup_had A5.out.map hm
            rw [hks.out] at hm
            have HM := Lib.hid hm
            clear hm hu
            go_wp2_with fail
            go_roundw
            case rel => exact ⟨i + 1, by omega, by go_num, fun j hj hji => by
              by_cases e : j = i
              · subst e; rw [HU2.out]; exact HM.out
              · exact HIn.out j hj (by omega), HB.out⟩
            case measure => simp [intOf]; omega
          · have hl2 := lookup_new A5.out.map hm
            rw [hks.out] at hm
            have HM := Lib.hid hm
            clear hm hu
            go_wp2_with fail
            go_ret
            refine ⟨_, rfl, BF5.out, ⟨fun e => (by cases e), fun hh => absurd ?_ HM.out⟩, fun _ _ => .inr rfl⟩
            rw [← HU2.out]
            exact hh.2.2.1 _ (List.getElem_mem hlt)
        · have hie : i = U.length := by omega
          subst hie
          by_cases hl : U.length = (reach P).length
          · have hlb : ((U.length : Int) == ((reach P).length : Int)) = true := by rw [hl]; exact beq_self_eq_true _
            have HL := Lib.hid hl
            clear hl
            go_wp2_with fail
            go_ret
            refine ⟨0, rfl, BF5.out, ⟨fun _ => ⟨hxr.out, hch.out, fun y hy => ?_, HL.out⟩, fun _ => rfl⟩, fun _ _ => .inl rfl⟩
            obtain ⟨j, hj, rfl⟩ := List.mem_iff_getElem.1 hy
            exact HIn.out j hj hj
          · have hlb : ((U.length : Int) == ((reach P).length : Int)) = false := by simp; omega
            have HL := Lib.hid hl
            clear hl
            go_wp2_with fail
            go_ret
            exact ⟨_, rfl, BF5.out, ⟨fun e => (by cases e), fun hh => absurd hh.2.2.2 HL.out⟩, fun _ _ => .inr rfl⟩
end Go.Proofs.YtljommhbhpappaaGreat
