/-
  Layer 16 (tree): Seek, Get.
-/
import Derived.Test.YtljommhbhpappaaTreeP
namespace Go.Proofs.Ytljommhbhpappaa
open Go.RowKit Go.Joins
set_option linter.unusedVariables false
set_option linter.unusedSimpArgs false

/-- the first cell from a key on -/
def seekL (key : ByteArray) (l : List NC) : Option NC := l.find? fun c => !decide (KLt c.key key)
def seekV : Option NC → Value
  | some c => .tuple #[.string c.key, .string c.rest, .int .i64 c.st, .int .i64 0]
  | none => .tuple #[.string ByteArray.empty, .string ByteArray.empty, .int .i64 0, .int .i64 0]
theorem seekL_skip {key : ByteArray} {a b : List NC} (h : ∀ c ∈ a, KLt c.key key) : seekL key (a ++ b) = seekL key b := by
  unfold seekL
  rw [List.find?_append]
  have : a.find? (fun c => !decide (KLt c.key key)) = none := by
    rw [List.find?_eq_none]
    intro c hc
    simp [h c hc]
  rw [this]; rfl
/-- a leaf's first cell from a key on, as Find has it -/
theorem seekL_find {key : ByteArray} : ∀ (L : List NC) (i : Nat), (∃ j, (findL key L i).1 = i + j ∧ j < L.length ∧ seekL key L = L[j]?) ∨ ((findL key L i).1 = i + L.length ∧ ∀ c ∈ L, KLt c.key key)
  | [], i => .inr ⟨rfl, fun c hc => by cases hc⟩
  | c :: r, i => by
    by_cases hc : KLt c.key key
    · have e : findL key (c :: r) i = findL key r (i + 1) := by simp [findL, hc]
      rw [e]
      rcases seekL_find (key := key) r (i + 1) with ⟨j, h1, h2, h3⟩ | ⟨h1, h2⟩
      · refine .inl ⟨j + 1, by omega, by simp only [List.length_cons]; omega, ?_⟩
        have h4 : seekL key (c :: r) = seekL key r := by simp [seekL, List.find?_cons, hc]
        rw [h4, h3, List.getElem?_cons_succ]
      · refine .inr ⟨by simp only [List.length_cons]; omega, fun d hd => ?_⟩
        rcases List.mem_cons.1 hd with rfl | hd
        · exact hc
        · exact h2 d hd
    · refine .inl ⟨0, by simp [findL, hc], by simp, ?_⟩
      simp [seekL, List.find?_cons, hc]

theorem TrAt.leafOk {S : Vol} {st : Int} {n : Nat} {T : Tr n} (h : TrAt S st n T) : ∀ x ∈ Tr.leaves n T, NodeOk 0 x.2 ∧ stE S x.1 = 0 ∧ 1 ≤ x.1 ∧ x.1 < 1024 := by
  have : ∀ (n : Nat) (t : Tr n), Tr.Good n t → ∀ x ∈ Tr.leaves n t, NodeOk 0 x.2 := by
    intro n
    induction n with
    | zero =>
      intro t hg x hx
      have : x = (t.1, t.2) := by simpa [Tr.leaves] using hx
      subst this
      exact hg
    | succ n ih =>
      intro t hg x hx
      obtain ⟨y, hy, hxy⟩ := List.mem_flatMap.1 hx
      exact ih _ (hg.2 y hy) x hxy
  intro x hx
  have hm : x.1 ∈ Tr.ids n T := (leaves_sub n T).subset (List.mem_map.2 ⟨x, hx, rfl⟩)
  exact ⟨this n T h.tin.good x hx, h.tin.ids _ hm⟩

set_option maxHeartbeats 4000000 in
set_option maxRecDepth 100000 in
theorem seek_any {S : Vol} {st : Int} {N : Nat} {T : Tr N} (h : TrAt S st N T) (b mb hb pb : Nat) (kd : Int) (hkd : kd = 2 ∨ kd = 3)
    (hf : ∀ w', StageAt w' b mb hb pb S → Calls Try.prog 68 #[.pointer (some ⟨b, 0, none⟩), .int .i64 st] w' fun e w2 => e = .returned (.tuple #[.int .i64 kd, .int .i64 (Tr.id N T), .int .i64 1, .int .i64 0]) ∧ Below w'.heap.size w' w2)
    (key : ByteArray) (w : World) (hs : StageAt w b mb hb pb S) :
    Calls Try.prog 51 #[.pointer (some ⟨b, 0, none⟩), .int .i64 st, .string key] w fun e w' => e = .returned (seekV (seekL key (flat (Tr.leaves N T)))) ∧ Below w.heap.size w w' := by
  obtain ⟨pre, post, hsp, hpre, hpost⟩ := leaf_split (key := key) N T _ _ h.tin.good h.ord
  have hch := h.chain
  rw [hsp, LeafAll.split] at hch
  have hfew := h.leaves_few
  rw [hsp] at hfew
  have hres : seekL key (flat (Tr.leaves N T)) = seekL key (flat (Tr.leaf key N T :: post)) := by
    rw [hsp, flat_append, seekL_skip (fun c hc => by obtain ⟨x, hx, hc⟩ := mem_flat.1 hc; exact hpre x hx c hc)]
  have HO := Lib.hid (fun w' hs' => open_ok b st none 0 0 kd (Tr.id N T) hkd w' (hf w' hs'))
  have HL := Lib.hid (fun w' wb kv hs' hw' => leaf_any h.tin b mb hb pb wb kv key w' hs' hw')
  have HS := Lib.hid hs
  have hlt := hs.lt
  have START : Hid (∃ x ps, Tr.leaf key N T = x ∧ LeafAll S st (x :: ps) 0 ∧ (∀ y ∈ x :: ps, y ∈ Tr.leaves N T) ∧ 0 + ps.length ≤ 1022 ∧ seekL key (flat (Tr.leaves N T)) = seekL key (flat (x :: ps))) := Lib.hid ⟨_, post, rfl, hch.2, fun y hy => by rw [hsp]; exact List.mem_append_right _ hy, by rw [List.length_append, List.length_cons] at hfew; omega, hres⟩
  have HOK := Lib.hid h.leafOk
  clear hpre hpost hch hsp hres hfew hf h hs
  generalize seekL key (flat (Tr.leaves N T)) = res at *
  generalize Tr.leaf key N T = lf at *
  generalize Tr.id N T = root at *
  go_enter Try.func51, Try.ntmps51
  go_wp2_with fail
  refine (HO.out _ HS.out).mono ?_; rintro e w1 ⟨wb, rfl, hb1, hwb, hw1⟩
  have hz1 := hb1.size
  have B1 := Lib.hid hb1
  have S1 := Lib.hid (HS.out.below hb1 hlt)
  have W1 := Lib.hid hw1
  clear hb1 hw1
  go_wp2_with fail
  refine (HL.out _ wb _ S1.out W1.out).mono ?_; rintro e w2 ⟨rfl, hb2⟩
  have hz2 := hb2.size
  have hz2' : w.heap.size ≤ w2.heap.size := by omega
  have B2 : Hid (Below w.heap.size w w2) := Lib.hid (B1.out.trans (hb2.mono hz1))
  have S2 : Hid (StageAt w2 b mb hb pb S) := Lib.hid (S1.out.below hb2 S1.out.lt)
  have W2 := Lib.hid (W1.out.below hb2)
  clear hb2
  go_wp2_with fail
  go_loopw [11, 14] (fun e v wr => ∃ k : Nat, e = .int .i64 0 ∧ v = .int .i64 k ∧ Below w2.heap.size w2 wr ∧ ∃ x ps, rowAt wr w2.heap.size = some (stPg S x.1).cs ∧ w2.heap.size < wr.heap.size ∧ LeafAll S st (x :: ps) 0 ∧ (∀ y ∈ x :: ps, y ∈ Tr.leaves N T) ∧ k + ps.length ≤ 1022 ∧ res = seekL key (flat (x :: ps))) (fun _ v _ => 1024 - (intOf v).toNat)
  case atStart =>
    obtain ⟨x, ps, e1, e2, e3, e4, e5⟩ := START.out
    refine ⟨0, rfl, rfl, (Below.refl _ _).alloc (Nat.le_refl _) _, x, ps, ?_, by go_size, e2, e3, e4, e5⟩
    rw [← e1]
    exact rowAt_at _ _ _ _ rfl
  case round =>
    obtain ⟨k, rfl, rfl, hbw, ⟨xi, xl⟩, ps, hrow, hzr, hch, hmem, hkp, hres⟩ := hrel
    have hz3 := hbw.size
    have hx0 := HOK.out _ (hmem _ (List.mem_cons_self ..))
    obtain ⟨hx1, -, -, -⟩ := hx0
    have hpg := hch.1
    simp only at hpg hx1 hrow
    rw [hpg] at hrow
    have HF := Lib.hid (fun w' => nfind_any 0 st (nextOf ps 0) xl hx1.1 hx1.cells key w')
    have HC := Lib.hid (fun w' => ncount_nd 0 st (nextOf ps 0) xl hx1.1 hx1.cells w')
    have hpl : (ndPg 0 st (nextOf ps 0) xl).l = 0 := rfl
    have hpn : (ndPg 0 st (nextOf ps 0) xl).n = nextOf ps 0 := rfl
    have HA := Lib.hid (fun i (hi : i < xl.length) => (nd_a 0 st (nextOf ps 0) xl i (by have := hx1.1; omega)).trans (stL_get hi))
    have HD := Lib.hid (fun i (hi : i < xl.length) => (nd_d 0 st (nextOf ps 0) xl i (by have := hx1.1; omega)).trans (dL_get hi))
    have HX := Lib.hid hx1
    have h6 := hx1.1
    have hfl : flat ((xi, xl) :: ps) = xl ++ flat ps := flat_cons _ _
    rw [hfl] at hres
    generalize hnx : nextOf ps 0 = nx at *
    generalize ndPg 0 st nx xl = p at *
    have BW := Lib.hid hbw
    have HCh := Lib.hid hch.2
    have HM := Lib.hid (fun y hy => hmem y (List.mem_cons_of_mem _ hy))
    have HRow := Lib.hid hrow
    have c1 : wr.cell? ⟨w2.heap.size, 1, none⟩ = some (.int .i64 0) := (cell_row hrow 1).trans (by rw [← hpl]; rfl)
    have hk1024 : ((k : Int) == 1024) = false := by simp; omega
    clear hbw hch hmem hpg hx1 hfl
    rcases seekL_find (key := key) xl 0 with ⟨j, h1, h2, h3⟩ | ⟨h1, h2⟩
    · have hresc : res = some xl[j] := by
        rw [hres]
        unfold seekL at h3 ⊢
        rw [List.find?_append, h3, List.getElem?_eq_getElem h2]; rfl
      have hfj : (findL key xl 0).1 = j := by omega
      rw [hfj] at HF
      have hok := HX.out.cells _ (List.getElem_mem h2)
      have HK := Lib.hid (fun w' => key_ok xl[j].st xl[j].key xl[j].rest hok.1 hok.2.1 (by have := hok.2.2; omega) w')
      have hA := HA.out j h2
      have hD := HD.out j h2
      have hd : NC.d xl[j] = tx xl[j].key ++ xl[j].rest := rfl
      rw [hd] at hD
      clear hres h3 hok hd
      generalize (findL key xl 0).2 = fb at *
      generalize xl[j] = c at *
      obtain ⟨ck, cs, cr⟩ := c
      simp only at HK hA hD
      have HRc := Lib.hid hresc
      clear hresc
      generalize tx ck ++ cr = dd at *
      go_wp2_with fail
      refine (HF.out _).mono ?_; rintro e w3 ⟨rfl, hb3⟩
      have hz4 := hb3.size
      have R3 := Lib.hid ((rowAt_below hb3 hzr).trans HRow.out)
      have B3 : Hid (Below w2.heap.size w2 w3) := Lib.hid (BW.out.trans (hb3.mono hz3))
      have R3r := R3.out
      clear hb3 c1 hrow
      go_wp2_with fail
      refine (HC.out _).mono ?_; rintro e w4 ⟨rfl, hb4⟩
      have hz5 := hb4.size
      have R4 := Lib.hid ((rowAt_below hb4 (by omega)).trans R3.out)
      have B4 : Hid (Below w2.heap.size w2 w4) := Lib.hid (B3.out.trans (hb4.mono (by omega)))
      have cA := (cell_row R4.out (4 + j * 2)).trans (cs_a p j (by omega))
      have cD := (cell_row R4.out (4 + j * 2 + 1)).trans (cs_d p j (by omega))
      rw [hA] at cA
      rw [hD] at cD
      clear hb4 R3r
      go_wp2_with fail
      refine (HK.out _).mono ?_; rintro e w5 ⟨rfl, hb5⟩
      have B5 : Hid (Below w2.heap.size w2 w5) := Lib.hid (B4.out.trans (hb5.mono (by omega)))
      have cA5 := (hb5.cell (p := ⟨w2.heap.size, 4 + j * 2, none⟩) (by show w2.heap.size < _; omega)).trans cA
      clear hb5 cA cD
      go_wp2_with fail
      go_region
      go_wp2_with fail
      exact ret_tmp4 rfl rfl ⟨by rw [HRc.out]; rfl, (B2.out.trans (B5.out.mono hz2')).drew⟩
    · have hresn : res = seekL key (flat ps) := by rw [hres, seekL_skip h2]
      have hfj : (findL key xl 0).1 = xl.length := by omega
      rw [hfj] at HF
      generalize (findL key xl 0).2 = fb at *
      clear hres
      go_wp2_with fail
      refine (HF.out _).mono ?_; rintro e w3 ⟨rfl, hb3⟩
      have hz4 := hb3.size
      have R3 := Lib.hid ((rowAt_below hb3 hzr).trans HRow.out)
      have B3 : Hid (Below w2.heap.size w2 w3) := Lib.hid (BW.out.trans (hb3.mono hz3))
      have R3r := R3.out
      clear hb3 c1 hrow
      go_wp2_with fail
      refine (HC.out _).mono ?_; rintro e w4 ⟨rfl, hb4⟩
      have hz5 := hb4.size
      have R4 := Lib.hid ((rowAt_below hb4 (by omega)).trans R3.out)
      have B4 : Hid (Below w2.heap.size w2 w4) := Lib.hid (B3.out.trans (hb4.mono (by omega)))
      have c3 : w4.cell? ⟨w2.heap.size, 3, none⟩ = some (.int .i64 nx) := (cell_row R4.out 3).trans (by rw [← hpn]; rfl)
      clear hb4 R3r
      rcases ps with _ | ⟨y, ps⟩
      · have hnx0 : nx = 0 := by rw [← hnx]; rfl
        have hrn : res = none := by rw [hresn]; rfl
        rw [hnx0] at c3
        go_wp2_with fail
        exact ret_tmp4 rfl rfl ⟨by rw [hrn]; rfl, B2.out.trans (B4.out.mono hz2')⟩
      · have hy := HOK.out y (HM.out y (List.mem_cons_self ..))
        have hnxy : nx = y.1 := by rw [← hnx]; rfl
        have hy0 : (nx == 0) = false := by simp; omega
        obtain ⟨hy1, hy2, -, -⟩ := hy
        have hpy := HCh.out.1
        have HG := Lib.hid (fun w' hs' hw' => wget_ok S b mb hb pb wb st root (.slice none 0 0) y.1 _ hpy hy2 rfl (fun w' => ncheck_node (n := 0) st _ hy1 w') w' hs' hw')
        rw [← hpy] at HG
        have HPy := Lib.hid hpy
        have HR0 := Lib.hid hresn
        clear hpy hy1 hy2 hresn
        go_wp2_with fail
        refine (HG.out _ ((S2.out.below (B4.out.mono (Nat.le_refl _)) S2.out.lt)) (W2.out.below B4.out)).mono ?_; rintro e w5 ⟨rfl, hb5⟩
        have hz6 := hb5.size
        have R5 := (rowAt_below hb5 (by omega)).trans R4.out
        have hrow5 : row16 (rowAt w5 w2.heap.size) = true := by rw [R5]; rfl
        have RF := rowAt_setRow _ _ _ (stPg S y.1).cs R5
        have B5 : Hid (Below w2.heap.size w2 (w5.setRow w2.heap.size (stPg S y.1).cs)) := Lib.hid (below_setRow (B4.out.trans (hb5.mono (by omega))) _ (Nat.le_refl _))
        clear hb5
        go_wp2_with fail
        refine ⟨⟨k + 1, rfl, by go_num, B5.out, y, ps, RF, ?_, HCh.out, HM.out, ?_, HR0.out⟩, ?_⟩
        · have := B4.out.size
          show w2.heap.size < (w5.heap.modify _ _).size
          rw [Array.size_modify]
          omega
        · rw [List.length_cons] at hkp; omega
        · simp [intOf]; omega

/-- what Get says -/
def getL (key : ByteArray) (l : List NC) : Option ByteArray := match seekL key l with | some c => if c.key = key ∧ c.st = 1 then some c.rest else none | none => none
def getV : Option ByteArray → Value
  | some v => .tuple #[.string v, .int .i64 0]
  | none => .tuple #[.string ByteArray.empty, .int .i64 150]
/-- a key that may be -/
def KeyOk (key : ByteArray) : Prop := key ≠ ByteArray.empty ∧ key.size ≤ 8
instance (key : ByteArray) : Decidable (KeyOk key) := inferInstanceAs (Decidable (_ ∧ _))
theorem wrong_any (key : ByteArray) (w : World) : Calls Try.prog 90 #[.string key] w fun e w' => e = .returned (.bool (!decide (KeyOk key))) ∧ w = w' := by
  by_cases h0 : key = ByteArray.empty
  · subst h0
    have e1 : decide (KeyOk ByteArray.empty) = false := by simp [KeyOk]
    rw [e1]
    go_enter Try.func90, Try.ntmps90
    go_wp2
    go_ret
    exact ⟨rfl, rfl⟩
  · have h1 := sem_f h0
    have e1 : decide (KeyOk key) = decide (key.size ≤ 8) := by simp [KeyOk, h0]
    rw [e1]
    have e2 : decide ((8 : Int) < (key.size : Int)) = !decide (key.size ≤ 8) := by rw [← decide_not, decide_eq_decide]; omega
    generalize decide (key.size ≤ 8) = b at *
    go_enter Try.func90, Try.ntmps90
    go_wp2
    go_ret
    exact ⟨rfl, rfl⟩
set_option maxHeartbeats 2000000 in
theorem tget_wrong (b : Value) (st : Int) (key : ByteArray) (hk : ¬ KeyOk key) (w : World) :
    Calls Try.prog 53 #[b, .int .i64 st, .string key] w fun e w' => e = .returned (.tuple #[.string ByteArray.empty, .int .i64 1]) ∧ w = w' := by
  have HW := Lib.hid (fun w' => wrong_any key w')
  rw [show (!decide (KeyOk key)) = true from by simp [hk]] at HW
  go_enter Try.func53, Try.ntmps53
  go_wp2_with fail
  refine (HW.out _).mono ?_; rintro e w1 ⟨rfl, rfl⟩
  go_wp2_with fail
  go_ret2
  exact ⟨rfl, rfl⟩
set_option maxHeartbeats 2000000 in
theorem tget_any {S : Vol} {st : Int} {N : Nat} {T : Tr N} (h : TrAt S st N T) (b mb hb pb : Nat) (kd : Int) (hkd : kd = 2 ∨ kd = 3)
    (hf : ∀ w', StageAt w' b mb hb pb S → Calls Try.prog 68 #[.pointer (some ⟨b, 0, none⟩), .int .i64 st] w' fun e w2 => e = .returned (.tuple #[.int .i64 kd, .int .i64 (Tr.id N T), .int .i64 1, .int .i64 0]) ∧ Below w'.heap.size w' w2)
    (key : ByteArray) (hk : KeyOk key) (w : World) (hs : StageAt w b mb hb pb S) :
    Calls Try.prog 53 #[.pointer (some ⟨b, 0, none⟩), .int .i64 st, .string key] w fun e w' => e = .returned (getV (getL key (flat (Tr.leaves N T)))) ∧ Below w.heap.size w w' := by
  have HW := Lib.hid (fun w' => wrong_any key w')
  rw [show (!decide (KeyOk key)) = false from by simp [hk]] at HW
  have HSk := Lib.hid (seek_any h b mb hb pb kd hkd hf key w hs)
  unfold getL
  clear h hf hs hk
  generalize seekL key (flat (Tr.leaves N T)) = r at *
  rcases r with _ | c
  · go_enter Try.func53, Try.ntmps53
    go_wp2_with fail
    refine (HW.out _).mono ?_; rintro e w1 ⟨rfl, rfl⟩
    go_wp2_with fail
    refine HSk.out.mono ?_; rintro e w1 ⟨rfl, hb1⟩
    unfold seekV
    have HB := Lib.hid hb1
    clear hb1
    go_wp2_with fail
    all_goals
      go_ret2
      exact ⟨rfl, HB.out⟩
  · obtain ⟨ck, cs, cr⟩ := c
    simp only
    generalize hx : (if ck = key ∧ cs = 1 then some cr else none) = x
    have hbq := beq_eq ck key
    by_cases e1 : ck = key
    · by_cases e2 : cs = 1
      · have hxx : some cr = x := by rw [← hx, if_pos ⟨e1, e2⟩]
        subst hxx e1 e2
        clear hx
        go_enter Try.func53, Try.ntmps53
        go_wp2_with fail
        refine (HW.out _).mono ?_; rintro e w1 ⟨rfl, rfl⟩
        go_wp2_with fail
        refine HSk.out.mono ?_; rintro e w1 ⟨rfl, hb1⟩
        unfold seekV
        have HB := Lib.hid hb1
        clear hb1
        go_wp2_with fail
        go_ret2
        exact ⟨rfl, HB.out⟩
      · have hxx : none = x := by rw [← hx, if_neg (fun h => e2 h.2)]
        subst hxx e1
        clear hx
        have hs1 : (cs != 1) = true := by simp [e2]
        go_enter Try.func53, Try.ntmps53
        go_wp2_with fail
        refine (HW.out _).mono ?_; rintro e w1 ⟨rfl, rfl⟩
        go_wp2_with fail
        refine HSk.out.mono ?_; rintro e w1 ⟨rfl, hb1⟩
        unfold seekV
        have HB := Lib.hid hb1
        clear hb1
        go_wp2_with fail
        go_ret2
        exact ⟨rfl, HB.out⟩
    · have hxx : none = x := by rw [← hx, if_neg (fun h => e1 h.1)]
      subst hxx
      clear hx
      have hq : (ck.toList == key.toList) = false := by rw [hbq]; simp [e1]
      have hq2 : (ck.toList != key.toList) = true := by simp [bne, hq]
      clear hbq
      go_enter Try.func53, Try.ntmps53
      go_wp2_with fail
      refine (HW.out _).mono ?_; rintro e w1 ⟨rfl, rfl⟩
      go_wp2_with fail
      refine HSk.out.mono ?_; rintro e w1 ⟨rfl, hb1⟩
      unfold seekV
      have HB := Lib.hid hb1
      clear hb1
      go_wp2_with fail
      go_ret2
      exact ⟨rfl, HB.out⟩
end Go.Proofs.Ytljommhbhpappaa
