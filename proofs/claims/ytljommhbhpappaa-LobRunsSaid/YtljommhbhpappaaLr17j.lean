/-
  Layer 17 (lob): the walk of LobRuns.
-/
import Derived.Test.YtljommhbhpappaaLr17i
namespace Go.Proofs.Ytljommhbhpappaa
open Go.RowKit Go.Joins
set_option linter.unusedVariables false
set_option linter.unusedSimpArgs false

theorem opR_kind18 {M : Mo} {c : Ao} (k : c.kind = 18) (h : (opR M c).1 = 0) : byR M c.num = (ByteArray.empty, 150) ∧ (opR M c).2 = some ByteArray.empty := by
  unfold opR at h ⊢
  rw [if_pos k] at h ⊢
  have e : (byR M c.num).2 = 150 := Decidable.byContradiction fun e => by
    rw [if_neg e] at h
    by_cases e2 : (byR M c.num).2 = 0
    · rw [if_pos e2] at h; cases h
    · rw [if_neg e2] at h; exact e2 h
  rw [if_pos e]
  obtain ⟨h1, h2⟩ := byR_none e
  exact ⟨byR_no h1 h2, rfl⟩
theorem opR_other {M : Mo} {c : Ao} (k : c.kind ≠ 18) (h : (opR M c).1 = 0) : (byR M c.num).2 = 0 := by
  unfold opR at h
  rw [if_neg k] at h
  by_cases k2 : c.kind = 21
  · rw [if_pos k2] at h
    simp only at h
    unfold wrR at h
    exact Decidable.byContradiction fun e => by rw [if_pos e] at h; exact e h
  rw [if_neg k2] at h
  by_cases k3 : c.kind = 22
  · rw [if_pos k3] at h
    simp only at h
    unfold trR at h
    exact Decidable.byContradiction fun e => by rw [if_pos e] at h; exact e h
  rw [if_neg k3] at h
  exact h
theorem opR_some {M : Mo} {c : Ao} (k : c.kind = 18 ∨ c.kind = 21 ∨ c.kind = 22) (h : (opR M c).1 = 0) : (opR M c).2 = some ((opR M c).2.getD ByteArray.empty) := by
  have : ∃ x, (opR M c).2 = some x := by
    rcases k with k | k | k
    · exact ⟨_, (opR_kind18 k h).2⟩
    · unfold opR; rw [if_neg (by omega), if_pos k]; exact ⟨_, rfl⟩
    · unfold opR; rw [if_neg (by omega), if_neg (by omega), if_pos k]; exact ⟨_, rfl⟩
  obtain ⟨x, hx⟩ := this
  rw [hx]; rfl
theorem opR_gone {M : Mo} {c : Ao} (k : c.kind = 23) : (opR M c).2 = none := by
  unfold opR; rw [if_neg (by omega), if_neg (by omega), if_neg (by omega)]
theorem opL_is {M : Mo} {c : Ao} (h : (opR M c).1 = 0) : opL M c = stepsTo c.num (chunksO (M c.num)) (chunksO (opR M c).2) (max (chunksO (M c.num)).length (chunksO (opR M c).2).length) := if_pos h
theorem strAt_row {w : World} {N : Nat} {v : Value} {I : List ByteArray} (h : w.ownsRow N 9 1 v I.length (I.map Value.string)) (hl : I.length ≤ 100000) : ∃ a cp, v = .slice a I.length cp ∧ StrAt w a I := by
  obtain ⟨a, cp, rfl, h2⟩ := strAt_own h hl
  exact ⟨a, cp, rfl, h2⟩

theorem load_stpVar {w : World} {n : Nat} {c : Stp} (hr : rowAt w n = some (stpCs c)) : (loadStp (.pointer (some ⟨n, 0, none⟩))).run Try.prog w = .ok (stpV c) w :=
  load_stpIn fun j v hv => by
    rw [Nat.zero_add, cell_row hr]
    simpa using hv
theorem stp_form {w : World} {N cp : Nat} {a : Option Addr} {L : List Stp} (h : w.ownsRow N 47 3 (.slice a L.length cp) L.length (stpRow L)) (hl : 0 < L.length) : ∃ g c, (a = some ⟨g, 0, none⟩ ∧ cp = c) ∧ True := by
  obtain ⟨a2, cp2, e, h2⟩ := own_form22 h
  obtain ⟨g, rfl, -⟩ := h2 hl
  cases e
  exact ⟨g, _, ⟨rfl, rfl⟩, trivial⟩
theorem stp_range {w : World} {N cp g : Nat} {L : List Stp} (h : w.ownsRow N 47 3 (.slice (some ⟨g, 0, none⟩) L.length cp) L.length (stpRow L)) (i : Nat) (hi : i < L.length) : w.rangeAt g (i * 3) (stpCs L[i]).toList := fun j v hv => by
  have := h.cells (g := g) rfl (i * 3 + j) v (stp_row L i hi j v hv)
  rw [Addr.add_lit] at this
  simpa using this

/-- what the loop keeps -/
structure Run17 (w0 w : World) (b mb hb pb B ob : Nat) (L : List (Int × ByteArray)) (q : Nat) : Prop where
  on : LobOn w0 w b mb hb pb (mo L) q
  ob : ObjsIn w B ob L
  lt : b < B ∧ mb < B ∧ hb < B ∧ pb < B
  lo : w0.heap.size ≤ B
theorem Run17.below {w0 w w' : World} {b mb hb pb B ob : Nat} {L : List (Int × ByteArray)} {q : Nat} (h : Run17 w0 w b mb hb pb B ob L q) (hb2 : Below w.heap.size w w') : Run17 w0 w' b mb hb pb B ob L q := ⟨h.on.below hb2, h.ob.below hb2, h.lt, h.lo⟩
theorem Run17.size {w0 w : World} {b mb hb pb B ob : Nat} {L : List (Int × ByteArray)} {q : Nat} (h : Run17 w0 w b mb hb pb B ob L q) : B ≤ w.heap.size := by
  obtain ⟨h1, h2, nv, bv, h3, -⟩ := h.ob
  have := (Array.getElem?_eq_some_iff.1 h3).1
  omega
theorem Run17.put {w0 w1 w : World} {b mb hb pb B ob : Nat} {L : List (Int × ByteArray)} {q : Nat} (h1 : Run17 w0 w1 b mb hb pb B ob L q) (hbl : Below w1.heap.size w1 w) (hl : L.length < 2000) (num : Int) (x : ByteArray) :
    Calls Try.prog 29 #[.pointer (some ⟨ob, 0, none⟩), .int .i64 num, .string x] w fun e w' => e = .returned (.tuple #[]) ∧ LobOn w0 w' b mb hb pb (mo L) q ∧ ObjsIn w' B ob (putL num x L) ∧ (∀ k, w1.heap.size ≤ k → k < w.heap.size → w'.heap[k]? = w.heap[k]?) ∧ Below B w w' := by
  obtain ⟨nv, bv, ho⟩ := h1.ob.at
  have h2 := h1.below hbl
  refine (oput_any (ho.below hbl) hl h2.size num x).mono ?_
  rintro e w' ⟨rfl, k1, k2, k3⟩
  exact ⟨rfl, h2.on.move k2 h2.lt h2.lo, k1, k3.later ho, k2⟩
theorem Run17.drop {w0 w1 w : World} {b mb hb pb B ob : Nat} {L : List (Int × ByteArray)} {q : Nat} (h1 : Run17 w0 w1 b mb hb pb B ob L q) (hbl : Below w1.heap.size w1 w) (num : Int) :
    Calls Try.prog 28 #[.pointer (some ⟨ob, 0, none⟩), .int .i64 num] w fun e w' => e = .returned (.tuple #[]) ∧ LobOn w0 w' b mb hb pb (mo L) q ∧ ObjsIn w' B ob (dropL num L) ∧ (∀ k, w1.heap.size ≤ k → k < w.heap.size → w'.heap[k]? = w.heap[k]?) ∧ Below B w w' := by
  obtain ⟨nv, bv, ho⟩ := h1.ob.at
  have h2 := h1.below hbl
  refine (odrop_any (ho.below hbl) h2.size num).mono ?_
  rintro e w' ⟨rfl, k1, k2, k3⟩
  exact ⟨rfl, h2.on.move k2 h2.lt h2.lo, k1, k3.later ho, k2⟩
/-- behind land the objects are those of the document -/
theorem Run17.land {w0 w : World} {b mb hb pb B ob : Nat} {L L' : List (Int × ByteArray)} {q : Nat} (h : LobOn w0 w b mb hb pb (mo L) q) (ho : ObjsIn w B ob L') (lt : b < B ∧ mb < B ∧ hb < B ∧ pb < B) (lo : w0.heap.size ≤ B) (c : Ao) (h0 : (opR (mo L) c).1 = 0) (he : mo L' = updO (mo L) c.num (opR (mo L) c).2) (hq : q + 4 ≤ 1000) (v : Value) (N : Nat) (hN : mb < N) (hr : w.ownsRow N 47 3 v (opL (mo L) c).length (stpRow (opL (mo L) c))) :
    Calls Try.prog 19 #[.pointer (some ⟨b, 0, none⟩), v] w fun e w' => e = .returned (.bool true) ∧ Run17 w0 w' b mb hb pb B ob L' (q + 4) := by
  obtain ⟨a, cp, rfl, hs⟩ := stpAt_own hr hN
  obtain ⟨es, c2, hm⟩ := h.map
  refine (land_on h c h0 hq a cp hs).mono ?_
  rintro e w' ⟨rfl, k1, k2⟩
  exact ⟨rfl, he ▸ k1, ho.map hm k2, lt, lo⟩

set_option maxHeartbeats 16000000 in
set_option maxRecDepth 100000 in
theorem runs17_walk (a : Option Addr) (len cap : Nat) (I : List Ao) (w : World) (hI : AosIn w a len I) :
    Calls Try.prog 7 #[.slice a len cap] w fun e w' => e = .returned (.bool true) ∧ Below w.heap.size w w' := by
  have HA := Lib.hid (fun w' => awake17 w')
  have HV := Lib.hid (fun w' => volume17 w')
  have HIn := Lib.hid hI
  have hlen := hI.1
  clear hI
  by_cases hl : len ≤ 60
  · have hl1 : decide ((60 : Int) < (len : Int)) = false := by simp; omega
    go_enter Try.func7, Try.ntmps7
    go_wp2_with fail
    with_reducible refine (HA.out _).mono ?_; rintro e w1 ⟨rfl, hb1⟩
    have B1 := Lib.hid hb1
    clear hb1
    go_wp2_with fail
    with_reducible refine (HV.out _).mono ?_; rintro e w2 ⟨b, mb, hb, pb, rfl, h2⟩
    have hlt2 := h2.st.lt
    have L2 : Hid (LobOn w w2 b mb hb pb (fun _ => none) 3) := Lib.hid (LobOn.new ⟨B1.out.trans (h2.low.mono B1.out.size), h2.st, by have := B1.out.size; have := h2.hi; omega⟩)
    have BN := (Below.refl w2.heap.size w2).alloc (Nat.le_refl _) (.cells #[.slice none 0 0, .slice none 0 0] 53)
    have R0 : Hid (Run17 w (w2.alloc (.cells #[.slice none 0 0, .slice none 0 0] 53)) b mb hb pb w2.heap.size w2.heap.size [] 3) := Lib.hid ⟨mo_nil ▸ L2.out.below BN, ⟨Nat.le_refl _, by simp, .slice none 0 0, .slice none 0 0, heap_alloc_new w2 _, World.ownsRow_nil _ _ _ _, World.ownsRow_nil _ _ _ _⟩, hlt2, L2.out.low.size⟩
    clear BN h2
    go_wp2_with fail
    go_loopw [46] (fun v wr => ∃ (k : Nat) (L : List (Int × ByteArray)) (q : Nat), k ≤ len ∧ v = .int .i64 k ∧ L.length ≤ k ∧ Run17 w wr b mb hb pb w2.heap.size w2.heap.size L q ∧ q ≤ 3 + 4 * k) (fun v _ => len - (intOf v).toNat)
    case atStart => exact ⟨0, [], 3, by omega, rfl, by simp, R0.out, by omega⟩
    case round =>
      obtain ⟨k, L, q, hk', rfl, hLk, hRun, hq⟩ := hrel
      obtain ⟨wo, rfl⟩ : ∃ wo : World, wo = wr := ⟨_, rfl⟩
      by_cases hlt : k < len
      · have hVr := HIn.out.below hRun.on.low
        have hIl := HIn.out.2.1
        obtain ⟨bv, off, hvp, hbv, hrow⟩ := hVr.2.2.resolve_left (by omega)
        subst hvp
        obtain ⟨hrg, hok⟩ := hrow k (by omega)
        have hld := load_aoIn hrg
        generalize I[k] = c at *
        have hRun1 := hRun.below ((Below.refl _ _).alloc (Nat.le_refl _) (.cells c.cs 44))
        have RU := Lib.hid hRun1
        have RU0 := Lib.hid hRun
        have BA := Lib.hid ((Below.refl wo.heap.size wo).alloc (Nat.le_refl _) (.cells c.cs 44))
        have R1 := rowAt_at wo c.cs 44 _ rfl
        have c0 := (cell_row R1 0).trans (show _ = some (.int .i64 c.kind) from rfl)
        have c4 := (cell_row R1 4).trans (show _ = some (.int .i64 c.num) from rfl)
        have c5 := (cell_row R1 5).trans (show _ = some (.int .i64 c.pos) from rfl)
        have c6 := (cell_row R1 6).trans (show _ = some (.int .i64 c.len) from rfl)
        have hlv := load_aoVar R1
        have hsm := Lib.hid hRun1.on.small
        clear hVr hrow hbv hrg hok hRun hRun1
        by_cases k19 : c.kind = 19
        · as_aux_lemma =>
          rw [k19] at c0
          have HLn := op_len RU.out.on.at c.num
          have HGt := fun w' (h : ObjsIn w' w2.heap.size w2.heap.size L) => oget_any h c.num
          simp only [getR_eq] at HGt
          generalize byR (mo L) c.num = r at *
          obtain ⟨x, er⟩ := r
          have HL1 := Lib.hid HLn
          have HG1 := Lib.hid HGt
          clear HLn HGt hlv c5 c6
          go_wp2_with fail
          with_reducible refine HL1.out.mono ?_; rintro e w3 ⟨rfl, hb3⟩
          have RU3 := Lib.hid (RU.out.below hb3)
          have c43 := (hb3.cell (p := ⟨wo.heap.size, 4, none⟩) (by simp)).trans c4
          clear hb3 c4 c0
          go_wp2_with fail
          with_reducible refine (HG1.out _ RU3.out.ob).mono ?_; rintro e w4 ⟨rfl, rfl⟩
          go_wp2_with fail
          exact ⟨⟨k + 1, L, q, by omega, by go_num, by omega, RU3.out, by omega⟩, by simp [intOf]; omega⟩
        by_cases k20 : c.kind = 20
        · as_aux_lemma =>
          rw [k20] at c0
          have HLn := op_read RU.out.on.at c.num c.pos c.len
          have HGt := fun w' (h : ObjsIn w' w2.heap.size w2.heap.size L) => oread_any h hsm.out c.num c.pos c.len
          generalize rdR (byR (mo L) c.num) c.pos c.len = r at *
          obtain ⟨er, x⟩ := r
          have hxx : (x.toList != x.toList) = false := by simp
          have HL1 := Lib.hid HLn
          have HG1 := Lib.hid HGt
          clear HLn HGt hlv
          go_wp2_with fail
          with_reducible refine HL1.out.mono ?_; rintro e w3 ⟨rfl, hb3⟩
          have RU3 := Lib.hid (RU.out.below hb3)
          have c43 := (hb3.cell (p := ⟨wo.heap.size, 4, none⟩) (by simp)).trans c4
          have c53 := (hb3.cell (p := ⟨wo.heap.size, 5, none⟩) (by simp)).trans c5
          have c63 := (hb3.cell (p := ⟨wo.heap.size, 6, none⟩) (by simp)).trans c6
          clear hb3 c4 c5 c6 c0
          go_wp2_with fail
          with_reducible refine (HG1.out _ RU3.out.ob).mono ?_; rintro e w4 ⟨rfl, rfl⟩
          go_wp2_with fail
          exact ⟨⟨k + 1, L, q, by omega, by go_num, by omega, RU3.out, by omega⟩, by simp [intOf]; omega⟩
        by_cases k18 : c.kind = 18
        · as_aux_lemma =>
          rw [k18] at c0
          have HSt := steps17 RU.out.on.at c
          have HAf := fun w' (h : ObjsIn w' w2.heap.size w2.heap.size L) => oafter_any h hsm.out c (by omega)
          by_cases e0 : (opR (mo L) c).1 = 0
          · as_aux_lemma =>
            rw [e0] at HSt HAf
            have hLis := opL_is e0
            obtain ⟨hn, hsz, -⟩ := opR_ok e0 hsm.out
            have hLD := fun w' L' v N (h1 : LobOn w w' b mb hb pb (mo L) q) (h2 : ObjsIn w' w2.heap.size w2.heap.size L') (he : mo L' = updO (mo L) c.num (opR (mo L) c).2) (hN : mb < N) (hr : w'.ownsRow N 47 3 v (opL (mo L) c).length (stpRow (opL (mo L) c))) => Run17.land (L' := L') h1 h2 RU0.out.lt RU0.out.lo c e0 he (by omega) v N hN hr
            have hbs : ((opR (mo L) c).2.getD ByteArray.empty).size ≤ 4096 := by
              cases ho : (opR (mo L) c).2 with
              | none => simp
              | some x => exact hsz x ho
            obtain ⟨hby, hO⟩ := opR_kind18 k18 e0
            have hMn := (byR_none (M := mo L) (num := c.num) (by rw [hby])).2
            have hS := opR_some (.inl k18) e0
            rw [hS] at hLis hLD
            rw [hMn] at hLis
            have hLis2 : opL (mo L) c = stepsTo c.num [] (chunks ((opR (mo L) c).2.getD ByteArray.empty)) (max ([] : List ByteArray).length (chunks ((opR (mo L) c).2.getD ByteArray.empty)).length) := hLis
            generalize (opR (mo L) c).2.getD ByteArray.empty = bb at *
            have HG := fun w' (h : ObjsIn w' w2.heap.size w2.heap.size L) => oget_any h c.num
            simp only [getR_eq, hby] at HG
            generalize opL (mo L) c = SL at *
            subst hLis2
            clear hLis
            have htl : (chunks bb).length ≤ 1000 := by rw [chunks_len _ _ (Nat.le_refl _)]; omega
            have HPB := Lib.hid (fun w' => opieces_any bb (by omega) w')
            have HP0 := Lib.hid (fun w' => opieces_any ⟨#[]⟩ (by decide) w')
            have HSP := Lib.hid (fun ta tc w' (ht : StrAt w' ta (chunks bb)) => by have := osteps_any c.num hn none ta 0 tc [] (chunks bb) w' ⟨by simp, .inl rfl⟩ ht (by simp) htl; simp only [List.length_nil] at this; exact this)
            simp only [List.length_nil] at hLD HSt
            have hSl : (stepsTo c.num [] (chunks bb) (max 0 (chunks bb).length)).length ≤ 2000 := Nat.le_trans (stepsTo_len _ _ _ _) (by omega)
            generalize stepsTo c.num [] (chunks bb) (max 0 (chunks bb).length) = SL at *
            have HS1 := Lib.hid HSt
            have HA1 := Lib.hid HAf
            have HG1 := Lib.hid HG
            have HLD := Lib.hid hLD
            have hHN := Lib.hid hn
            clear HSt HAf HG hLD hsz hS hMn hby hn hO c5 c6
            go_wp2_with fail
            with_reducible refine HS1.out.mono ?_; rintro e w3 ⟨v3, rfl, hs3⟩
            obtain ⟨hb3, ho3⟩ := hs3
            obtain ⟨a3, cp3, rfl, -⟩ := own_form22 ho3
            have RU3 := Lib.hid (RU.out.below hb3)
            have W3 := Lib.hid (BA.out.trans (hb3.mono BA.out.size))
            have c03 := (hb3.cell (p := ⟨wo.heap.size, 0, none⟩) (by simp)).trans c0
            have c43 := (hb3.cell (p := ⟨wo.heap.size, 4, none⟩) (by simp)).trans c4
            have hlv3 := load_aoVar ((rowAt_below hb3 (by simp)).trans R1)
            have OL3 := Lib.hid (ownsRow_le ho3 BA.out.size)
            have hz3 := hb3.size
            clear hb3 ho3 c0 c4 hlv
            go_wp2_with fail
            with_reducible refine (HA1.out _ RU3.out.ob).mono ?_; rintro e w4 ⟨rfl, hb4⟩
            have W4 := Lib.hid (W3.out.trans (hb4.mono W3.out.size))
            have RU4 := Lib.hid (RU3.out.below hb4)
            have OL4 := Lib.hid (own_low22 OL3.out hb4)
            have c04 := Lib.hid ((hb4.cell (p := ⟨wo.heap.size, 0, none⟩) (by show wo.heap.size < _; have := hz3; rw [World.size_alloc] at this; omega)).trans c03)
            have c44 := Lib.hid ((hb4.cell (p := ⟨wo.heap.size, 4, none⟩) (by show wo.heap.size < _; have := hz3; rw [World.size_alloc] at this; omega)).trans c43)
            have hz4 : wo.heap.size < w4.heap.size := by have h1 := hb4.size; have h2 := hz3; rw [World.size_alloc] at h2; omega
            clear hb4 hlv3 c03 c43 hz3
            go_wp2_with fail
            with_reducible refine (HP0.out _).mono ?_; rintro e w5 ⟨v5, rfl, hb5, ho5⟩
            have W5 := Lib.hid (W4.out.trans (hb5.mono W4.out.size))
            have RU5 := Lib.hid (RU4.out.below hb5)
            have OL5 := Lib.hid (own_low22 OL4.out hb5)
            have c05 := Lib.hid ((hb5.cell (p := ⟨wo.heap.size, 0, none⟩) hz4).trans c04.out)
            have c45 := Lib.hid ((hb5.cell (p := ⟨wo.heap.size, 4, none⟩) hz4).trans c44.out)
            have hz5 : wo.heap.size < w5.heap.size := Nat.lt_of_lt_of_le hz4 hb5.size
            clear hb5 ho5 hz4
            go_wp2_with fail
            with_reducible refine (HPB.out _).mono ?_; rintro e w6 ⟨v6, rfl, hb6, ho6⟩
            have W6 := Lib.hid (W5.out.trans (hb6.mono W5.out.size))
            have RU6 := Lib.hid (RU5.out.below hb6)
            have OL6 := Lib.hid (own_low22 OL5.out hb6)
            have OB6 := Lib.hid (ownsRow_le ho6 W5.out.size)
            have c06 := (hb6.cell (p := ⟨wo.heap.size, 0, none⟩) hz5).trans c05.out
            have c46 := (hb6.cell (p := ⟨wo.heap.size, 4, none⟩) hz5).trans c45.out
            have hz6 : wo.heap.size < w6.heap.size := Nat.lt_of_lt_of_le hz5 hb6.size
            clear hb6 ho6 hz5
            go_wp2_with fail
            with_reducible refine (HG1.out _ RU6.out.ob).mono ?_; rintro e w6' ⟨rfl, rfl⟩
            have HPD := Lib.hid (RU0.out.put W6.out (by omega) c.num bb)
            have C4 := Lib.hid c46
            go_wp2_with fail
            with_reducible refine HPD.out.mono ?_; rintro e w8 ⟨rfl, on8, ob8, oth8, hbB8⟩
            have ON8 := Lib.hid on8
            have OJ8 := Lib.hid ob8
            have OL8 := Lib.hid (own_oth OL6.out oth8)
            have OB8 := Lib.hid (own_oth OB6.out oth8)
            have c48 : w8.cell? ⟨wo.heap.size, 4, none⟩ = _ := (World.cell?_of_block (w := w6) (w' := w8) (a := ⟨wo.heap.size, 4, none⟩) (oth8 _ (Nat.le_refl _) hz6)).trans C4.out
            clear on8 ob8 oth8 hbB8 hz6 c06 c46
            obtain ⟨ta, tc, rfl, hta⟩ := strAt_row OB8.out (by omega)
            have HSQ := Lib.hid (HSP.out ta tc w8 hta)
            clear hta
            go_wp2_with fail
            with_reducible refine HSQ.out.mono ?_; rintro e w9 ⟨y1, y2, y3, rfl, hb9, hy1, hy2, hy3⟩
            obtain ⟨e1, f1, rfl, hg1⟩ := own_form22 hy1
            obtain ⟨e2, f2, rfl, hg2⟩ := own_form22 hy2
            obtain ⟨e3, f3, rfl, hg3⟩ := own_form22 hy3
            have ON9 := Lib.hid (ON8.out.below hb9)
            have OJ9 := Lib.hid (OJ8.out.below hb9)
            have OL9 := Lib.hid (own_low22 OL8.out hb9)
            have Y1 := Lib.hid hy1
            have Y2 := Lib.hid hy2
            have Y3 := Lib.hid hy3
            have G1 := Lib.hid hg1
            have G2 := Lib.hid hg2
            have G3 := Lib.hid hg3
            have hSll := hSl
            clear hb9 hy1 hy2 hy3 hg1 hg2 hg3 c48
            go_wp2_with fail
            go_loopw [176] (fun v wr => ∃ i : Nat, i ≤ SL.length ∧ v = .int .i64 i ∧ Below w9.heap.size w9 wr) (fun v _ => SL.length - (intOf v).toNat)
            case atStart => exact ⟨0, by omega, rfl, Below.refl _ _⟩
            case round =>
              obtain ⟨i, hi, rfl, hbr⟩ := hrel
              have HBR := Lib.hid hbr
              by_cases hli : i < SL.length
              · obtain ⟨g0, g0c, hg0, hOf⟩ := stp_form OL9.out (by omega)
                obtain ⟨rfl, rfl⟩ := hg0
                obtain ⟨g1, rfl, -⟩ := G1.out (by omega)
                obtain ⟨g2, rfl, -⟩ := G2.out (by omega)
                obtain ⟨g3, rfl, -⟩ := G3.out (by omega)
                have hld := load_stpIn (stp_range (own_low22 OL9.out hbr) i hli)
                have hbr2 : Below w9.heap.size w9 (wr.alloc (.cells (stpCs SL[i]) 47)).drew := (hbr.alloc hbr.size _).drew
                have d1 := own_cell22 (own_low22 Y1.out hbr2) i (.int .i64 SL[i].1) (by simp [hli])
                have d2 := own_cell22 (own_low22 Y2.out hbr2) i (.string SL[i].2.1) (by simp [hli])
                have d3 := own_cell22 (own_low22 Y3.out hbr2) i (.string SL[i].2.2) (by simp [hli])
                have hi1 : (i : Int) < (SL.length : Int) := by omega
                have hi0 : (0 : Int) ≤ (i : Int) := by omega
                have HB2 := Lib.hid hbr2
                generalize SL[i] = x at *
                have d0 := load_stpVar (rowAt_at wr (stpCs x) 47 _ rfl)
                have d0' : (loadStp (.pointer (some ⟨wr.heap.size, 0, none⟩))).run Try.prog (wr.alloc (.cells (stpCs x) 47)).drew = .ok (stpV x) (wr.alloc (.cells (stpCs x) 47)).drew := load_stpVar (show rowAt (wr.alloc (.cells (stpCs x) 47)).drew wr.heap.size = _ from rowAt_at wr (stpCs x) 47 _ rfl)
                obtain ⟨xk, xy, xv⟩ := x
                clear hbr hbr2 hOf d0
                go_wp2_with fail
                go_region_held3 (fun W => W.cell? ⟨g1, i, none⟩ = some (.int .i64 xk) ∧ W.cell? ⟨g2, i, none⟩ = some (.string xy) ∧ W.cell? ⟨g3, i, none⟩ = some (.string xv) ∧ (loadStp (.pointer (some ⟨wr.heap.size, 0, none⟩))).run Try.prog W = .ok (stpV (xk, xy, xv)) W) (exact ⟨d1, d2, d3, d0'⟩) (fail)
                all_goals
                  go_wp2_with fail
                  go_roundw
                  case rel => exact ⟨i + 1, by omega, by go_num, HB2.out⟩
                  case measure => simp [intOf]; omega
              · have hie : i = SL.length := by omega
                subst hie
                have HLQ := Lib.hid (HLD.out _ (putL c.num bb L) _ wo.heap.size (ON9.out.below hbr) (OJ9.out.below hbr) (mo_putE L c.num bb) (Nat.lt_of_lt_of_le RU0.out.lt.2.1 RU0.out.size) (own_low22 OL9.out hbr))
                clear hbr
                go_wp2_with fail
                with_reducible refine HLQ.out.mono ?_; rintro e wz ⟨rfl, hrz⟩
                have RZ := Lib.hid hrz
                have hll : (putL c.num bb L).length ≤ k + 1 := Nat.le_trans (putL_len L c.num bb) (by omega)
                clear hrz
                go_wp2_with fail
                exact ⟨⟨k + 1, _, q + 4, by omega, by go_num, hll, RZ.out, by omega⟩, by simp [intOf]; omega⟩
          · have hLe : opL (mo L) c = [] := by unfold opL; rw [if_neg e0]
            rw [hLe] at HSt
            generalize (opR (mo L) c).1 = er at *
            generalize (opR (mo L) c).2.getD ByteArray.empty = bb at *
            have HS1 := Lib.hid HSt
            have HA1 := Lib.hid HAf
            have er1 : (er != 0) = true := by simpa using e0
            clear HSt HAf hLe
            go_wp2_with fail
            with_reducible refine HS1.out.mono ?_; rintro e w3 ⟨v3, rfl, hs3⟩
            obtain ⟨a3, cp3, rfl, -⟩ := own_form22 hs3.2
            have RU3 := Lib.hid (RU.out.below hs3.1)
            have c03 := (hs3.1.cell (p := ⟨wo.heap.size, 0, none⟩) (by simp)).trans c0
            have hlv3 := load_aoVar ((rowAt_below hs3.1 (by simp)).trans R1)
            clear hs3 c0 hlv
            go_wp2_with fail
            with_reducible refine (HA1.out _ RU3.out.ob).mono ?_; rintro e w4 ⟨rfl, hb4⟩
            have RU4 := Lib.hid (RU3.out.below hb4)
            clear hb4
            go_wp2_with fail
            exact ⟨⟨k + 1, L, q, by omega, by go_num, by omega, RU4.out, by omega⟩, by simp [intOf]; omega⟩
        by_cases k21 : c.kind = 21
        · as_aux_lemma =>
          rw [k21] at c0
          have HSt := steps17 RU.out.on.at c
          have HAf := fun w' (h : ObjsIn w' w2.heap.size w2.heap.size L) => oafter_any h hsm.out c (by omega)
          by_cases e0 : (opR (mo L) c).1 = 0
          · as_aux_lemma =>
            rw [e0] at HSt HAf
            have hLis := opL_is e0
            obtain ⟨hn, hsz, -⟩ := opR_ok e0 hsm.out
            have hLD := fun w' L' v N (h1 : LobOn w w' b mb hb pb (mo L) q) (h2 : ObjsIn w' w2.heap.size w2.heap.size L') (he : mo L' = updO (mo L) c.num (opR (mo L) c).2) (hN : mb < N) (hr : w'.ownsRow N 47 3 v (opL (mo L) c).length (stpRow (opL (mo L) c))) => Run17.land (L' := L') h1 h2 RU0.out.lt RU0.out.lo c e0 he (by omega) v N hN hr
            have hbs : ((opR (mo L) c).2.getD ByteArray.empty).size ≤ 4096 := by
              cases ho : (opR (mo L) c).2 with
              | none => simp
              | some x => exact hsz x ho
            have hS := opR_some (M := mo L) (c := c) (.inr (.inl k21)) e0
            have hB0 := opR_other (by omega) e0
            obtain ⟨-, hMn⟩ := byR_num hB0
            rw [hS] at hLis hLD
            rw [hMn] at hLis
            have hLis2 : opL (mo L) c = stepsTo c.num (chunks (byR (mo L) c.num).1) (chunks ((opR (mo L) c).2.getD ByteArray.empty)) (max (chunks (byR (mo L) c.num).1).length (chunks ((opR (mo L) c).2.getD ByteArray.empty)).length) := hLis
            have hby : byR (mo L) c.num = ((byR (mo L) c.num).1, 0) := by rw [← hB0]
            have hos : ((byR (mo L) c.num).1).size ≤ 4096 := hsm.out _ _ hMn
            generalize (byR (mo L) c.num).1 = old at *
            generalize (opR (mo L) c).2.getD ByteArray.empty = bb at *
            have HG := fun w' (h : ObjsIn w' w2.heap.size w2.heap.size L) => oget_any h c.num
            simp only [getR_eq, hby] at HG
            generalize opL (mo L) c = SL at *
            subst hLis2
            clear hLis
            have hfl : (chunks old).length ≤ 1000 := by rw [chunks_len _ _ (Nat.le_refl _)]; omega
            have HPO := Lib.hid (fun w' => opieces_any old (by omega) w')
            have htl : (chunks bb).length ≤ 1000 := by rw [chunks_len _ _ (Nat.le_refl _)]; omega
            have HPB := Lib.hid (fun w' => opieces_any bb (by omega) w')
            have HP0 := Lib.hid (fun w' => opieces_any ⟨#[]⟩ (by decide) w')
            have HSP := Lib.hid (fun fa fc ta tc w' (hf : StrAt w' fa (chunks old)) (ht : StrAt w' ta (chunks bb)) => osteps_any c.num hn fa ta fc tc (chunks old) (chunks bb) w' hf ht hfl htl)
            have hSl : (stepsTo c.num (chunks old) (chunks bb) (max (chunks old).length (chunks bb).length)).length ≤ 2000 := Nat.le_trans (stepsTo_len _ _ _ _) (by omega)
            generalize stepsTo c.num (chunks old) (chunks bb) (max (chunks old).length (chunks bb).length) = SL at *
            have HS1 := Lib.hid HSt
            have HA1 := Lib.hid HAf
            have HG1 := Lib.hid HG
            have HLD := Lib.hid hLD
            have hHN := Lib.hid hn
            clear HSt HAf HG hLD hsz hS hMn hby hn hB0 hos c5 c6
            go_wp2_with fail
            with_reducible refine HS1.out.mono ?_; rintro e w3 ⟨v3, rfl, hs3⟩
            obtain ⟨hb3, ho3⟩ := hs3
            obtain ⟨a3, cp3, rfl, -⟩ := own_form22 ho3
            have RU3 := Lib.hid (RU.out.below hb3)
            have W3 := Lib.hid (BA.out.trans (hb3.mono BA.out.size))
            have c03 := (hb3.cell (p := ⟨wo.heap.size, 0, none⟩) (by simp)).trans c0
            have c43 := (hb3.cell (p := ⟨wo.heap.size, 4, none⟩) (by simp)).trans c4
            have hlv3 := load_aoVar ((rowAt_below hb3 (by simp)).trans R1)
            have OL3 := Lib.hid (ownsRow_le ho3 BA.out.size)
            have hz3 := hb3.size
            clear hb3 ho3 c0 c4 hlv
            go_wp2_with fail
            with_reducible refine (HA1.out _ RU3.out.ob).mono ?_; rintro e w4 ⟨rfl, hb4⟩
            have W4 := Lib.hid (W3.out.trans (hb4.mono W3.out.size))
            have RU4 := Lib.hid (RU3.out.below hb4)
            have OL4 := Lib.hid (own_low22 OL3.out hb4)
            have c04 := Lib.hid ((hb4.cell (p := ⟨wo.heap.size, 0, none⟩) (by show wo.heap.size < _; have := hz3; rw [World.size_alloc] at this; omega)).trans c03)
            have c44 := Lib.hid ((hb4.cell (p := ⟨wo.heap.size, 4, none⟩) (by show wo.heap.size < _; have := hz3; rw [World.size_alloc] at this; omega)).trans c43)
            have hz4 : wo.heap.size < w4.heap.size := by have h1 := hb4.size; have h2 := hz3; rw [World.size_alloc] at h2; omega
            clear hb4 hlv3 c03 c43 hz3
            go_wp2_with fail
            with_reducible refine (HP0.out _).mono ?_; rintro e w5 ⟨v5, rfl, hb5, ho5⟩
            have W5 := Lib.hid (W4.out.trans (hb5.mono W4.out.size))
            have RU5 := Lib.hid (RU4.out.below hb5)
            have OL5 := Lib.hid (own_low22 OL4.out hb5)
            have c05 := Lib.hid ((hb5.cell (p := ⟨wo.heap.size, 0, none⟩) hz4).trans c04.out)
            have c45 := Lib.hid ((hb5.cell (p := ⟨wo.heap.size, 4, none⟩) hz4).trans c44.out)
            have hz5 : wo.heap.size < w5.heap.size := Nat.lt_of_lt_of_le hz4 hb5.size
            clear hb5 ho5 hz4
            go_wp2_with fail
            with_reducible refine (HPB.out _).mono ?_; rintro e w6 ⟨v6, rfl, hb6, ho6⟩
            have W6 := Lib.hid (W5.out.trans (hb6.mono W5.out.size))
            have RU6 := Lib.hid (RU5.out.below hb6)
            have OL6 := Lib.hid (own_low22 OL5.out hb6)
            have OB6 := Lib.hid (ownsRow_le ho6 W5.out.size)
            have c06 := (hb6.cell (p := ⟨wo.heap.size, 0, none⟩) hz5).trans c05.out
            have c46 := (hb6.cell (p := ⟨wo.heap.size, 4, none⟩) hz5).trans c45.out
            have hz6 : wo.heap.size < w6.heap.size := Nat.lt_of_lt_of_le hz5 hb6.size
            clear hb6 ho6 hz5
            go_wp2_with fail
            with_reducible refine (HG1.out _ RU6.out.ob).mono ?_; rintro e w6' ⟨rfl, rfl⟩
            have C06 := Lib.hid c06
            have C46 := Lib.hid c46
            clear c06 c46
            go_wp2_with fail
            with_reducible refine (HPO.out _).mono ?_; rintro e w7 ⟨v7, rfl, hb7, ho7⟩
            have W7 := Lib.hid (W6.out.trans (hb7.mono W6.out.size))
            have OL7 := Lib.hid (own_low22 OL6.out hb7)
            have OB7 := Lib.hid (own_low22 OB6.out hb7)
            have OA7 := Lib.hid (ownsRow_le ho7 W6.out.size)
            have c07 := (hb7.cell (p := ⟨wo.heap.size, 0, none⟩) hz6).trans C06.out
            have c47 := (hb7.cell (p := ⟨wo.heap.size, 4, none⟩) hz6).trans C46.out
            have hz7 : wo.heap.size < w7.heap.size := Nat.lt_of_lt_of_le hz6 hb7.size
            clear hb7 ho7 hz6
            have HPD := Lib.hid (RU0.out.put W7.out (by omega) c.num bb)
            have C4 := Lib.hid c47
            go_wp2_with fail
            with_reducible refine HPD.out.mono ?_; rintro e w8 ⟨rfl, on8, ob8, oth8, hbB8⟩
            have ON8 := Lib.hid on8
            have OJ8 := Lib.hid ob8
            have OL8 := Lib.hid (own_oth OL7.out oth8)
            have OB8 := Lib.hid (own_oth OB7.out oth8)
            have OA8 := Lib.hid (own_oth OA7.out oth8)
            have c48 : w8.cell? ⟨wo.heap.size, 4, none⟩ = _ := (World.cell?_of_block (w := w7) (w' := w8) (a := ⟨wo.heap.size, 4, none⟩) (oth8 _ (Nat.le_refl _) hz7)).trans C4.out
            clear on8 ob8 oth8 hbB8 hz7 c07 c47
            obtain ⟨fa, fc, rfl, hfa⟩ := strAt_row OA8.out (by omega)
            obtain ⟨ta, tc, rfl, hta⟩ := strAt_row OB8.out (by omega)
            have HSQ := Lib.hid (HSP.out fa fc ta tc w8 hfa hta)
            clear hfa hta
            go_wp2_with fail
            with_reducible refine HSQ.out.mono ?_; rintro e w9 ⟨y1, y2, y3, rfl, hb9, hy1, hy2, hy3⟩
            obtain ⟨e1, f1, rfl, hg1⟩ := own_form22 hy1
            obtain ⟨e2, f2, rfl, hg2⟩ := own_form22 hy2
            obtain ⟨e3, f3, rfl, hg3⟩ := own_form22 hy3
            have ON9 := Lib.hid (ON8.out.below hb9)
            have OJ9 := Lib.hid (OJ8.out.below hb9)
            have OL9 := Lib.hid (own_low22 OL8.out hb9)
            have Y1 := Lib.hid hy1
            have Y2 := Lib.hid hy2
            have Y3 := Lib.hid hy3
            have G1 := Lib.hid hg1
            have G2 := Lib.hid hg2
            have G3 := Lib.hid hg3
            have hSll := hSl
            clear hb9 hy1 hy2 hy3 hg1 hg2 hg3 c48
            go_wp2_with fail
            go_loopw [176] (fun v wr => ∃ i : Nat, i ≤ SL.length ∧ v = .int .i64 i ∧ Below w9.heap.size w9 wr) (fun v _ => SL.length - (intOf v).toNat)
            case atStart => exact ⟨0, by omega, rfl, Below.refl _ _⟩
            case round =>
              obtain ⟨i, hi, rfl, hbr⟩ := hrel
              have HBR := Lib.hid hbr
              by_cases hli : i < SL.length
              · obtain ⟨g0, g0c, hg0, hOf⟩ := stp_form OL9.out (by omega)
                obtain ⟨rfl, rfl⟩ := hg0
                obtain ⟨g1, rfl, -⟩ := G1.out (by omega)
                obtain ⟨g2, rfl, -⟩ := G2.out (by omega)
                obtain ⟨g3, rfl, -⟩ := G3.out (by omega)
                have hld := load_stpIn (stp_range (own_low22 OL9.out hbr) i hli)
                have hbr2 : Below w9.heap.size w9 (wr.alloc (.cells (stpCs SL[i]) 47)).drew := (hbr.alloc hbr.size _).drew
                have d1 := own_cell22 (own_low22 Y1.out hbr2) i (.int .i64 SL[i].1) (by simp [hli])
                have d2 := own_cell22 (own_low22 Y2.out hbr2) i (.string SL[i].2.1) (by simp [hli])
                have d3 := own_cell22 (own_low22 Y3.out hbr2) i (.string SL[i].2.2) (by simp [hli])
                have hi1 : (i : Int) < (SL.length : Int) := by omega
                have hi0 : (0 : Int) ≤ (i : Int) := by omega
                have HB2 := Lib.hid hbr2
                generalize SL[i] = x at *
                have d0 := load_stpVar (rowAt_at wr (stpCs x) 47 _ rfl)
                have d0' : (loadStp (.pointer (some ⟨wr.heap.size, 0, none⟩))).run Try.prog (wr.alloc (.cells (stpCs x) 47)).drew = .ok (stpV x) (wr.alloc (.cells (stpCs x) 47)).drew := load_stpVar (show rowAt (wr.alloc (.cells (stpCs x) 47)).drew wr.heap.size = _ from rowAt_at wr (stpCs x) 47 _ rfl)
                obtain ⟨xk, xy, xv⟩ := x
                clear hbr hbr2 hOf d0
                go_wp2_with fail
                go_region_held3 (fun W => W.cell? ⟨g1, i, none⟩ = some (.int .i64 xk) ∧ W.cell? ⟨g2, i, none⟩ = some (.string xy) ∧ W.cell? ⟨g3, i, none⟩ = some (.string xv) ∧ (loadStp (.pointer (some ⟨wr.heap.size, 0, none⟩))).run Try.prog W = .ok (stpV (xk, xy, xv)) W) (exact ⟨d1, d2, d3, d0'⟩) (fail)
                all_goals
                  go_wp2_with fail
                  go_roundw
                  case rel => exact ⟨i + 1, by omega, by go_num, HB2.out⟩
                  case measure => simp [intOf]; omega
              · have hie : i = SL.length := by omega
                subst hie
                have HLQ := Lib.hid (HLD.out _ (putL c.num bb L) _ wo.heap.size (ON9.out.below hbr) (OJ9.out.below hbr) (mo_putE L c.num bb) (Nat.lt_of_lt_of_le RU0.out.lt.2.1 RU0.out.size) (own_low22 OL9.out hbr))
                clear hbr
                go_wp2_with fail
                with_reducible refine HLQ.out.mono ?_; rintro e wz ⟨rfl, hrz⟩
                have RZ := Lib.hid hrz
                have hll : (putL c.num bb L).length ≤ k + 1 := Nat.le_trans (putL_len L c.num bb) (by omega)
                clear hrz
                go_wp2_with fail
                exact ⟨⟨k + 1, _, q + 4, by omega, by go_num, hll, RZ.out, by omega⟩, by simp [intOf]; omega⟩
          · have hLe : opL (mo L) c = [] := by unfold opL; rw [if_neg e0]
            rw [hLe] at HSt
            generalize (opR (mo L) c).1 = er at *
            generalize (opR (mo L) c).2.getD ByteArray.empty = bb at *
            have HS1 := Lib.hid HSt
            have HA1 := Lib.hid HAf
            have er1 : (er != 0) = true := by simpa using e0
            clear HSt HAf hLe
            go_wp2_with fail
            with_reducible refine HS1.out.mono ?_; rintro e w3 ⟨v3, rfl, hs3⟩
            obtain ⟨a3, cp3, rfl, -⟩ := own_form22 hs3.2
            have RU3 := Lib.hid (RU.out.below hs3.1)
            have c03 := (hs3.1.cell (p := ⟨wo.heap.size, 0, none⟩) (by simp)).trans c0
            have hlv3 := load_aoVar ((rowAt_below hs3.1 (by simp)).trans R1)
            clear hs3 c0 hlv
            go_wp2_with fail
            with_reducible refine (HA1.out _ RU3.out.ob).mono ?_; rintro e w4 ⟨rfl, hb4⟩
            have RU4 := Lib.hid (RU3.out.below hb4)
            clear hb4
            go_wp2_with fail
            exact ⟨⟨k + 1, L, q, by omega, by go_num, by omega, RU4.out, by omega⟩, by simp [intOf]; omega⟩
        by_cases k22 : c.kind = 22
        · as_aux_lemma =>
          rw [k22] at c0
          have HSt := steps17 RU.out.on.at c
          have HAf := fun w' (h : ObjsIn w' w2.heap.size w2.heap.size L) => oafter_any h hsm.out c (by omega)
          by_cases e0 : (opR (mo L) c).1 = 0
          · as_aux_lemma =>
            rw [e0] at HSt HAf
            have hLis := opL_is e0
            obtain ⟨hn, hsz, -⟩ := opR_ok e0 hsm.out
            have hLD := fun w' L' v N (h1 : LobOn w w' b mb hb pb (mo L) q) (h2 : ObjsIn w' w2.heap.size w2.heap.size L') (he : mo L' = updO (mo L) c.num (opR (mo L) c).2) (hN : mb < N) (hr : w'.ownsRow N 47 3 v (opL (mo L) c).length (stpRow (opL (mo L) c))) => Run17.land (L' := L') h1 h2 RU0.out.lt RU0.out.lo c e0 he (by omega) v N hN hr
            have hbs : ((opR (mo L) c).2.getD ByteArray.empty).size ≤ 4096 := by
              cases ho : (opR (mo L) c).2 with
              | none => simp
              | some x => exact hsz x ho
            have hS := opR_some (M := mo L) (c := c) (.inr (.inr k22)) e0
            have hB0 := opR_other (by omega) e0
            obtain ⟨-, hMn⟩ := byR_num hB0
            rw [hS] at hLis hLD
            rw [hMn] at hLis
            have hLis2 : opL (mo L) c = stepsTo c.num (chunks (byR (mo L) c.num).1) (chunks ((opR (mo L) c).2.getD ByteArray.empty)) (max (chunks (byR (mo L) c.num).1).length (chunks ((opR (mo L) c).2.getD ByteArray.empty)).length) := hLis
            have hby : byR (mo L) c.num = ((byR (mo L) c.num).1, 0) := by rw [← hB0]
            have hos : ((byR (mo L) c.num).1).size ≤ 4096 := hsm.out _ _ hMn
            generalize (byR (mo L) c.num).1 = old at *
            generalize (opR (mo L) c).2.getD ByteArray.empty = bb at *
            have HG := fun w' (h : ObjsIn w' w2.heap.size w2.heap.size L) => oget_any h c.num
            simp only [getR_eq, hby] at HG
            generalize opL (mo L) c = SL at *
            subst hLis2
            clear hLis
            have hfl : (chunks old).length ≤ 1000 := by rw [chunks_len _ _ (Nat.le_refl _)]; omega
            have HPO := Lib.hid (fun w' => opieces_any old (by omega) w')
            have htl : (chunks bb).length ≤ 1000 := by rw [chunks_len _ _ (Nat.le_refl _)]; omega
            have HPB := Lib.hid (fun w' => opieces_any bb (by omega) w')
            have HP0 := Lib.hid (fun w' => opieces_any ⟨#[]⟩ (by decide) w')
            have HSP := Lib.hid (fun fa fc ta tc w' (hf : StrAt w' fa (chunks old)) (ht : StrAt w' ta (chunks bb)) => osteps_any c.num hn fa ta fc tc (chunks old) (chunks bb) w' hf ht hfl htl)
            have hSl : (stepsTo c.num (chunks old) (chunks bb) (max (chunks old).length (chunks bb).length)).length ≤ 2000 := Nat.le_trans (stepsTo_len _ _ _ _) (by omega)
            generalize stepsTo c.num (chunks old) (chunks bb) (max (chunks old).length (chunks bb).length) = SL at *
            have HS1 := Lib.hid HSt
            have HA1 := Lib.hid HAf
            have HG1 := Lib.hid HG
            have HLD := Lib.hid hLD
            have hHN := Lib.hid hn
            clear HSt HAf HG hLD hsz hS hMn hby hn hB0 hos c5 c6
            go_wp2_with fail
            with_reducible refine HS1.out.mono ?_; rintro e w3 ⟨v3, rfl, hs3⟩
            obtain ⟨hb3, ho3⟩ := hs3
            obtain ⟨a3, cp3, rfl, -⟩ := own_form22 ho3
            have RU3 := Lib.hid (RU.out.below hb3)
            have W3 := Lib.hid (BA.out.trans (hb3.mono BA.out.size))
            have c03 := (hb3.cell (p := ⟨wo.heap.size, 0, none⟩) (by simp)).trans c0
            have c43 := (hb3.cell (p := ⟨wo.heap.size, 4, none⟩) (by simp)).trans c4
            have hlv3 := load_aoVar ((rowAt_below hb3 (by simp)).trans R1)
            have OL3 := Lib.hid (ownsRow_le ho3 BA.out.size)
            have hz3 := hb3.size
            clear hb3 ho3 c0 c4 hlv
            go_wp2_with fail
            with_reducible refine (HA1.out _ RU3.out.ob).mono ?_; rintro e w4 ⟨rfl, hb4⟩
            have W4 := Lib.hid (W3.out.trans (hb4.mono W3.out.size))
            have RU4 := Lib.hid (RU3.out.below hb4)
            have OL4 := Lib.hid (own_low22 OL3.out hb4)
            have c04 := Lib.hid ((hb4.cell (p := ⟨wo.heap.size, 0, none⟩) (by show wo.heap.size < _; have := hz3; rw [World.size_alloc] at this; omega)).trans c03)
            have c44 := Lib.hid ((hb4.cell (p := ⟨wo.heap.size, 4, none⟩) (by show wo.heap.size < _; have := hz3; rw [World.size_alloc] at this; omega)).trans c43)
            have hz4 : wo.heap.size < w4.heap.size := by have h1 := hb4.size; have h2 := hz3; rw [World.size_alloc] at h2; omega
            clear hb4 hlv3 c03 c43 hz3
            go_wp2_with fail
            with_reducible refine (HP0.out _).mono ?_; rintro e w5 ⟨v5, rfl, hb5, ho5⟩
            have W5 := Lib.hid (W4.out.trans (hb5.mono W4.out.size))
            have RU5 := Lib.hid (RU4.out.below hb5)
            have OL5 := Lib.hid (own_low22 OL4.out hb5)
            have c05 := Lib.hid ((hb5.cell (p := ⟨wo.heap.size, 0, none⟩) hz4).trans c04.out)
            have c45 := Lib.hid ((hb5.cell (p := ⟨wo.heap.size, 4, none⟩) hz4).trans c44.out)
            have hz5 : wo.heap.size < w5.heap.size := Nat.lt_of_lt_of_le hz4 hb5.size
            clear hb5 ho5 hz4
            go_wp2_with fail
            with_reducible refine (HPB.out _).mono ?_; rintro e w6 ⟨v6, rfl, hb6, ho6⟩
            have W6 := Lib.hid (W5.out.trans (hb6.mono W5.out.size))
            have RU6 := Lib.hid (RU5.out.below hb6)
            have OL6 := Lib.hid (own_low22 OL5.out hb6)
            have OB6 := Lib.hid (ownsRow_le ho6 W5.out.size)
            have c06 := (hb6.cell (p := ⟨wo.heap.size, 0, none⟩) hz5).trans c05.out
            have c46 := (hb6.cell (p := ⟨wo.heap.size, 4, none⟩) hz5).trans c45.out
            have hz6 : wo.heap.size < w6.heap.size := Nat.lt_of_lt_of_le hz5 hb6.size
            clear hb6 ho6 hz5
            go_wp2_with fail
            with_reducible refine (HG1.out _ RU6.out.ob).mono ?_; rintro e w6' ⟨rfl, rfl⟩
            have C06 := Lib.hid c06
            have C46 := Lib.hid c46
            clear c06 c46
            go_wp2_with fail
            with_reducible refine (HPO.out _).mono ?_; rintro e w7 ⟨v7, rfl, hb7, ho7⟩
            have W7 := Lib.hid (W6.out.trans (hb7.mono W6.out.size))
            have OL7 := Lib.hid (own_low22 OL6.out hb7)
            have OB7 := Lib.hid (own_low22 OB6.out hb7)
            have OA7 := Lib.hid (ownsRow_le ho7 W6.out.size)
            have c07 := (hb7.cell (p := ⟨wo.heap.size, 0, none⟩) hz6).trans C06.out
            have c47 := (hb7.cell (p := ⟨wo.heap.size, 4, none⟩) hz6).trans C46.out
            have hz7 : wo.heap.size < w7.heap.size := Nat.lt_of_lt_of_le hz6 hb7.size
            clear hb7 ho7 hz6
            have HPD := Lib.hid (RU0.out.put W7.out (by omega) c.num bb)
            have C4 := Lib.hid c47
            go_wp2_with fail
            with_reducible refine HPD.out.mono ?_; rintro e w8 ⟨rfl, on8, ob8, oth8, hbB8⟩
            have ON8 := Lib.hid on8
            have OJ8 := Lib.hid ob8
            have OL8 := Lib.hid (own_oth OL7.out oth8)
            have OB8 := Lib.hid (own_oth OB7.out oth8)
            have OA8 := Lib.hid (own_oth OA7.out oth8)
            have c48 : w8.cell? ⟨wo.heap.size, 4, none⟩ = _ := (World.cell?_of_block (w := w7) (w' := w8) (a := ⟨wo.heap.size, 4, none⟩) (oth8 _ (Nat.le_refl _) hz7)).trans C4.out
            clear on8 ob8 oth8 hbB8 hz7 c07 c47
            obtain ⟨fa, fc, rfl, hfa⟩ := strAt_row OA8.out (by omega)
            obtain ⟨ta, tc, rfl, hta⟩ := strAt_row OB8.out (by omega)
            have HSQ := Lib.hid (HSP.out fa fc ta tc w8 hfa hta)
            clear hfa hta
            go_wp2_with fail
            with_reducible refine HSQ.out.mono ?_; rintro e w9 ⟨y1, y2, y3, rfl, hb9, hy1, hy2, hy3⟩
            obtain ⟨e1, f1, rfl, hg1⟩ := own_form22 hy1
            obtain ⟨e2, f2, rfl, hg2⟩ := own_form22 hy2
            obtain ⟨e3, f3, rfl, hg3⟩ := own_form22 hy3
            have ON9 := Lib.hid (ON8.out.below hb9)
            have OJ9 := Lib.hid (OJ8.out.below hb9)
            have OL9 := Lib.hid (own_low22 OL8.out hb9)
            have Y1 := Lib.hid hy1
            have Y2 := Lib.hid hy2
            have Y3 := Lib.hid hy3
            have G1 := Lib.hid hg1
            have G2 := Lib.hid hg2
            have G3 := Lib.hid hg3
            have hSll := hSl
            clear hb9 hy1 hy2 hy3 hg1 hg2 hg3 c48
            go_wp2_with fail
            go_loopw [176] (fun v wr => ∃ i : Nat, i ≤ SL.length ∧ v = .int .i64 i ∧ Below w9.heap.size w9 wr) (fun v _ => SL.length - (intOf v).toNat)
            case atStart => exact ⟨0, by omega, rfl, Below.refl _ _⟩
            case round =>
              obtain ⟨i, hi, rfl, hbr⟩ := hrel
              have HBR := Lib.hid hbr
              by_cases hli : i < SL.length
              · obtain ⟨g0, g0c, hg0, hOf⟩ := stp_form OL9.out (by omega)
                obtain ⟨rfl, rfl⟩ := hg0
                obtain ⟨g1, rfl, -⟩ := G1.out (by omega)
                obtain ⟨g2, rfl, -⟩ := G2.out (by omega)
                obtain ⟨g3, rfl, -⟩ := G3.out (by omega)
                have hld := load_stpIn (stp_range (own_low22 OL9.out hbr) i hli)
                have hbr2 : Below w9.heap.size w9 (wr.alloc (.cells (stpCs SL[i]) 47)).drew := (hbr.alloc hbr.size _).drew
                have d1 := own_cell22 (own_low22 Y1.out hbr2) i (.int .i64 SL[i].1) (by simp [hli])
                have d2 := own_cell22 (own_low22 Y2.out hbr2) i (.string SL[i].2.1) (by simp [hli])
                have d3 := own_cell22 (own_low22 Y3.out hbr2) i (.string SL[i].2.2) (by simp [hli])
                have hi1 : (i : Int) < (SL.length : Int) := by omega
                have hi0 : (0 : Int) ≤ (i : Int) := by omega
                have HB2 := Lib.hid hbr2
                generalize SL[i] = x at *
                have d0 := load_stpVar (rowAt_at wr (stpCs x) 47 _ rfl)
                have d0' : (loadStp (.pointer (some ⟨wr.heap.size, 0, none⟩))).run Try.prog (wr.alloc (.cells (stpCs x) 47)).drew = .ok (stpV x) (wr.alloc (.cells (stpCs x) 47)).drew := load_stpVar (show rowAt (wr.alloc (.cells (stpCs x) 47)).drew wr.heap.size = _ from rowAt_at wr (stpCs x) 47 _ rfl)
                obtain ⟨xk, xy, xv⟩ := x
                clear hbr hbr2 hOf d0
                go_wp2_with fail
                go_region_held3 (fun W => W.cell? ⟨g1, i, none⟩ = some (.int .i64 xk) ∧ W.cell? ⟨g2, i, none⟩ = some (.string xy) ∧ W.cell? ⟨g3, i, none⟩ = some (.string xv) ∧ (loadStp (.pointer (some ⟨wr.heap.size, 0, none⟩))).run Try.prog W = .ok (stpV (xk, xy, xv)) W) (exact ⟨d1, d2, d3, d0'⟩) (fail)
                all_goals
                  go_wp2_with fail
                  go_roundw
                  case rel => exact ⟨i + 1, by omega, by go_num, HB2.out⟩
                  case measure => simp [intOf]; omega
              · have hie : i = SL.length := by omega
                subst hie
                have HLQ := Lib.hid (HLD.out _ (putL c.num bb L) _ wo.heap.size (ON9.out.below hbr) (OJ9.out.below hbr) (mo_putE L c.num bb) (Nat.lt_of_lt_of_le RU0.out.lt.2.1 RU0.out.size) (own_low22 OL9.out hbr))
                clear hbr
                go_wp2_with fail
                with_reducible refine HLQ.out.mono ?_; rintro e wz ⟨rfl, hrz⟩
                have RZ := Lib.hid hrz
                have hll : (putL c.num bb L).length ≤ k + 1 := Nat.le_trans (putL_len L c.num bb) (by omega)
                clear hrz
                go_wp2_with fail
                exact ⟨⟨k + 1, _, q + 4, by omega, by go_num, hll, RZ.out, by omega⟩, by simp [intOf]; omega⟩
          · have hLe : opL (mo L) c = [] := by unfold opL; rw [if_neg e0]
            rw [hLe] at HSt
            generalize (opR (mo L) c).1 = er at *
            generalize (opR (mo L) c).2.getD ByteArray.empty = bb at *
            have HS1 := Lib.hid HSt
            have HA1 := Lib.hid HAf
            have er1 : (er != 0) = true := by simpa using e0
            clear HSt HAf hLe
            go_wp2_with fail
            with_reducible refine HS1.out.mono ?_; rintro e w3 ⟨v3, rfl, hs3⟩
            obtain ⟨a3, cp3, rfl, -⟩ := own_form22 hs3.2
            have RU3 := Lib.hid (RU.out.below hs3.1)
            have c03 := (hs3.1.cell (p := ⟨wo.heap.size, 0, none⟩) (by simp)).trans c0
            have hlv3 := load_aoVar ((rowAt_below hs3.1 (by simp)).trans R1)
            clear hs3 c0 hlv
            go_wp2_with fail
            with_reducible refine (HA1.out _ RU3.out.ob).mono ?_; rintro e w4 ⟨rfl, hb4⟩
            have RU4 := Lib.hid (RU3.out.below hb4)
            clear hb4
            go_wp2_with fail
            exact ⟨⟨k + 1, L, q, by omega, by go_num, by omega, RU4.out, by omega⟩, by simp [intOf]; omega⟩
        by_cases k23 : c.kind = 23
        · as_aux_lemma =>
          rw [k23] at c0
          have HSt := steps17 RU.out.on.at c
          have HAf := fun w' (h : ObjsIn w' w2.heap.size w2.heap.size L) => oafter_any h hsm.out c (by omega)
          by_cases e0 : (opR (mo L) c).1 = 0
          · as_aux_lemma =>
            rw [e0] at HSt HAf
            have hLis := opL_is e0
            obtain ⟨hn, hsz, -⟩ := opR_ok e0 hsm.out
            have hLD := fun w' L' v N (h1 : LobOn w w' b mb hb pb (mo L) q) (h2 : ObjsIn w' w2.heap.size w2.heap.size L') (he : mo L' = updO (mo L) c.num (opR (mo L) c).2) (hN : mb < N) (hr : w'.ownsRow N 47 3 v (opL (mo L) c).length (stpRow (opL (mo L) c))) => Run17.land (L' := L') h1 h2 RU0.out.lt RU0.out.lo c e0 he (by omega) v N hN hr
            have hbs : ((opR (mo L) c).2.getD ByteArray.empty).size ≤ 4096 := by
              cases ho : (opR (mo L) c).2 with
              | none => simp
              | some x => exact hsz x ho
            have hS := opR_gone (M := mo L) k23
            have hB0 := opR_other (by omega) e0
            obtain ⟨-, hMn⟩ := byR_num hB0
            rw [hS] at hLis hLD
            rw [hMn] at hLis
            have hLis2 : opL (mo L) c = stepsTo c.num (chunks (byR (mo L) c.num).1) [] (max (chunks (byR (mo L) c.num).1).length ([] : List ByteArray).length) := hLis
            have hby : byR (mo L) c.num = ((byR (mo L) c.num).1, 0) := by rw [← hB0]
            have hos : ((byR (mo L) c.num).1).size ≤ 4096 := hsm.out _ _ hMn
            generalize (byR (mo L) c.num).1 = old at *
            generalize (opR (mo L) c).2.getD ByteArray.empty = bb at *
            have HG := fun w' (h : ObjsIn w' w2.heap.size w2.heap.size L) => oget_any h c.num
            simp only [getR_eq, hby] at HG
            generalize opL (mo L) c = SL at *
            subst hLis2
            clear hLis
            have hfl : (chunks old).length ≤ 1000 := by rw [chunks_len _ _ (Nat.le_refl _)]; omega
            have HPO := Lib.hid (fun w' => opieces_any old (by omega) w')
            have htl : (chunks bb).length ≤ 1000 := by rw [chunks_len _ _ (Nat.le_refl _)]; omega
            have HPB := Lib.hid (fun w' => opieces_any bb (by omega) w')
            have HP0 := Lib.hid (fun w' => opieces_any ⟨#[]⟩ (by decide) w')
            have HSP := Lib.hid (fun fa fc w' (hf : StrAt w' fa (chunks old)) => by have := osteps_any c.num hn fa none fc 0 (chunks old) [] w' hf ⟨by simp, .inl rfl⟩ hfl (by simp); simp only [List.length_nil] at this; exact this)
            simp only [List.length_nil] at hLD HSt
            have hSl : (stepsTo c.num (chunks old) [] (max (chunks old).length 0)).length ≤ 2000 := Nat.le_trans (stepsTo_len _ _ _ _) (by omega)
            generalize stepsTo c.num (chunks old) [] (max (chunks old).length 0) = SL at *
            have HS1 := Lib.hid HSt
            have HA1 := Lib.hid HAf
            have HG1 := Lib.hid HG
            have HLD := Lib.hid hLD
            have hHN := Lib.hid hn
            clear HSt HAf HG hLD hsz hS hMn hby hn hB0 hos c5 c6
            go_wp2_with fail
            with_reducible refine HS1.out.mono ?_; rintro e w3 ⟨v3, rfl, hs3⟩
            obtain ⟨hb3, ho3⟩ := hs3
            obtain ⟨a3, cp3, rfl, -⟩ := own_form22 ho3
            have RU3 := Lib.hid (RU.out.below hb3)
            have W3 := Lib.hid (BA.out.trans (hb3.mono BA.out.size))
            have c03 := (hb3.cell (p := ⟨wo.heap.size, 0, none⟩) (by simp)).trans c0
            have c43 := (hb3.cell (p := ⟨wo.heap.size, 4, none⟩) (by simp)).trans c4
            have hlv3 := load_aoVar ((rowAt_below hb3 (by simp)).trans R1)
            have OL3 := Lib.hid (ownsRow_le ho3 BA.out.size)
            have hz3 := hb3.size
            clear hb3 ho3 c0 c4 hlv
            go_wp2_with fail
            with_reducible refine (HA1.out _ RU3.out.ob).mono ?_; rintro e w4 ⟨rfl, hb4⟩
            have W4 := Lib.hid (W3.out.trans (hb4.mono W3.out.size))
            have RU4 := Lib.hid (RU3.out.below hb4)
            have OL4 := Lib.hid (own_low22 OL3.out hb4)
            have c04 := Lib.hid ((hb4.cell (p := ⟨wo.heap.size, 0, none⟩) (by show wo.heap.size < _; have := hz3; rw [World.size_alloc] at this; omega)).trans c03)
            have c44 := Lib.hid ((hb4.cell (p := ⟨wo.heap.size, 4, none⟩) (by show wo.heap.size < _; have := hz3; rw [World.size_alloc] at this; omega)).trans c43)
            have hz4 : wo.heap.size < w4.heap.size := by have h1 := hb4.size; have h2 := hz3; rw [World.size_alloc] at h2; omega
            clear hb4 hlv3 c03 c43 hz3
            go_wp2_with fail
            with_reducible refine (HP0.out _).mono ?_; rintro e w5 ⟨v5, rfl, hb5, ho5⟩
            have W5 := Lib.hid (W4.out.trans (hb5.mono W4.out.size))
            have RU5 := Lib.hid (RU4.out.below hb5)
            have OL5 := Lib.hid (own_low22 OL4.out hb5)
            have c05 := Lib.hid ((hb5.cell (p := ⟨wo.heap.size, 0, none⟩) hz4).trans c04.out)
            have c45 := Lib.hid ((hb5.cell (p := ⟨wo.heap.size, 4, none⟩) hz4).trans c44.out)
            have hz5 : wo.heap.size < w5.heap.size := Nat.lt_of_lt_of_le hz4 hb5.size
            clear hb5 ho5 hz4
            go_wp2_with fail
            with_reducible refine (HPB.out _).mono ?_; rintro e w6 ⟨v6, rfl, hb6, ho6⟩
            have W6 := Lib.hid (W5.out.trans (hb6.mono W5.out.size))
            have RU6 := Lib.hid (RU5.out.below hb6)
            have OL6 := Lib.hid (own_low22 OL5.out hb6)
            have OB6 := Lib.hid (ownsRow_le ho6 W5.out.size)
            have c06 := (hb6.cell (p := ⟨wo.heap.size, 0, none⟩) hz5).trans c05.out
            have c46 := (hb6.cell (p := ⟨wo.heap.size, 4, none⟩) hz5).trans c45.out
            have hz6 : wo.heap.size < w6.heap.size := Nat.lt_of_lt_of_le hz5 hb6.size
            clear hb6 ho6 hz5
            go_wp2_with fail
            with_reducible refine (HG1.out _ RU6.out.ob).mono ?_; rintro e w6' ⟨rfl, rfl⟩
            have C06 := Lib.hid c06
            have C46 := Lib.hid c46
            clear c06 c46
            go_wp2_with fail
            with_reducible refine (HPO.out _).mono ?_; rintro e w7 ⟨v7, rfl, hb7, ho7⟩
            have W7 := Lib.hid (W6.out.trans (hb7.mono W6.out.size))
            have OL7 := Lib.hid (own_low22 OL6.out hb7)
            have OB7 := Lib.hid (own_low22 OB6.out hb7)
            have OA7 := Lib.hid (ownsRow_le ho7 W6.out.size)
            have c07 := (hb7.cell (p := ⟨wo.heap.size, 0, none⟩) hz6).trans C06.out
            have c47 := (hb7.cell (p := ⟨wo.heap.size, 4, none⟩) hz6).trans C46.out
            have hz7 : wo.heap.size < w7.heap.size := Nat.lt_of_lt_of_le hz6 hb7.size
            clear hb7 ho7 hz6
            have HPD := Lib.hid (RU0.out.drop W7.out c.num)
            have C4 := Lib.hid c47
            go_wp2_with fail
            with_reducible refine HPD.out.mono ?_; rintro e w8 ⟨rfl, on8, ob8, oth8, hbB8⟩
            have ON8 := Lib.hid on8
            have OJ8 := Lib.hid ob8
            have OL8 := Lib.hid (own_oth OL7.out oth8)
            have OB8 := Lib.hid (own_oth OB7.out oth8)
            have OA8 := Lib.hid (own_oth OA7.out oth8)
            have c48 : w8.cell? ⟨wo.heap.size, 4, none⟩ = _ := (World.cell?_of_block (w := w7) (w' := w8) (a := ⟨wo.heap.size, 4, none⟩) (oth8 _ (Nat.le_refl _) hz7)).trans C4.out
            clear on8 ob8 oth8 hbB8 hz7 c07 c47
            obtain ⟨fa, fc, rfl, hfa⟩ := strAt_row OA8.out (by omega)
            have HSQ := Lib.hid (HSP.out fa fc w8 hfa)
            clear hfa
            go_wp2_with fail
            with_reducible refine HSQ.out.mono ?_; rintro e w9 ⟨y1, y2, y3, rfl, hb9, hy1, hy2, hy3⟩
            obtain ⟨e1, f1, rfl, hg1⟩ := own_form22 hy1
            obtain ⟨e2, f2, rfl, hg2⟩ := own_form22 hy2
            obtain ⟨e3, f3, rfl, hg3⟩ := own_form22 hy3
            have ON9 := Lib.hid (ON8.out.below hb9)
            have OJ9 := Lib.hid (OJ8.out.below hb9)
            have OL9 := Lib.hid (own_low22 OL8.out hb9)
            have Y1 := Lib.hid hy1
            have Y2 := Lib.hid hy2
            have Y3 := Lib.hid hy3
            have G1 := Lib.hid hg1
            have G2 := Lib.hid hg2
            have G3 := Lib.hid hg3
            have hSll := hSl
            clear hb9 hy1 hy2 hy3 hg1 hg2 hg3 c48
            go_wp2_with fail
            go_loopw [176] (fun v wr => ∃ i : Nat, i ≤ SL.length ∧ v = .int .i64 i ∧ Below w9.heap.size w9 wr) (fun v _ => SL.length - (intOf v).toNat)
            case atStart => exact ⟨0, by omega, rfl, Below.refl _ _⟩
            case round =>
              obtain ⟨i, hi, rfl, hbr⟩ := hrel
              have HBR := Lib.hid hbr
              by_cases hli : i < SL.length
              · obtain ⟨g0, g0c, hg0, hOf⟩ := stp_form OL9.out (by omega)
                obtain ⟨rfl, rfl⟩ := hg0
                obtain ⟨g1, rfl, -⟩ := G1.out (by omega)
                obtain ⟨g2, rfl, -⟩ := G2.out (by omega)
                obtain ⟨g3, rfl, -⟩ := G3.out (by omega)
                have hld := load_stpIn (stp_range (own_low22 OL9.out hbr) i hli)
                have hbr2 : Below w9.heap.size w9 (wr.alloc (.cells (stpCs SL[i]) 47)).drew := (hbr.alloc hbr.size _).drew
                have d1 := own_cell22 (own_low22 Y1.out hbr2) i (.int .i64 SL[i].1) (by simp [hli])
                have d2 := own_cell22 (own_low22 Y2.out hbr2) i (.string SL[i].2.1) (by simp [hli])
                have d3 := own_cell22 (own_low22 Y3.out hbr2) i (.string SL[i].2.2) (by simp [hli])
                have hi1 : (i : Int) < (SL.length : Int) := by omega
                have hi0 : (0 : Int) ≤ (i : Int) := by omega
                have HB2 := Lib.hid hbr2
                generalize SL[i] = x at *
                have d0 := load_stpVar (rowAt_at wr (stpCs x) 47 _ rfl)
                have d0' : (loadStp (.pointer (some ⟨wr.heap.size, 0, none⟩))).run Try.prog (wr.alloc (.cells (stpCs x) 47)).drew = .ok (stpV x) (wr.alloc (.cells (stpCs x) 47)).drew := load_stpVar (show rowAt (wr.alloc (.cells (stpCs x) 47)).drew wr.heap.size = _ from rowAt_at wr (stpCs x) 47 _ rfl)
                obtain ⟨xk, xy, xv⟩ := x
                clear hbr hbr2 hOf d0
                go_wp2_with fail
                go_region_held3 (fun W => W.cell? ⟨g1, i, none⟩ = some (.int .i64 xk) ∧ W.cell? ⟨g2, i, none⟩ = some (.string xy) ∧ W.cell? ⟨g3, i, none⟩ = some (.string xv) ∧ (loadStp (.pointer (some ⟨wr.heap.size, 0, none⟩))).run Try.prog W = .ok (stpV (xk, xy, xv)) W) (exact ⟨d1, d2, d3, d0'⟩) (fail)
                all_goals
                  go_wp2_with fail
                  go_roundw
                  case rel => exact ⟨i + 1, by omega, by go_num, HB2.out⟩
                  case measure => simp [intOf]; omega
              · have hie : i = SL.length := by omega
                subst hie
                have HLQ := Lib.hid (HLD.out _ (dropL c.num L) _ wo.heap.size (ON9.out.below hbr) (OJ9.out.below hbr) (mo_dropE L c.num) (Nat.lt_of_lt_of_le RU0.out.lt.2.1 RU0.out.size) (own_low22 OL9.out hbr))
                clear hbr
                go_wp2_with fail
                with_reducible refine HLQ.out.mono ?_; rintro e wz ⟨rfl, hrz⟩
                have RZ := Lib.hid hrz
                have hll : (dropL c.num L).length ≤ k + 1 := Nat.le_trans (Nat.le_succ_of_le (drop_len L c.num)) (by omega)
                clear hrz
                go_wp2_with fail
                exact ⟨⟨k + 1, _, q + 4, by omega, by go_num, hll, RZ.out, by omega⟩, by simp [intOf]; omega⟩
          · have hLe : opL (mo L) c = [] := by unfold opL; rw [if_neg e0]
            rw [hLe] at HSt
            generalize (opR (mo L) c).1 = er at *
            generalize (opR (mo L) c).2.getD ByteArray.empty = bb at *
            have HS1 := Lib.hid HSt
            have HA1 := Lib.hid HAf
            have er1 : (er != 0) = true := by simpa using e0
            clear HSt HAf hLe
            go_wp2_with fail
            with_reducible refine HS1.out.mono ?_; rintro e w3 ⟨v3, rfl, hs3⟩
            obtain ⟨a3, cp3, rfl, -⟩ := own_form22 hs3.2
            have RU3 := Lib.hid (RU.out.below hs3.1)
            have c03 := (hs3.1.cell (p := ⟨wo.heap.size, 0, none⟩) (by simp)).trans c0
            have hlv3 := load_aoVar ((rowAt_below hs3.1 (by simp)).trans R1)
            clear hs3 c0 hlv
            go_wp2_with fail
            with_reducible refine (HA1.out _ RU3.out.ob).mono ?_; rintro e w4 ⟨rfl, hb4⟩
            have RU4 := Lib.hid (RU3.out.below hb4)
            clear hb4
            go_wp2_with fail
            exact ⟨⟨k + 1, L, q, by omega, by go_num, by omega, RU4.out, by omega⟩, by simp [intOf]; omega⟩
        · clear hlv
          have d0 : decide (c.kind = 19) = false := by simp [k19]
          have d5 : decide (c.kind = 20) = false := by simp [k20]
          have d1 : decide (c.kind = 18) = false := by simp [k18]
          have d2 : decide (c.kind = 21) = false := by simp [k21]
          have d3 : decide (c.kind = 22) = false := by simp [k22]
          have d4 : decide (c.kind = 23) = false := by simp [k23]
          go_wp2_with fail
          all_goals first
            | exact ⟨⟨k + 1, L, q, by omega, by go_num, by omega, RU.out, by omega⟩, by simp [intOf]; omega⟩
            | (exfalso; simp_all)
      · have hke : k = len := by omega
        subst hke
        have RU := Lib.hid hRun
        have HLI := Lib.hid (llist_any hRun.on (by omega))
        have hll := listM_len (mo L) 1000
        clear hRun
        go_wp2_with fail
        with_reducible refine HLI.out.mono ?_; rintro e w3 ⟨v3, rfl, hb3, ho3⟩
        have RU3 := Lib.hid (RU.out.below hb3)
        have OL3 := Lib.hid ho3
        have HOL := Lib.hid (olist_any RU3.out.ob)
        clear hb3 ho3
        go_wp2_with fail
        with_reducible refine HOL.out.mono ?_; rintro e w4 ⟨v4, rfl, hb4, ho4⟩
        have RU4 := Lib.hid (RU3.out.below hb4)
        have HSM := Lib.hid (same17 _ _ v3 v4 _ w4 (own_low22 OL3.out hb4) ho4 (by omega))
        clear hb4 ho4
        go_wp2_with fail
        with_reducible refine HSM.out.mono ?_; rintro e w5 ⟨rfl, hb5⟩
        have RU5 := Lib.hid (RU4.out.below hb5)
        clear hb5
        go_wp2_with fail
        go_ret
        exact ⟨rfl, RU5.out.on.low⟩
  · have hl1 : decide ((60 : Int) < (len : Int)) = true := by simp; omega
    go_enter Try.func7, Try.ntmps7
    go_wp2_with fail
    with_reducible refine (HA.out _).mono ?_; rintro e w1 ⟨rfl, hb1⟩
    have B1 := Lib.hid hb1
    clear hb1
    go_wp2_with fail
    go_ret
    exact ⟨rfl, B1.out⟩
end Go.Proofs.Ytljommhbhpappaa
