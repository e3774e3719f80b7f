/-
  The document's answer for layer 13: its stage: Get and Same.
-/
import Derived.Test.YthehglhbgplfhaaRef13a
namespace Go.Proofs.Ythehglhbgplfhaa
open Go.RowKit Go.Joins
set_option linter.unusedVariables false
set_option linter.unusedSimpArgs false

theorem run_eq_cellsD (d : Nat) (p q : Pg) (w : World) : (Op.equalIn (d + 3) 39 (.agg (pgA p)) (.agg (pgA q))).run Try.prog w = .ok (cellEq p.a0 q.a0 p.d0 q.d0 && (cellEq p.a1 q.a1 p.d1 q.d1 && (cellEq p.a2 q.a2 p.d2 q.d2 && (cellEq p.a3 q.a3 p.d3 q.d3 && (cellEq p.a4 q.a4 p.d4 q.d4 && cellEq p.a5 q.a5 p.d5 q.d5))))) w := by
  obtain ⟨i, hi⟩ : ∃ i, Try.prog.info? 34 = some i := info_of_underlying Try.underlying34
  have ea := run_equalIn_array (P := Try.prog) w (d + 2) (e := 34) (i := i) (pgA p) (pgA q) Try.underlying39 hi
  have hc2 : Try.prog.cellsOf 34 = 2 := by kernel_rfl
  rw [hc2] at ea
  refine ea.trans ?_
  have c0 : ∀ p : Pg, (part 34 (pgA p) (0 * 2)).run Try.prog w = .ok (.agg #[.int .i64 p.a0, .string p.d0]) w := fun _ => by kernel_rfl
  have c1 : ∀ p : Pg, (part 34 (pgA p) (1 * 2)).run Try.prog w = .ok (.agg #[.int .i64 p.a1, .string p.d1]) w := fun _ => by kernel_rfl
  have c2 : ∀ p : Pg, (part 34 (pgA p) (2 * 2)).run Try.prog w = .ok (.agg #[.int .i64 p.a2, .string p.d2]) w := fun _ => by kernel_rfl
  have c3 : ∀ p : Pg, (part 34 (pgA p) (3 * 2)).run Try.prog w = .ok (.agg #[.int .i64 p.a3, .string p.d3]) w := fun _ => by kernel_rfl
  have c4 : ∀ p : Pg, (part 34 (pgA p) (4 * 2)).run Try.prog w = .ok (.agg #[.int .i64 p.a4, .string p.d4]) w := fun _ => by kernel_rfl
  have c5 : ∀ p : Pg, (part 34 (pgA p) (5 * 2)).run Try.prog w = .ok (.agg #[.int .i64 p.a5, .string p.d5]) w := fun _ => by kernel_rfl
  have hk := fun a b x y => run_eq_cell d a b x y w
  have h := eqI_cons (i := 0) (c0 p) (c0 q) (hk _ _ _ _) (eqI_cons (i := 1) (c1 p) (c1 q) (hk _ _ _ _) (eqI_cons (i := 2) (c2 p) (c2 q) (hk _ _ _ _) (eqI_cons (i := 3) (c3 p) (c3 q) (hk _ _ _ _) (eqI_cons (i := 4) (c4 p) (c4 q) (hk _ _ _ _) (eqI_cons (i := 5) (c5 p) (c5 q) (hk _ _ _ _) eqI_nil)))))
  rw [Bool.and_true] at h
  exact h
theorem run_eq_pageD (d : Nat) (p q : Pg) (w : World) : (Op.equalIn (d + 4) 41 p.v q.v).run Try.prog w = .ok (pgEq p q) w := by
  unfold Pg.v
  rw [run_equalIn_agg w (d + 3) 41 _ _ (by kernel_rfl) (by kernel_rfl)]
  simp only [Program.fieldsOf, Try.underlying41]
  have p0 : ∀ (p : Pg), (part 3 p.cs 0).run Try.prog w = .ok (.int .i64 p.k) w := fun p => by kernel_rfl
  have p1 : ∀ (p : Pg), (part 3 p.cs 1).run Try.prog w = .ok (.int .i64 p.l) w := fun p => by kernel_rfl
  have p2 : ∀ (p : Pg), (part 3 p.cs 2).run Try.prog w = .ok (.int .i64 p.s) w := fun p => by kernel_rfl
  have p3 : ∀ (p : Pg), (part 3 p.cs 3).run Try.prog w = .ok (.int .i64 p.n) w := fun p => by kernel_rfl
  have p4 : ∀ (p : Pg), (part 39 p.cs 4).run Try.prog w = .ok (.agg (pgA p)) w := fun p => by kernel_rfl
  have e := fun a b => run_equalIn_int (P := Try.prog) w (d + 2) 3 .i64 .i64 a b Try.underlying3
  have hh : pgEq p q = ((p.k == q.k) && ((p.l == q.l) && ((p.s == q.s) && ((p.n == q.n) && ((cellEq p.a0 q.a0 p.d0 q.d0 && (cellEq p.a1 q.a1 p.d1 q.d1 && (cellEq p.a2 q.a2 p.d2 q.d2 && (cellEq p.a3 q.a3 p.d3 q.d3 && (cellEq p.a4 q.a4 p.d4 q.d4 && cellEq p.a5 q.a5 p.d5 q.d5))))) && true))))) := by rw [Bool.and_true]; rfl
  rw [hh]
  exact eqF_cons (by decide) (p0 p) (p0 q) (e _ _) (eqF_cons (by decide) (p1 p) (p1 q) (e _ _) (eqF_cons (by decide) (p2 p) (p2 q) (e _ _) (eqF_cons (by decide) (p3 p) (p3 q) (e _ _) (eqF_cons (by decide) (p4 p) (p4 q) (run_eq_cellsD d p q w) eqF_nil))))
theorem run_eq_img (i j : Int) (p q : Pg) (w : World) : (Op.equalIn 10000 48 (imgV i p) (imgV j q)).run Try.prog w = .ok ((i == j) && pgEq p q) w := by
  unfold imgV
  rw [show (10000 : Nat) = 9999 + 1 from rfl, run_equalIn_agg w 9999 48 _ _ (by kernel_rfl) (by kernel_rfl)]
  simp only [Program.fieldsOf, Try.underlying48]
  have p0 : ∀ (i : Int) (p : Pg), (part 3 (imgCs i p) 0).run Try.prog w = .ok (.int .i64 i) w := fun i p => by kernel_rfl
  have p1 : ∀ (i : Int) (p : Pg), (part 41 (imgCs i p) 1).run Try.prog w = .ok p.v w := fun i p => by kernel_rfl
  have e := fun a b => run_equalIn_int (P := Try.prog) w 9998 3 .i64 .i64 a b Try.underlying3
  have hh : ((i == j) && pgEq p q) = ((i == j) && (pgEq p q && true)) := by rw [Bool.and_true]
  rw [hh]
  exact eqF_cons (by decide) (p0 i p) (p0 j q) (e _ _) (eqF_cons (by decide) (p1 i p) (p1 j q) (run_eq_pageD 9995 p q w) eqF_nil)
theorem eqGuardImg : Try.prog.eqGuardType Try.prog.depth 48 = false := by kernel_rfl
@[go_sem] theorem run_eqGuard_img (op : BinOp) (x y : Operand) (i j : Int) (p q : Pg) (w : World) : (eqGuard op 48 x y (imgV i p) (imgV j q)).run Try.prog w = .ok () w := run_eqGuard_agg w op 48 x y (imgCs i p) (imgCs j q) eqGuardImg
@[go_sem] theorem run_neq_img (i j : Int) (p q : Pg) (w : World) : (Go.binOp .neq 48 (imgV i p) (imgV j q)).run Try.prog w = .ok (.bool (!((i == j) && pgEq p q))) w := by
  have h := run_neq_struct (P := Try.prog) w 48 (imgCs i p) (imgCs j q)
  have e := run_eq_img i j p q w
  unfold imgV at e ⊢
  rw [h, e]
  rfl

/-- the number of an image in a slice -/
theorem cell_img {w : World} {B g n c : Nat} {I : List (Int × Pg)} (h : w.ownsRow B 48 17 (.slice (some ⟨g, 0, none⟩) n c) n (imgRow I)) (j : Nat) (hj : j < I.length) : w.cell? ⟨g, j * 17, none⟩ = some (.int .i64 I[j].1) := by
  have hl := h.1
  rw [imgRow_len] at hl
  have := h.cellAt (j * 17 + 0) (by omega)
  rw [imgRow_get I j 0 hj (by omega)] at this
  exact this
/-- the page of an image in a slice -/
theorem load_imgAt {w : World} {B g n c : Nat} {I : List (Int × Pg)} (h : w.ownsRow B 48 17 (.slice (some ⟨g, 0, none⟩) n c) n (imgRow I)) (j : Nat) (hj : j < I.length) :
    (loadPg (.pointer (some ⟨g, j * 17 + 1, none⟩))).run Try.prog w = .ok I[j].2.v w := by
  have hl := h.1
  rw [imgRow_len] at hl
  exact run_loadAt_mid w g (j * 17 + 1) 41 I[j].2.cs.toList _ (fun k v hv => by
    have hk : k < 16 := (List.getElem?_eq_some_iff.1 hv).1
    rw [show j * 17 + 1 + k = j * 17 + (k + 1) from by omega, h.cellAt (j * 17 + (k + 1)) (by omega), imgRow_get I j (k + 1) hj (by omega)]
    have h16 : k = 0 ∨ k = 1 ∨ k = 2 ∨ k = 3 ∨ k = 4 ∨ k = 5 ∨ k = 6 ∨ k = 7 ∨ k = 8 ∨ k = 9 ∨ k = 10 ∨ k = 11 ∨ k = 12 ∨ k = 13 ∨ k = 14 ∨ k = 15 := by omega
    rw [← hv]
    rcases h16 with rfl | rfl | rfl | rfl | rfl | rfl | rfl | rfl | rfl | rfl | rfl | rfl | rfl | rfl | rfl | rfl <;> rfl) Try.underlying41 rfl infoPage

/-- the document's stage: over the shelf at kb, what was set in v -/
structure RStage (w : World) (tb kb kp : Nat) (l : List Pg) (v : Value) (B : Nat) (P : List (Int × Pg)) : Prop where
  shelf : RShelf w kb kp l
  st : w.heap[tb]? = some (.cells #[.pointer (some ⟨kb, 0, none⟩), v] 64)
  put : w.ownsRow B 48 17 v P.length (imgRow P)
theorem RStage.below {w w' : World} {tb kb kp B : Nat} {l : List Pg} {v : Value} {P : List (Int × Pg)} (h : RStage w tb kb kp l v B P) (hbl : Below w.heap.size w w') : RStage w' tb kb kp l v B P :=
  ⟨h.shelf.below hbl, (hbl.block tb (Array.getElem?_eq_some_iff.1 h.st).1).trans h.st, own_low h.put hbl⟩

/-- what the document's stage answers -/
def rPg (l : List Pg) (P : List (Int × Pg)) (id : Int) : Pg := match P.find? (fun x => x.1 == id) with | some x => x.2 | none => shelfPg l id
def rE (l : List Pg) (P : List (Int × Pg)) (id : Int) : Int := match P.find? (fun x => x.1 == id) with | some _ => 0 | none => shelfE l id

theorem find_at {P : List (Int × Pg)} {id : Int} {k : Nat} (hk : k < P.length) (hb : ∀ j, j < k → ∀ h : j < P.length, ¬ P[j].1 = id) (he : P[k].1 = id) : P.find? (fun x => x.1 == id) = some P[k] := by
  rw [List.find?_eq_some_iff_getElem]
  refine ⟨by simp [he], k, hk, rfl, fun j hj => ?_⟩
  have := hb j hj (by omega)
  simp [this]
theorem find_no {P : List (Int × Pg)} {id : Int} (hb : ∀ j, ∀ h : j < P.length, ¬ P[j].1 = id) : P.find? (fun x => x.1 == id) = none := by
  rw [List.find?_eq_none]
  intro x hx
  obtain ⟨j, hj, rfl⟩ := List.mem_iff_getElem.1 hx
  simpa using hb j hj

set_option maxHeartbeats 4000000 in
set_option maxRecDepth 100000 in
theorem rstage_get (tb kb kp B : Nat) (l : List Pg) (v : Value) (P : List (Int × Pg)) (id : Int) (w : World) (h : RStage w tb kb kp l v B P) (hn : P.length ≤ 1024) :
    Calls Try.prog 26 #[.pointer (some ⟨tb, 0, none⟩), .int .i64 id] w fun e w' => e = .returned (.tuple #[(rPg l P id).v, .int .i64 (rE l P id)]) ∧ Below w.heap.size w w' := by
  obtain ⟨vp, vc, hv2⟩ : ∃ vp vc, v = .slice vp P.length vc := by
    rcases ownsRow_forms h.put with ⟨h1, h2⟩ | ⟨g, c, h1⟩
    · exact ⟨_, _, by rw [h1, h2]⟩
    · exact ⟨_, _, h1⟩
  subst hv2
  have H := Lib.hid h
  have c0 := cell_of_block h.st 0
  have c1 := cell_of_block h.st 1
  simp only [List.getElem?_toArray, List.getElem?_cons_succ, List.getElem?_cons_zero] at c0 c1
  have lt := (Array.getElem?_eq_some_iff.1 h.st).1
  clear h
  go_enter Try.func26, Try.ntmps26
  go_wp2_with fail
  go_loopw [6] (fun i wr => ∃ k : Nat, k ≤ P.length ∧ i = .int .i64 k ∧ (∀ j, j < k → ∀ h : j < P.length, ¬ P[j].1 = id) ∧ wr = w.alloc (.cells Pg.zero.cs 41)) (fun i _ => P.length - (intOf i).toNat)
  case atStart => exact ⟨0, by omega, rfl, fun j hj => absurd hj (by omega), rfl⟩
  case round =>
    obtain ⟨k, hk, rfl, hno, rfl⟩ := hrel
    have HNo := Lib.hid hno
    clear hno
    by_cases hlt : k < P.length
    · obtain ⟨g, hg⟩ : ∃ g, vp = some ⟨g, 0, none⟩ := by
        obtain ⟨g, cap, hv⟩ := ownsRow_form H.out.put (by omega)
        simp only [Value.slice.injEq] at hv
        exact ⟨g, hv.1⟩
      subst hg
      have hkI : (k : Int) < (P.length : Int) := by omega
      have hp := H.out.put.alloc (.cells Pg.zero.cs 41)
      have hci := cell_img hp k hlt
      have hld := load_imgAt hp k hlt
      have hcase : P[k].1 = id → rPg l P id = P[k].2 ∧ rE l P id = 0 := fun he => by
        have := find_at hlt HNo.out he
        exact ⟨by unfold rPg; rw [this], by unfold rE; rw [this]⟩
      have hnext : ¬ P[k].1 = id → ∀ j, j < k + 1 → ∀ h : j < P.length, ¬ P[j].1 = id := fun he j hj h => by
        by_cases hjk : j = k
        · subst hjk; exact he
        · exact HNo.out j (by omega) h
      have HCs := Lib.hid hcase
      have HNx := Lib.hid hnext
      clear hp hcase hnext
      generalize P[k] = x at *
      obtain ⟨i, p⟩ := x
      simp only at hci hld HCs HNx
      by_cases hi : i = id
      · subst hi
        go_wp2_with fail
        exact ret_page rfl rfl w.heap.size p rfl (by simp [go_sem]) ⟨by rw [(HCs.out (by first | rfl | trivial)).1, (HCs.out (by first | rfl | trivial)).2]; rfl, (Below.refl _ _).alloc (Nat.le_refl _) _⟩
      · have hb : (i == id) = false := by simpa using hi
        have hd : decide (i = id) = false := by simpa using hi
        go_wp2_with fail
        go_roundw
        case rel => exact ⟨k + 1, by omega, by go_num, HNx.out hi, (by first | rfl | trivial)⟩
        case measure => simp [intOf]; omega
    · have hkI : (P.length : Int) ≤ (k : Int) := by omega
      have hfn : P.find? (fun x => x.1 == id) = none := find_no fun j hj => HNo.out j (by omega) hj
      have e1 : rPg l P id = shelfPg l id := by unfold rPg; rw [hfn]
      have e2 : rE l P id = shelfE l id := by unfold rE; rw [hfn]
      have HE := Lib.hid (And.intro e1 e2)
      have hA := H.out.below ((Below.refl w.heap.size w).alloc (Nat.le_refl _) (.cells Pg.zero.cs 41))
      have HC := Lib.hid (rget_any kb kp l id _ hA.shelf)
      clear hA e1 e2 hfn
      generalize shelfPg l id = p at *
      generalize shelfE l id = q at *
      go_wp2_with fail
      refine HC.out.mono ?_; rintro e w1 ⟨rfl, hb1⟩
      have hr1 : rowAt w1 w.heap.size = some Pg.zero.cs := (rowAt_below hb1 (by go_size)).trans (by simp [go_sem])
      have hsz := hb1.size
      have HB := Lib.hid hb1
      simp only [World.size_alloc] at hsz
      clear hb1
      go_wp2
      exact ret_page rfl rfl w.heap.size p rfl (by simp [go_sem, hr1]) ⟨by rw [HE.out.1, HE.out.2]; rfl, below_setRow (((Below.refl _ _).alloc (Nat.le_refl _) _).trans (HB.out.mono (by go_size))) _ (by simp)⟩

set_option maxHeartbeats 4000000 in
set_option maxRecDepth 100000 in
/-- the same images -/
theorem same_ok (B1 B2 : Nat) (v1 v2 : Value) (I : List (Int × Pg)) (w : World) (h1 : w.ownsRow B1 48 17 v1 I.length (imgRow I)) (h2 : w.ownsRow B2 48 17 v2 I.length (imgRow I)) (hn : I.length ≤ 2000) :
    Calls Try.prog 29 #[v1, v2] w fun e w' => e = .returned (.bool true) ∧ Below w.heap.size w w' := by
  obtain ⟨vp, vc, hv1⟩ : ∃ vp vc, v1 = .slice vp I.length vc := by
    rcases ownsRow_forms h1 with ⟨h1, h2⟩ | ⟨g, c, h1⟩
    · exact ⟨_, _, by rw [h1, h2]⟩
    · exact ⟨_, _, h1⟩
  obtain ⟨up, uc, hv2⟩ : ∃ vp vc, v2 = .slice vp I.length vc := by
    rcases ownsRow_forms h2 with ⟨h1, h2⟩ | ⟨g, c, h1⟩
    · exact ⟨_, _, by rw [h1, h2]⟩
    · exact ⟨_, _, h1⟩
  subst hv1 hv2
  have H1 := Lib.hid h1
  have H2 := Lib.hid h2
  clear h1 h2
  go_enter Try.func29, Try.ntmps29
  go_wp2_with fail
  go_loopw [5] (fun i wr => ∃ k : Nat, k ≤ I.length ∧ i = .int .i64 k ∧ Below w.heap.size w wr) (fun i _ => I.length - (intOf i).toNat)
  case atStart => exact ⟨0, by omega, rfl, Below.refl _ _⟩
  case round =>
    obtain ⟨k, hk, rfl, hbl⟩ := hrel
    have HB := Lib.hid hbl
    by_cases hlt : k < I.length
    · obtain ⟨g, hg⟩ : ∃ g, vp = some ⟨g, 0, none⟩ := by
        obtain ⟨g, cap, hv⟩ := ownsRow_form H1.out (by omega)
        simp only [Value.slice.injEq] at hv
        exact ⟨g, hv.1⟩
      obtain ⟨g2, hg2⟩ : ∃ g, up = some ⟨g, 0, none⟩ := by
        obtain ⟨g, cap, hv⟩ := ownsRow_form H2.out (by omega)
        simp only [Value.slice.injEq] at hv
        exact ⟨g, hv.1⟩
      subst hg hg2
      have hkI : (k : Int) < (I.length : Int) := by omega
      have hl1 := load_img (own_low H1.out hbl).drew k hlt
      have hl2 := load_img (own_low H2.out hbl).drew k hlt
      have hl3 := load_img (own_low H1.out hbl) k hlt
      have hl4 := load_img (own_low H2.out hbl) k hlt
      generalize I[k] = x at *
      obtain ⟨i, p⟩ := x
      simp only at hl1 hl2 hl3 hl4
      have hpe := pgEq_self p
      clear hbl
      go_wp2_with fail
      go_region
      go_wp2_with fail
      go_roundw
      case rel => exact ⟨k + 1, by omega, by go_num, HB.out.drew⟩
      case measure => simp [intOf]; omega
    · have hkI : (I.length : Int) ≤ (k : Int) := by omega
      clear hbl
      go_wp2_with fail
      go_ret
      exact ⟨rfl, HB.out⟩
end Go.Proofs.Ythehglhbgplfhaa
