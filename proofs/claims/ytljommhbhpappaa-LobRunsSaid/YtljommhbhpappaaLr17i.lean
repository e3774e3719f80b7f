/-
  Layer 17 (lob): what the walk of LobRuns leans on.
-/
import Derived.Test.YtljommhbhpappaaLr17e
import Derived.Test.YtljommhbhpappaaLr17h
import Derived.Test.YtljommhbhpappaaLob12
namespace Go.Proofs.Ytljommhbhpappaa
open Go.RowKit Go.Joins
set_option linter.unusedVariables false
set_option linter.unusedSimpArgs false

theorem own_oth {w w' : World} {N n s : Nat} {e : TypeId} {v : Value} {xs : List Value} (h : w.ownsRow N e s v n xs) (hk : ∀ k, N ≤ k → k < w.heap.size → w'.heap[k]? = w.heap[k]?) : w'.ownsRow N e s v n xs := by
  refine ⟨h.1, ?_⟩
  rcases h.2 with h2 | ⟨g, cap, cur, hv, hb, hg, h3⟩
  · exact .inl h2
  · exact .inr ⟨g, cap, cur, hv, hb, (hk g hb (Array.getElem?_eq_some_iff.1 hg).1).trans hg, h3⟩
theorem ObjsAt.below {w w' : World} {B ob : Nat} {nv bv : Value} {L : List (Int × ByteArray)} (h : ObjsAt w B ob nv bv L) (hb : Below w.heap.size w w') : ObjsAt w' B ob nv bv L :=
  ⟨h.1, h.2.1, (hb.block ob (Array.getElem?_eq_some_iff.1 h.2.2.1).1).trans h.2.2.1, own_low22 h.2.2.2.1 hb, own_low22 h.2.2.2.2 hb⟩
/-- what was made since a world is not turned by a change of the objects -/
theorem Oth17.later {w0 w w' : World} {B ob : Nat} {nv bv : Value} {L : List (Int × ByteArray)} (h : Oth17 w w' ob nv bv) (h0 : ObjsAt w0 B ob nv bv L) : ∀ k, w0.heap.size ≤ k → k < w.heap.size → w'.heap[k]? = w.heap[k]? := fun k h1 h2 => by
  refine h k h2 ?_ ?_ ?_
  · have := (Array.getElem?_eq_some_iff.1 h0.2.2.1).1; omega
  · intro e; have := (h0.2.2.2.1.lt _ e).2; omega
  · intro e; have := (h0.2.2.2.2.lt _ e).2; omega
theorem LobOn.low {w0 w : World} {b mb hb pb : Nat} {M : Mo} {q : Nat} (h : LobOn w0 w b mb hb pb M q) : Below w0.heap.size w0 w := h.at.low
theorem LobOn.move {w0 w w' : World} {b mb hb pb B : Nat} {M : Mo} {q : Nat} (h : LobOn w0 w b mb hb pb M q) (hb2 : Below B w w') (hB : b < B ∧ mb < B ∧ hb < B ∧ pb < B) (hB0 : w0.heap.size ≤ B) : LobOn w0 w' b mb hb pb M q := by
  obtain ⟨g, ⟨S, F, h1, h2, h3⟩, h4⟩ := h
  exact ⟨g, ⟨S, F, ⟨h1.low.trans (hb2.mono hB0), h1.st.below hb2 hB, h1.hi⟩, h2, h3⟩, h4⟩
theorem LobOn.map {w0 w : World} {b mb hb pb : Nat} {M : Mo} {q : Nat} (h : LobOn w0 w b mb hb pb M q) : ∃ es c, w.heap[mb]? = some (.map es c) := by
  obtain ⟨g, ⟨S, F, h1, h2, h3⟩, h4⟩ := h
  obtain ⟨es, c, h5, -⟩ := h1.st.2.1
  exact ⟨es, c, h5⟩
theorem LobOn.small {w0 w : World} {b mb hb pb : Nat} {M : Mo} {q : Nat} (h : LobOn w0 w b mb hb pb M q) : ∀ n x, M n = some x → x.size ≤ 4096 := by
  obtain ⟨g, -, h4, -⟩ := h
  exact h4.small
theorem own_ne_map {w : World} {B n s g : Nat} {e : TypeId} {v : Value} {xs : List Value} {es : Array MapEntry} {c : Nat} (h : w.ownsRow B e s v n xs) (hg : w.heap[g]? = some (.map es c)) : v.ownBlock = none ∨ v.ownBlock ≠ some g := by
  rcases h.2 with ⟨rfl, _⟩ | ⟨g', cap, cur, rfl, _, hg', _⟩
  · exact .inl rfl
  · refine .inr fun e => ?_
    simp only [Value.ownBlock, Option.some.injEq] at e
    subst e
    rw [hg] at hg'
    cases hg'
theorem ObjsIn.map {w w' : World} {B ob mb : Nat} {L : List (Int × ByteArray)} {es : Array MapEntry} {c : Nat} (h : ObjsIn w B ob L) (hm : w.heap[mb]? = some (.map es c)) (hg : w.grownBy w' (some mb)) : ObjsIn w' B ob L := by
  obtain ⟨h1, h2, nv, bv, h3, h4, h5⟩ := h
  have hne : some ob ≠ some mb := fun e => by
    cases e
    rw [hm] at h3
    cases h3
  exact ⟨h1, h2, nv, bv, (hg.block ob (Array.getElem?_eq_some_iff.1 h3).1 hne).trans h3, h4.kept hg (own_ne_map h4 hm), h5.kept hg (own_ne_map h5 hm)⟩
theorem only_steps {g : Gm} {M : Mo} (h : ObjAt g M) (ho : Only17 g) {num : Int} (hn : 0 ≤ num ∧ num < 1000) {o : Option ByteArray} (hs : ∀ b, o = some b → b.size ≤ 4096) : Only17 (gall g (stepsFull num (chunksO (M num)) (chunksO o))) := by
  have l1 := chunksO_len (o := M num) (fun b hb => h.small num b hb)
  have l2 := chunksO_len hs
  have hsz : ∀ x ∈ chunksO o, x.size ≤ 20 := fun x hx => by
    cases o with
    | none => cases hx
    | some b => have := chunks_size b.size b (Nat.le_refl _) x hx; omega
  obtain ⟨-, -, h3, -⟩ := steps_done num hn (chunksO (M num)) (chunksO o) l1 l2 hsz g (h.get num hn.1 hn.2) _ (Nat.le_refl _)
  intro k hk
  by_cases hx : ∀ i : Nat, i ≤ 256 → k ≠ key4 num i
  · have := h3 k hx
    unfold stepsFull at hk
    rw [this] at hk
    exact ho k hk
  · obtain ⟨i, hi⟩ := Classical.not_forall.1 hx
    obtain ⟨hi1, hi2⟩ := Classical.not_imp.1 hi
    exact ⟨num, i, hn.1, hn.2, hi1, Classical.not_not.1 hi2⟩
theorem land_on {w0 w : World} {b mb hb pb : Nat} {M : Mo} {q : Nat} (h : LobOn w0 w b mb hb pb M q) (c : Ao) (h0 : (opR M c).1 = 0) (hq : q + 4 ≤ 1000) (a : Option Addr) (cp : Nat) (hr : StpAt w mb a (opL M c)) :
    Calls Try.prog 19 #[.pointer (some ⟨b, 0, none⟩), .slice a (opL M c).length cp] w fun e w' => e = .returned (.bool true) ∧ LobOn w0 w' b mb hb pb (updO M c.num (opR M c).2) (q + 4) ∧ w.grownBy w' (some mb) := by
  obtain ⟨g, h1, h2, h2o⟩ := h
  obtain ⟨k1, k2, k3⟩ := opR_ok h0 h2.small
  obtain ⟨v1, v2, v3⟩ := h2.step k1 k2
  have v4 := only_steps h2 h2o k1 k2
  have hl := opL_len (c := c) h2.small
  have e : opL M c = stepsFull c.num (chunksO (M c.num)) (chunksO (opR M c).2) := if_pos h0
  rw [← e] at v1 v2 v3 v4
  refine (land17 _ g q v1 (by omega) (by omega) b mb hb pb a cp w0 w h1 hr).mono ?_
  rintro e' w' ⟨rfl, k4, k5⟩
  exact ⟨rfl, ⟨_, k4.le (by omega), v2, v4⟩, k5⟩
theorem LobOn.new {w0 w : World} {b mb hb pb : Nat} (h : One w0 w b mb hb pb (I0 1024 1024 3)) : LobOn w0 w b mb hb pb (fun _ => none) 3 := ⟨fun _ => none, ⟨_, [], h, I0_hasN3, fun _ => rfl⟩, objAt_nil, fun k hk => absurd rfl hk⟩
theorem mo_nil : mo [] = fun _ => none := rfl
theorem mo_putE (L : List (Int × ByteArray)) (num : Int) (b : ByteArray) : mo (putL num b L) = updO (mo L) num (some b) := funext fun n => mo_put L num b n
theorem mo_dropE (L : List (Int × ByteArray)) (num : Int) : mo (dropL num L) = updO (mo L) num none := funext fun n => mo_drop L num n

set_option maxRecDepth 100000 in
theorem run_eq_stp (d : Nat) (i : Int) (s x : ByteArray) (w : World) : (Op.equalIn (d + 2) 47 (stpV (i, s, x)) (.agg #[.int .i64 i, .string s, .string x])).run Try.prog w = .ok true w := by
  show (Op.equalIn (d + 2) 47 (.agg #[.int .i64 i, .string s, .string x]) (.agg #[.int .i64 i, .string s, .string x])).run Try.prog w = .ok true w
  rw [run_equalIn_agg w (d + 1) 47 _ _ (by kernel_rfl) (by kernel_rfl)]
  simp only [Program.fieldsOf, Try.underlying47]
  have p0 : ∀ (a b c : Value), (part 3 #[a, b, c] 0).run Try.prog w = .ok a w := fun a b c => by kernel_rfl
  have p1 : ∀ (a b c : Value), (part 9 #[a, b, c] 1).run Try.prog w = .ok b w := fun a b c => by kernel_rfl
  have p2 : ∀ (a b c : Value), (part 9 #[a, b, c] 2).run Try.prog w = .ok c w := fun a b c => by kernel_rfl
  have e0 := run_equalIn_int (P := Try.prog) w d 3 .i64 .i64 i i Try.underlying3
  have e1 := run_equalIn_string (P := Try.prog) w d 9 s s Try.underlying9
  have e2 := run_equalIn_string (P := Try.prog) w d 9 x x Try.underlying9
  have hh : true = ((i == i) && ((s.toList == s.toList) && ((x.toList == x.toList) && true))) := by simp
  rw [hh]
  exact eqF_cons (by decide) (p0 _ _ _) (p0 _ _ _) e0 (eqF_cons (by decide) (p1 _ _ _) (p1 _ _ _) e1 (eqF_cons (by decide) (p2 _ _ _) (p2 _ _ _) e2 eqF_nil))
@[go_sem] theorem run_eq_stp10 (i : Int) (s x : ByteArray) (w : World) : (Op.equalIn 10000 47 (stpV (i, s, x)) (.agg #[.int .i64 i, .string s, .string x])).run Try.prog w = .ok true w := run_eq_stp 9998 i s x w

theorem eqGuardStp : Try.prog.eqGuardType Try.prog.depth 47 = false := by kernel_rfl
@[go_sem] theorem run_eqGuard_stp (op : BinOp) (x y : Operand) (i : Int) (s v : ByteArray) (w : World) : (eqGuard op 47 x y (stpV (i, s, v)) (.agg #[.int .i64 i, .string s, .string v])).run Try.prog w = .ok () w := run_eqGuard_agg w op 47 x y (stpCs (i, s, v)) #[.int .i64 i, .string s, .string v] eqGuardStp
@[go_sem] theorem run_neq_stp (i : Int) (s v : ByteArray) (w : World) : (Go.binOp .neq 47 (stpV (i, s, v)) (.agg #[.int .i64 i, .string s, .string v])).run Try.prog w = .ok (.bool false) w := by
  have h := run_neq_struct (P := Try.prog) w 47 (stpCs (i, s, v)) #[.int .i64 i, .string s, .string v]
  have e := run_eq_stp10 i s v w
  unfold stpV at e ⊢
  rw [h, e]
  rfl

/-! ## lists of pairs -/
theorem obRow_get : ∀ (L : List Ob) (i : Nat) (h : i < L.length) (j : Nat) (v : Value), (obCs L[i]).toList[j]? = some v → (obRow L)[i * 3 + j]? = some v
  | [], i, h, j, v, hv => by cases h
  | x :: r, 0, h, j, v, hv => by
    have hj : j < 3 := (List.getElem?_eq_some_iff.1 hv).1
    show ((obCs x).toList ++ obRow r)[0 * 3 + j]? = _
    rw [Nat.zero_mul, Nat.zero_add, List.getElem?_append_left (by have : (obCs x).toList.length = 3 := rfl; omega)]
    exact hv
  | x :: r, i + 1, h, j, v, hv => by
    have ih := obRow_get r i (by simpa using h) j v hv
    show ((obCs x).toList ++ obRow r)[(i + 1) * 3 + j]? = _
    rw [List.getElem?_append_right (by simp [obCs]; omega), show (i + 1) * 3 + j - (obCs x).toList.length = i * 3 + j from by simp [obCs]; omega]
    exact ih
set_option maxHeartbeats 4000000 in
set_option maxRecDepth 100000 in
theorem same17 (B1 B2 : Nat) (v1 v2 : Value) (I : List Ob) (w : World) (h1 : w.ownsRow B1 105 3 v1 I.length (obRow I)) (h2 : w.ownsRow B2 105 3 v2 I.length (obRow I)) (hn : I.length ≤ 100000) :
    Calls Try.prog 32 #[v1, v2] w fun e w' => e = .returned (.bool true) ∧ Below w.heap.size w w' := by
  obtain ⟨a1, p1, rfl, ha1⟩ := own_form22 h1
  obtain ⟨a2, p2, rfl, ha2⟩ := own_form22 h2
  have H1 := Lib.hid h1
  have H2 := Lib.hid h2
  clear h1 h2
  go_enter Try.func32, Try.ntmps32
  go_wp2_with fail
  go_loopw [5] (fun i wr => ∃ k : Nat, k ≤ I.length ∧ i = .int .i64 k ∧ Below w.heap.size w wr) (fun i _ => I.length - (intOf i).toNat)
  case atStart => exact ⟨0, by omega, rfl, Below.refl _ _⟩
  case round =>
    obtain ⟨k, hk, rfl, hbl⟩ := hrel
    have HB := Lib.hid hbl
    by_cases hlt : k < I.length
    · obtain ⟨g, rfl, -⟩ := ha1 (by omega)
      obtain ⟨g2, rfl, -⟩ := ha2 (by omega)
      have hkI : (k : Int) < (I.length : Int) := by omega
      have r1 := own_low22 H1.out hbl
      have r2 := own_low22 H2.out hbl
      have q := obRow_get I k hlt
      generalize I[k] = x at *
      obtain ⟨ck, cr⟩ := x
      have a0 := own_cell22 r1 (k * 3) (.string ByteArray.empty) (q 0 _ rfl)
      have a1 := own_cell22 r1 (k * 3 + 1) (.int .i64 ck) (q 1 _ rfl)
      have a2 := own_cell22 r1 (k * 3 + 2) (.string cr) (q 2 _ rfl)
      have c0 := own_cell22 r2 (k * 3) (.string ByteArray.empty) (q 0 _ rfl)
      have c1 := own_cell22 r2 (k * 3 + 1) (.int .i64 ck) (q 1 _ rfl)
      have c2 := own_cell22 r2 (k * 3 + 2) (.string cr) (q 2 _ rfl)
      have b0 : wr.drew.cell? _ = _ := a0
      have b1 : wr.drew.cell? _ = _ := a1
      have b2 : wr.drew.cell? _ = _ := a2
      have d0 : wr.drew.cell? _ = _ := c0
      have d1 : wr.drew.cell? _ = _ := c1
      have d2 : wr.drew.cell? _ = _ := c2
      clear hbl r1 r2 q
      go_wp2_with fail
      go_region
      all_goals
        go_wp2_with fail
        go_roundw
        case rel => exact ⟨k + 1, by omega, by go_num, HB.out.drew⟩
        case measure => simp [intOf]; omega
    · clear hbl
      go_wp2_with fail
      go_ret
      exact ⟨rfl, HB.out⟩
end Go.Proofs.Ytljommhbhpappaa
