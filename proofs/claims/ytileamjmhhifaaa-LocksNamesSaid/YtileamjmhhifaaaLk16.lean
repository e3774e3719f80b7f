/-
  Layer 9 (locks): slices.Compact of pairs.
-/
import Derived.Test.YtileamjmhhifaaaLk15
import Derived.ChangeKeysEq
namespace Go.Proofs.Ytileamjmhhifaaa
open Go.RowKit Go.Joins Go.Sort Go.Shelf
set_option linter.unusedVariables false
set_option linter.unusedSimpArgs false

theorem eqI_cons {d c' : Nat} {e : TypeId} {xs ys : Array Value} {i : Nat} {is : List Nat} {a a' : Value} {b c : Bool} {w : World} (h1 : (part e xs (i * c')).run Try.prog w = .ok a w) (h2 : (part e ys (i * c')).run Try.prog w = .ok a' w)
    (h3 : (Op.equalIn d e a a').run Try.prog w = .ok b w) (h4 : (Op.eqItems d e c' xs ys is).run Try.prog w = .ok c w) : (Op.eqItems d e c' xs ys (i :: is)).run Try.prog w = .ok (b && c) w := by
  simp only [Op.eqItems, Sem.run_bind, h1, h2, h3, Result.andThen_ok]
  cases b
  · rfl
  · exact h4
theorem eqI_nil {d c' : Nat} {e : TypeId} {xs ys : Array Value} {w : World} : (Op.eqItems d e c' xs ys []).run Try.prog w = .ok true w := rfl
@[go_sem] theorem run_eq_pr (a b c d : Int) (w : World) : (Op.equalIn 10000 48 (.agg #[.int .i64 a, .int .i64 b]) (.agg #[.int .i64 c, .int .i64 d])).run Try.prog w = .ok (a == c && b == d) w := by
  obtain ⟨i, hi⟩ : ∃ i, Try.prog.info? 3 = some i := info_of_underlying Try.underlying3
  have ea := run_equalIn_array (P := Try.prog) w 9999 (e := 3) (i := i) #[.int .i64 a, .int .i64 b] #[.int .i64 c, .int .i64 d] Try.underlying48 hi
  have hc2 : Try.prog.cellsOf 3 = 1 := by kernel_rfl
  rw [hc2] at ea
  refine ea.trans ?_
  have p0 : ∀ (v u : Value), (part 3 #[v, u] (0 * 1)).run Try.prog w = .ok v w := fun v u => by kernel_rfl
  have p1 : ∀ (v u : Value), (part 3 #[v, u] (1 * 1)).run Try.prog w = .ok u w := fun v u => by kernel_rfl
  have e0 := run_equalIn_int (P := Try.prog) w 9998 3 .i64 .i64 a c Try.underlying3
  have e1 := run_equalIn_int (P := Try.prog) w 9998 3 .i64 .i64 b d Try.underlying3
  have h := eqI_cons (i := 0) (p0 _ _) (p0 _ _) e0 (eqI_cons (i := 1) (p1 _ _) (p1 _ _) e1 eqI_nil)
  rw [Bool.and_true] at h
  exact h
@[go_sem] theorem run_equal_pr (a b c d : Int) (w : World) : (Op.equal 48 (.agg #[.int .i64 a, .int .i64 b]) (.agg #[.int .i64 c, .int .i64 d])).run Try.prog w = .ok (a == c && b == d) w := run_eq_pr a b c d w

/-- what is left of the first n when the same next to the same goes -/
def dd (R : List Pr) : Nat → List Pr
  | 0 => []
  | n + 1 => dd R n ++ (if 0 < n ∧ R[n]? = R[n - 1]? then [] else R[n]?.toList)
theorem dd_same {R : List Pr} {n : Nat} (h : n < R.length) (h0 : 0 < n) (e : R[n] = R[n - 1]) : dd R (n + 1) = dd R n := by
  rw [dd, if_pos ⟨h0, by rw [List.getElem?_eq_getElem h, List.getElem?_eq_getElem (by omega), e]⟩, List.append_nil]
theorem dd_other {R : List Pr} {n : Nat} (h : n < R.length) (e : 0 < n → R[n] ≠ R[n - 1]'(by omega)) : dd R (n + 1) = dd R n ++ [R[n]] := by
  rw [dd, if_neg, List.getElem?_eq_getElem h]
  · rfl
  · rintro ⟨h0, h1⟩
    rw [List.getElem?_eq_getElem h, List.getElem?_eq_getElem (by omega)] at h1
    exact e h0 (Option.some.inj h1)
theorem dd_sameJ {R : List Pr} {n j : Nat} (h : n < R.length) (hj : j + 1 = n) (e : R[n] = R[j]'(by omega)) : dd R (n + 1) = dd R n := by
  subst hj
  exact dd_same h (by omega) e
theorem dd_otherJ {R : List Pr} {n j : Nat} (h : n < R.length) (hj : j + 1 = n) (e : R[n] ≠ R[j]'(by omega)) : dd R (n + 1) = dd R n ++ [R[n]] := by
  subst hj
  exact dd_other h fun _ => e
theorem dd_len (R : List Pr) : ∀ n, (dd R n).length ≤ n
  | 0 => by simp [dd]
  | n + 1 => by
    have := dd_len R n
    rw [dd, List.length_append]
    split
    · simp; omega
    · have : (R[n]?.toList).length ≤ 1 := by cases R[n]? <;> simp
      omega
theorem dd_one (R : List Pr) (h : R.length < 2) : dd R R.length = R := by
  match R, h with
  | [], _ => rfl
  | [x], _ => rfl
/-- of a sorted row: rising, and with the same members -/
theorem dd_sorted (R : List Pr) (hs : R.Pairwise (fun x y => ¬ ltP y x)) : ∀ n (hn : n ≤ R.length), (dd R n).Pairwise ltP ∧ (∀ p, p ∈ dd R n ↔ p ∈ R.take n) ∧ ∀ p ∈ dd R n, ∀ (h0 : 0 < n), p = R[n - 1]'(by omega) ∨ ltP p (R[n - 1]'(by omega))
  | 0, _ => ⟨List.Pairwise.nil, fun p => by simp [dd], fun p hp => by cases hp⟩
  | n + 1, hn => by
    obtain ⟨i1, i2, i3⟩ := dd_sorted R hs n (by omega)
    have hn' : n < R.length := by omega
    have ht : R.take (n + 1) = R.take n ++ [R[n]] := List.take_succ_eq_append_getElem hn'
    by_cases h0 : 0 < n
    · by_cases e : R[n] = R[n - 1]
      · rw [dd_same hn' h0 e, ht]
        refine ⟨i1, fun p => ?_, fun p hp _ => ?_⟩
        · rw [i2 p, List.mem_append, List.mem_singleton]
          constructor
          · exact .inl
          · rintro (h | h)
            · exact h
            · rw [h, e]
              exact List.mem_take_iff_getElem.2 ⟨n - 1, by omega, rfl⟩
        · have := i3 p hp h0
          simp only [Nat.add_sub_cancel]
          rw [e]; exact this
      · have hlt : ltP R[n - 1] R[n] := by
          have h1 := List.pairwise_iff_getElem.1 hs (n - 1) n (by omega) hn' (by omega)
          generalize R[n] = a at *
          generalize R[n - 1] = b at *
          obtain ⟨a1, a2⟩ := a
          obtain ⟨b1, b2⟩ := b
          unfold ltP at *
          simp only [Prod.mk.injEq] at e
          omega
        have htr : ∀ p, (p = R[n - 1] ∨ ltP p R[n - 1]) → ltP p R[n] := fun p hp => by
          rcases hp with rfl | hp
          · exact hlt
          · unfold ltP at *; omega
        rw [dd_other hn' (fun _ => e), ht]
        refine ⟨List.pairwise_append.2 ⟨i1, List.pairwise_singleton .., fun a ha b hb => ?_⟩, fun p => ?_, fun p hp _ => ?_⟩
        · rw [List.mem_singleton.1 hb]
          exact htr a (i3 a ha h0)
        · rw [List.mem_append, List.mem_append, i2 p]
        · simp only [Nat.add_sub_cancel]
          rcases List.mem_append.1 hp with hp | hp
          · exact .inr (htr p (i3 p hp h0))
          · exact .inl (List.mem_singleton.1 hp)
    · have hz : n = 0 := by omega
      subst hz
      rw [dd_other hn' (fun h => absurd h h0), ht]
      refine ⟨by simp [dd], fun p => by simp [dd], fun p hp _ => ?_⟩
      simp [dd] at hp
      exact .inl hp
theorem pr_cells {w : World} {B g n c : Nat} {L : List Pr} (h : w.ownsRow B 48 2 (.slice (some ⟨g, 0, none⟩) n c) n (arRow L)) (j : Nat) (hj : j < L.length) :
    w.cell? ⟨g, j * 2, none⟩ = some (.int .i64 L[j].1) ∧ w.cell? ⟨g, j * 2 + 1, none⟩ = some (.int .i64 L[j].2) := by
  have hc := h.cells (g := g) rfl
  have hf := flat_get prL_len L j
  refine ⟨?_, ?_⟩
  · have := hc (j * 2 + 0) _ ((hf 0 hj (by omega)).trans rfl); simpa [Addr.add_lit] using this
  · have := hc (j * 2 + 1) _ ((hf 1 hj (by omega)).trans rfl); simpa [Addr.add_lit] using this
theorem arRow_set : ∀ (L : List Pr) (i : Nat) (p : Pr), i < L.length → arRow (L.set i p) = ((arRow L).set (i * 2) (.int .i64 p.1)).set (i * 2 + 1) (.int .i64 p.2)
  | [], i, p, hi => by simp at hi
  | x :: r, 0, p, _ => by simp [arRow, prL]
  | x :: r, i + 1, p, hi => by
    have ih := arRow_set r i p (by simpa using hi)
    have e : ∀ (l : List Value) (k : Nat) (v : Value), (prL x ++ l).set (2 + k) v = prL x ++ l.set k v := fun l k v => by
      rw [List.set_append_right _ _ (by rw [prL_len]; omega), prL_len, show 2 + k - 2 = k from by omega]
    show arRow (x :: r.set i p) = _
    rw [show arRow (x :: r.set i p) = prL x ++ arRow (r.set i p) from rfl, ih, show arRow (x :: r) = prL x ++ arRow r from rfl, show (i + 1) * 2 = 2 + i * 2 from by omega, show 2 + i * 2 + 1 = 2 + (i * 2 + 1) from by omega, e, e]

theorem ddC_get {R : List Pr} {n kk : Nat} (hk : kk = (dd R n).length) (i : Nat) (hi : i < R.length) (hki : kk ≤ i) (hl : (dd R n ++ R.drop kk).length = R.length) : (dd R n ++ R.drop kk)[i]'(by omega) = R[i] := by
  rw [List.getElem_append_right (by omega), List.getElem_drop]
  congr 1
  omega
theorem ddC_len {R : List Pr} {n kk : Nat} (hk : kk = (dd R n).length) (hn : kk ≤ R.length) : (dd R n ++ R.drop kk).length = R.length := by
  rw [List.length_append, List.length_drop]; omega
theorem ddC_set {R : List Pr} {n kk : Nat} (hk : kk = (dd R n).length) (hn : kk < R.length) (p : Pr) : (dd R n ++ R.drop kk).set kk p = (dd R n ++ [p]) ++ R.drop (kk + 1) := by
  rw [List.set_append_right _ _ (by omega), show kk - (dd R n).length = 0 from by omega, List.drop_eq_getElem_cons hn, List.set_cons_zero, List.append_assoc]
  rfl
theorem pr_cells2 {w : World} {B g n c : Nat} {L : List Pr} (h : w.ownsRow B 48 2 (.slice (some ⟨g, 0, none⟩) n c) n (arRow L)) (k j : Nat) (hj : k + j < L.length) :
    w.cell? ⟨g, k * 2 + j * 2, none⟩ = some (.int .i64 L[k + j].1) ∧ w.cell? ⟨g, k * 2 + j * 2 + 1, none⟩ = some (.int .i64 L[k + j].2) := by
  have := pr_cells h (k + j) hj
  rw [Nat.add_mul] at this
  exact this

set_option maxHeartbeats 3000000 in
set_option maxRecDepth 100000 in
theorem compact_any (R : List Pr) (hl : R.length ≤ 4000000000000) (B : Nat) (v : Value) (w : World) (h : w.ownsRow B 48 2 v R.length (arRow R)) :
    Calls Try.prog 38 #[v] w fun e w' => ∃ v', e = .returned v' ∧ w'.ownsRow B 48 2 v' (dd R R.length).length (arRow (dd R R.length)) ∧ Moved (fun i => v.ownBlock = some i) w w' := by
  have mixed : Try.prog.follows Departure.mixedOrders = true := by kernel_rfl
  obtain ⟨a, cap, rfl, hcap, hmx, ha⟩ := own_cap h
  have HO := Lib.hid h
  have hlen : R.length ≤ 9223372036854775807 := by omega
  clear h
  by_cases h2 : R.length < 2
  · have hb2 : decide ((R.length : Int) < 2) = true := by simp; omega
    have HD := Lib.hid (dd_one R h2)
    clear hcap hmx ha h2
    go_enter Try.func38, Try.ntmps38
    go_wp2_with fail
    go_ret
    exact ⟨_, rfl, by rw [HD.out]; exact HO.out, Moved.refl _ _⟩
  · have hb2 : decide ((R.length : Int) < 2) = false := by simp; omega
    obtain ⟨g, rfl, hgb, hgl⟩ := ha.resolve_left (by omega)
    clear ha
    go_enter Try.func38, Try.ntmps38
    go_wp2_with fail
    go_loopw [3] (fun tk wr => ∃ k, 0 < k ∧ k ≤ R.length ∧ tk = .int .i64 k ∧ dd R k = R.take k ∧ Gr w wr) (fun tk _ => R.length - (intOf tk).toNat)
    case atStart => exact ⟨1, by omega, by omega, rfl, by rw [dd_other (by omega) (fun h => absurd h (by omega))]; simp [dd, List.take_one, List.head?_eq_getElem?, List.getElem?_eq_getElem (show 0 < R.length by omega)], Gr.refl _⟩
    case round =>
      obtain ⟨k, hk0, hk, rfl, hdd, hG⟩ := hrel
      obtain ⟨wo, rfl⟩ : ∃ wo : World, wo = wr := ⟨_, rfl⟩
      have HDd := Lib.hid hdd
      have HG := Lib.hid hG
      clear hdd hG
      by_cases hlt : k < R.length
      · have hki : decide ((k : Int) < (R.length : Int)) = true := by simp; omega
        obtain ⟨j, hj⟩ : ∃ j, j + 1 = k := ⟨k - 1, by omega⟩
        have hw1 : IntKind.i64.wrap ((k : Int) - 1) = (j : Int) := by rw [show (k : Int) - 1 = (j : Int) from by omega]; exact IntWalk.i64_in _ (by omega)
        have hrow := own_keep HO.out (w' := wo) (fun q hq => HG.out.below.block _ (HO.out.lt q hq).2)
        have hgw : g < wo.heap.size := by have := HG.out.below.size; omega
        obtain ⟨a0, a1⟩ := pr_cells hrow k hlt
        obtain ⟨b0, b1⟩ := pr_cells hrow j (by omega)
        have q0 := fun n os => cell_grown hgw a0 n os
        have q1 := fun n os => cell_grown hgw a1 n os
        have q2 := fun n os => cell_grown hgw b0 n os
        have q3 := fun n os => cell_grown hgw b1 n os
        have hj1 : (0 : Int) ≤ (j : Int) := Int.natCast_nonneg _
        have hj2 : (j : Int) < (R.length : Int) := by omega
        have hk1 : (0 : Int) ≤ (k : Int) := Int.natCast_nonneg _
        have hk2 : (k : Int) < (R.length : Int) := by omega
        have HDs := Lib.hid (dd_sameJ (R := R) hlt hj)
        have HDo := Lib.hid (dd_otherJ (R := R) hlt hj)
        have HTk := Lib.hid (List.take_succ_eq_append_getElem hlt)
        obtain ⟨eq, heq⟩ : ∃ eq, (R[k].1 == R[j].1 && R[k].2 == R[j].2) = eq := ⟨_, rfl⟩
        have HEq := Lib.hid heq
        have HJ := Lib.hid hj
        clear hrow a0 a1 b0 b1
        go_wp2_with fail
        refine wp_region_quiet_grown (by assumption) (by kernel_rfl) ?_
        iterate 10 (with_reducible refine wpQuiet_step (fun K hK => ?_); go_simp; with_reducible refine hK _ ?_; clear hK K)
        with_reducible refine wpQuiet_nil ?_
        with_reducible intro _ hw'
        obtain ⟨⟨nq, osq⟩, hw''⟩ := hw'
        subst hw''
        clear heq q0 q1 q2 q3
        have hbg : Below wo.heap.size wo (grow (wo.drewN nq) osq) := Gr.below ⟨nq, osq, rfl⟩
        have hGr : Gr w (grow (wo.drewN nq) osq) := HG.out.trans ⟨nq, osq, rfl⟩
        have HGr := Lib.hid hGr
        clear hbg hGr
        generalize grow (wo.drewN nq) osq = W1 at *
        cases eq with
        | false =>
          have hne : R[k] ≠ R[j] := fun e => by
            have := HEq.out
            rw [e] at this
            simp at this
          have HNx : Hid (dd R (k + 1) = R.take (k + 1)) := Lib.hid (by rw [HDo.out hne, HTk.out, HDd.out])
          clear hne
          go_wp2_with fail
          exact ⟨⟨k + 1, by omega, by omega, by go_num, HNx.out, HGr.out⟩, by simp [intOf]; omega⟩
        | true =>
          have hne : R[k] = R[j] := by
            have := HEq.out
            simp only [Bool.and_eq_true, beq_iff_eq] at this
            exact Prod.ext this.1 this.2
          have HNx : Hid (dd R (k + 1) = R.take k) := Lib.hid (by rw [HDs.out hne, HDd.out])
          clear hne HDs HDo HTk HEq
          have hck : ¬ cap = k := by omega
          go_wp2_with fail
          go_loopw [3, 5] (fun tk tj wr => ∃ (n j2 kk : Nat), n = k + j2 ∧ 1 ≤ j2 ∧ n ≤ R.length ∧ tj = .int .i64 j2 ∧ tk = .int .i64 kk ∧ kk = (dd R n).length ∧ kk + 1 ≤ n ∧ wr.ownsRow B 48 2 (.slice (some ⟨g, 0, none⟩) R.length cap) R.length (arRow (dd R n ++ R.drop kk)) ∧ Moved (· = g) w wr) (fun _ tj _ => R.length - (intOf tj).toNat)
          case atStart =>
            have e1 : (R.take k).length = k := by rw [List.length_take]; omega
            refine ⟨k + 1, 1, k, rfl, by omega, by omega, rfl, rfl, by rw [HNx.out, e1], by omega, ?_, .of_below HGr.out.below⟩
            rw [HNx.out, List.take_append_drop]
            exact own_keep HO.out (fun q hq => HGr.out.below.block _ (HO.out.lt q hq).2)
          case round =>
            obtain ⟨n, j2, kk, hn, h1j, hnl, rfl, rfl, hkk, hkn, hown, hM⟩ := hrel
            obtain ⟨w2, rfl⟩ : ∃ w2 : World, w2 = wr := ⟨_, rfl⟩
            have HCl := Lib.hid (ddC_len hkk (by omega))
            have HOw := Lib.hid hown
            have HM := Lib.hid hM
            have HKk := Lib.hid hkk
            clear hown hM hkk HNx
            have hgl2 : g < w2.heap.size := (HOw.out.lt g rfl).2
            by_cases hlt2 : j2 < R.length - k
            · obtain ⟨i2, hi2⟩ : ∃ i2, i2 + 1 = j2 := ⟨j2 - 1, by omega⟩
              have hnn : n < R.length := by omega
              have hg1 := ddC_get HKk.out (k + j2) (by omega) (by omega) HCl.out
              have hg2 := ddC_get HKk.out (k + i2) (by omega) (by omega) HCl.out
              obtain ⟨a0, a1⟩ := pr_cells2 HOw.out k j2 (by rw [HCl.out]; omega)
              obtain ⟨b0, b1⟩ := pr_cells2 HOw.out k i2 (by rw [HCl.out]; omega)
              rw [hg1] at a0 a1
              rw [hg2] at b0 b1
              have HDs := Lib.hid (dd_sameJ (R := R) (n := k + j2) (j := k + i2) (by omega) (by omega))
              have HDo := Lib.hid (dd_otherJ (R := R) (n := k + j2) (j := k + i2) (by omega) (by omega))
              clear hg1 hg2
              generalize R[k + j2] = p at *
              generalize R[k + i2] = p' at *
              obtain ⟨eq, heq⟩ : ∃ eq, (p.1 == p'.1 && p.2 == p'.2) = eq := ⟨_, rfl⟩
              have HEq := Lib.hid heq
              have q0 := fun n os => cell_grown hgl2 a0 n os
              have q1 := fun n os => cell_grown hgl2 a1 n os
              have q2 := fun n os => cell_grown hgl2 b0 n os
              have q3 := fun n os => cell_grown hgl2 b1 n os
              have hw2 : IntKind.i64.wrap ((j2 : Int) - 1) = (i2 : Int) := by rw [show (j2 : Int) - 1 = (i2 : Int) from by omega]; exact IntWalk.i64_in _ (by omega)
              have hi3 : i2 < R.length - k := by omega
              have hi4 : (0 : Int) ≤ (i2 : Int) := Int.natCast_nonneg _
              have hi5 : (0 : Int) ≤ (j2 : Int) := Int.natCast_nonneg _
              have hi6 : (i2 : Int) < ((R.length - k : Nat) : Int) := by omega
              have hi7 : (j2 : Int) < ((R.length - k : Nat) : Int) := by omega
              have hi8 : decide ((j2 : Int) < ((R.length - k : Nat) : Int)) = true := by simp; omega
              clear a0 a1 b0 b1
              go_wp2_with fail
              refine wp_region_quiet_grown (by assumption) (by kernel_rfl) ?_
              iterate 10 (with_reducible refine wpQuiet_step (fun K hK => ?_); go_simp; with_reducible refine hK _ ?_; clear hK K)
              with_reducible refine wpQuiet_nil ?_
              with_reducible intro _ hw'
              obtain ⟨⟨nr, osr⟩, hw''⟩ := hw'
              subst hw''
              have hbg : Below w2.heap.size w2 (grow (w2.drewN nr) osr) := Gr.below ⟨nr, osr, rfl⟩
              have HM3 := Lib.hid (HM.out.below hbg)
              have HO3 := Lib.hid (own_keep HOw.out fun q hq => hbg.block _ (HOw.out.lt q hq).2)
              have r0 := q0 nr osr
              have r1 := q1 nr osr
              clear q0 q1 q2 q3 hbg heq
              generalize grow (w2.drewN nr) osr = w3 at *
              cases eq with
              | true =>
                have he : p = p' := by
                  have := HEq.out
                  simp only [Bool.and_eq_true, beq_iff_eq] at this
                  exact Prod.ext this.1 this.2
                have HN2 : Hid (dd R (n + 1) = dd R n) := Lib.hid (by rw [hn]; exact HDs.out he)
                clear he HDs HDo HEq
                go_wp2_with fail
                exact ⟨⟨n + 1, j2 + 1, kk, by omega, by omega, by omega, by go_num, rfl, by rw [HN2.out]; exact HKk.out, by omega, by rw [HN2.out]; exact HO3.out, HM3.out⟩, by simp [intOf]; omega⟩
              | false =>
                have he : p ≠ p' := fun e => by
                  have := HEq.out
                  rw [e] at this
                  simp at this
                have HN2 : Hid (dd R (n + 1) = dd R n ++ [p]) := Lib.hid (by rw [hn]; exact HDo.out he)
                clear he HDs HDo HEq
                have f0 := own_frozen HO3.out (kk * 2)
                have f1 := own_frozen HO3.out (kk * 2 + 1)
                have hk3 : (0 : Int) ≤ (kk : Int) := Int.natCast_nonneg _
                have hk4 : (kk : Int) < (R.length : Int) := by omega
                have hk5 : kk < R.length := by omega
                have hgl3 : g < w3.heap.size := (HO3.out.lt g rfl).2
                obtain ⟨d0, d1⟩ := pr_cells HO3.out kk (by rw [HCl.out]; omega)
                go_wp2_with fail
                refine ⟨⟨n + 1, j2 + 1, kk + 1, by omega, by omega, by omega, by go_num, by go_num, by rw [HN2.out, List.length_append, HKk.out]; rfl, by omega, ?_, (HM3.out.setCell (p := ⟨g, kk * 2, none⟩) (.inl rfl) _).setCell (p := ⟨g, kk * 2 + 1, none⟩) (.inl rfl) _⟩, by simp [intOf]; omega⟩
                rw [HN2.out, ← ddC_set HKk.out hk5 p, arRow_set _ _ _ (by rw [HCl.out]; omega)]
                exact own_set (own_set HO3.out _ (by omega) _) _ (by omega) _
            · have hne : n = R.length := by omega
              have hi8 : decide ((j2 : Int) < ((R.length - k : Nat) : Int)) = false := by simp; omega
              have hkl : kk ≤ R.length := by omega
              obtain ⟨wc, hcl, hoc, hmc⟩ := run_clear_row (t := 44) (e := 48) w2 2 Try.underlying44 (.agg #[.int .i64 0, .int .i64 0]) (fun w => by kernel_rfl) rfl (by intro v hv; simp [Value.cells] at hv; subst hv; rfl) 0 B g R.length cap 48 _ HOw.out kk hkl (by omega) (cap - kk)
              have htk : (arRow (dd R n ++ R.drop kk)).take (kk * 2) = arRow (dd R R.length) := by
                rw [← hne]
                unfold arRow
                rw [flat_take prL_len, HKk.out, List.take_left]
              have hkk2 : kk = (dd R R.length).length := by rw [← hne]; exact HKk.out
              rw [htk] at hoc
              have HOC := Lib.hid hoc
              have HMC := Lib.hid hmc
              have HKk2 := Lib.hid hkk2
              have hcR : ¬ cap - kk = 0 := by omega
              have hcR2 : cap ≠ kk := by omega
              have hcR3 : ¬ cap = kk := by omega
              clear hoc hmc htk hkk2 hne
              go_wp2_with fail
              go_ret
              refine ⟨_, rfl, ?_, ?_⟩
              · rw [← HKk2.out]; exact HOC.out
              · exact (HM.out.mono fun k _ hk => by simp only [Value.ownBlock, Option.some.injEq]; exact hk.symm).trans (HMC.out.mono fun k _ hk => .inl (by simp only [Value.ownBlock, Option.some.injEq]; exact hk.symm))
      · have hki : decide ((k : Int) < (R.length : Int)) = false := by simp; omega
        have hkk : k = R.length := by omega
        have HD2 : Hid (dd R R.length = R) := Lib.hid (by rw [← hkk, HDd.out, hkk, List.take_length])
        clear hkk
        go_wp2_with fail
        go_ret
        exact ⟨_, rfl, by rw [HD2.out]; exact own_keep HO.out (fun q hq => HG.out.below.block _ (HO.out.lt q hq).2), .of_below HG.out.below⟩
end Go.Proofs.Ytileamjmhhifaaa
