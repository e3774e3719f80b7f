/-
  Layer 13 (stage): the walk of StageLands.
-/
import Derived.Test.YthehglhbgplfhaaStg13
import Derived.Test.YthehglhbgplfhaaFrame13
namespace Go.Proofs.Ythehglhbgplfhaa
open Go.RowKit Go.Joins
set_option linter.unusedVariables false
set_option linter.unusedSimpArgs false

theorem infoPg : (Try.prog.info? 41).map (fun i => (i.zero, i.size, i.bytes)) = some (some Pg.zero.v, 16, 176) := by kernel_rfl
def rowPg (parts : Array (Nat × Value)) : Sem Value := Instr.buildSlice 55 1 parts
@[go_sem ↓] theorem rowPg_eq (parts : Array (Nat × Value)) : Instr.buildSlice 55 1 parts = rowPg parts := rfl
@[go_sem] theorem run_rowPg (w : World) (p : Pg) : (rowPg #[(0, p.v)]).run Try.prog w = .ok (.slice (some ⟨w.heap.size, 0, none⟩) 1 1) (w.alloc (.cells p.cs 41)) := by kernel_rfl
theorem rowsC_snoc (l : List Pg) (p : Pg) : rowsC (l ++ [p]) = rowsC l ++ p.cs.toList := by simp [rowsC]
/-- a page read out of a slice of pages -/
theorem load_row {w : World} {B g n c : Nat} {l : List Pg} (h : w.ownsRow B 41 16 (.slice (some ⟨g, 0, none⟩) n c) n (rowsC l)) (j : Nat) (hj : j < l.length) :
    (loadPg (.pointer (some ⟨g, j * 16, none⟩))).run Try.prog w = .ok l[j].v w := by
  have hl := h.1
  rw [rowsC_size] at hl
  exact run_loadAt_mid w g (j * 16) 41 l[j].cs.toList _ (fun k v hv => by
    have hk : k < 16 := (List.getElem?_eq_some_iff.1 hv).1
    rw [h.cellAt (j * 16 + k) (by omega), rowsC_get l j k hj hk]
    exact hv) Try.underlying41 rfl infoPage
/-- a block of the law's own images as a row -/
theorem row_img (w : World) (id : Int) (p : Pg) (B : Nat) (hB : B ≤ w.heap.size) : (w.alloc (.cells (imgCs id p) 48)).ownsRow B 48 17 (.slice (some ⟨w.heap.size, 0, none⟩) 1 1) 1 (imgCs id p).toList :=
  ⟨rfl, .inr ⟨w.heap.size, 1, imgCs id p, rfl, hB, heap_alloc_new w _, by omega, by simp [maxLen], rfl, rfl⟩⟩

/-- the pages of a stage, as a list -/
def pagesOf (S : Vol) (k : Nat) : List Pg := (List.range k).map fun i : Nat => stPg S (i : Int)
theorem pagesOf_succ (S : Vol) (k : Nat) : pagesOf S (k + 1) = pagesOf S k ++ [stPg S (k : Int)] := by simp [pagesOf, List.range_succ]
theorem pagesOf_len (S : Vol) (k : Nat) : (pagesOf S k).length = k := by simp [pagesOf]
/-- behind Apply of its own images a stage has none -/
theorem imgs_none {S : Vol} {N : Nat} (h : S.Fit N) : imgs ⟨appl S.base (imgs S S.keys), S.M⟩ (Vol.keys ⟨appl S.base (imgs S S.keys), S.M⟩) = [] := by
  have hk : Vol.keys ⟨appl S.base (imgs S S.keys), S.M⟩ = S.keys := rfl
  rw [hk]
  unfold imgs
  rw [List.map_eq_nil_iff, List.filter_eq_nil_iff]
  intro id hid
  have hm := (Vol.mem_keys S id).1 hid
  obtain ⟨x, hx, rfl⟩ := List.mem_map.1 hm
  have hf := h.fit x hx
  obtain ⟨i, hi⟩ := Int.eq_ofNat_of_zero_le hf.1
  have hlp := landed_pg h i (by omega)
  have e1 : stPg S.landed i = shelfPg (appl S.base (imgs S S.keys)) i := rfl
  have e2 : stPg ⟨appl S.base (imgs S S.keys), S.M⟩ x.1 = stPg S x.1 := by
    have hg := getM_of_mem h.once hx
    unfold stPg
    have hg2 : getM ⟨appl S.base (imgs S S.keys), S.M⟩ x.1 = some x.2 := hg
    rw [hg, hg2]
  have e3 : shelfPg (appl S.base (imgs S S.keys)) x.1 = stPg S x.1 := by rw [hi]; exact e1.symm.trans hlp
  have e4 : shelfPg (Vol.mk (appl S.base (List.map (fun id => (id, stPg S id)) (List.filter (fun id => !pgEq (shelfPg S.base id) (stPg S id)) S.keys))) S.M).base x.1 = stPg S x.1 := e3
  have e5 : stPg ⟨appl S.base (List.map (fun id => (id, stPg S id)) (List.filter (fun id => !pgEq (shelfPg S.base id) (stPg S id)) S.keys)), S.M⟩ x.1 = stPg S x.1 := e2
  rw [e4, e5, pgEq_self]
  simp
theorem fit_applied {S : Vol} {N : Nat} (h : S.Fit N) : Vol.Fit ⟨appl S.base (imgs S S.keys), S.M⟩ N := ⟨h.once, h.fit, by rw [appl_length]; exact h.len, h.hi⟩
theorem Lay.protect {P : Nat → Prop} {w0 w4 w : World} {b hb g : Nat} {S : Vol} (L : Lay P w0 w4 b hb S) (hbl : Below w4.heap.size w4 w) (h1 : w4.heap.size ≤ g) (h2 : g < w.heap.size) : Lay (fun k => P k ∨ k = g) w w b hb S := by
  obtain ⟨k1, k2, mb, pb, h3, h4⟩ := L
  obtain ⟨q1, q2, q3, q4⟩ := h3.lt
  refine ⟨Keep.refl _ _, fun k hk => ?_, mb, pb, h3.below hbl h3.lt, fun hk => ?_, fun hk => ?_, fun hk => ?_, fun hk => ?_⟩
  · rcases hk with hk | hk
    · have := k2 k hk; have := k1.size; have := hbl.size; omega
    · omega
  · rcases hk with hk | hk
    · exact h4.1 hk
    · omega
  · rcases hk with hk | hk
    · exact h4.2.1 hk
    · omega
  · rcases hk with hk | hk
    · exact h4.2.2.1 hk
    · omega
  · rcases hk with hk | hk
    · exact h4.2.2.2 hk
    · omega
theorem Keep.own {P : Nat → Prop} {w w' : World} (h : Keep P w w') {B s n : Nat} {e : TypeId} {v : Value} {xs : List Value} (ho : w.ownsRow B e s v n xs) (hg : ∀ g, v.ownBlock = some g → P g) : w'.ownsRow B e s v n xs := by
  refine ⟨ho.1, ?_⟩
  rcases ho.2 with h0 | ⟨g, cap, cur, rfl, h1, h2, h3⟩
  · exact .inl h0
  · exact .inr ⟨g, cap, cur, rfl, h1, (h.block g (hg g rfl)).trans h2, h3⟩
/-- an image in a variable of its own -/
theorem load_imgVar {w : World} {n : Nat} {id : Int} {p : Pg} (h : rowAt w n = some (imgCs id p)) : (loadImg (.pointer (some ⟨n, 0, none⟩))).run Try.prog w = .ok (imgV id p) w :=
  run_loadAt_mid w n 0 48 (imgCs id p).toList _ (fun k v hv => by
    rw [cell_row h]
    have hk : k < 17 := (List.getElem?_eq_some_iff.1 hv).1
    rw [← hv, Nat.zero_add]
    simp) Try.underlying48 rfl sizeImg

def ShelfOf (w wr : World) (hb pb n : Nat) (l : List Pg) : Prop := Below w.heap.size w wr ∧ ShelfAt wr hb pb l ∧ l.length = n

set_option maxHeartbeats 4000000 in
set_option maxRecDepth 100000 in
theorem lands_good (n : Nat) (h1 : 1 ≤ n) (hn : n ≤ 1024) (vu : Option Addr) (lu cu : Nat) (U : List (Int × Pg)) (vo : Option Addr) (lo co : Nat) (O : List (Int × Pg)) (w : World) (hU : ImgsIn w vu lu U) (hO : ImgsIn w vo lo O) :
    Calls Try.prog 5 #[.int .i64 n, .slice vu lu cu, .slice vo lo co] w fun e w' => e = .returned (.bool true) ∧ Below w.heap.size w w' := by
  have HA := Lib.hid (fun (w' : World) => awake13 w')
  have HM := Lib.hid (fun (w' : World) => memory_ok n h1 hn w')
  have HN := Lib.hid (fun hb pb l w' hB h h1 h2 => new_lay hb pb l w w' hB h h1 h2)
  have HAp := Lib.hid (fun hb pb l id p v B w' hs hv => apply_one hb pb l id p v B w' hs hv)
  have HSet := Lib.hid (fun (w' : World) b hb S (L : Lay (· < w.heap.size) w w' b hb S) id p => set_lay L id p)
  have HU := Lib.hid hU
  have HO := Lib.hid hO
  have lu1 := hU.1
  have lo1 := hO.1
  have UL := hU.2.1
  have OL := hO.2.1
  have c1 : (1 : Int) ≤ (n : Int) := by omega
  have c2 : (n : Int) ≤ 1024 := by omega
  clear hU hO
  go_enter Try.func5, Try.ntmps5
  go_wp2_with fail
  refine (HA.out _).mono ?_; rintro e w0 ⟨rfl, hb0⟩
  have K0 := Lib.hid hb0
  have hz0 := hb0.size
  clear hb0
  go_wp2_with fail
  refine (HM.out _).mono ?_; rintro e w1 ⟨hb, pb, rfl, hb1, q1, q2, hs1⟩
  have HS0 : Hid (ShelfOf w w1 hb pb n (List.replicate n Pg.zero)) := Lib.hid ⟨K0.out.trans (hb1.mono hz0), hs1, by simp⟩
  have qh : w.heap.size ≤ hb := by omega
  have qp : w.heap.size ≤ pb := by omega
  clear hb1 hs1
  go_wp2_with fail
  go_loopw [33] (fun i wr => ∃ k : Nat, k ≤ lu ∧ i = .int .i64 k ∧ ∃ l, ShelfOf w wr hb pb n l) (fun i _ => lu - (intOf i).toNat)
  case atStart => exact ⟨0, by omega, rfl, _, HS0.out⟩
  case round =>
    obtain ⟨k, hk, rfl, l, hbl, hsh, hl⟩ := hrel
    clear HS0
    have hz := hbl.size
    by_cases hlt : k < lu
    · have hUk := HU.out.below hbl
      obtain ⟨rb, ro, hvp, hrb, hrow⟩ := hUk.2.2.resolve_left (by omega)
      subst hvp
      have hld := load_in (hrow k (by omega))
      generalize U[k] = x at *
      obtain ⟨id, p⟩ := x
      simp only at hld
      have hlv := load_imgVar (rowAt_at wr (imgCs id p) 48 _ rfl)
      have hrw := row_img (wr.alloc (.cells (imgCs id p) 48)) id p 0 (by omega)
      simp only [World.size_alloc] at hrw
      have HRw := Lib.hid hrw
      have HB := Lib.hid hbl
      have HSh := Lib.hid hsh
      clear hbl hsh hrow hUk hrw
      go_wp2_with fail
      have B2 : Below w.heap.size w ((wr.alloc (.cells (imgCs id p) 48)).alloc (.cells (imgCs id p) 48)) := (HB.out.alloc hz _).alloc (by go_size) _
      have l1 := (Array.getElem?_eq_some_iff.1 HSh.out.1).1
      have l2 := (Array.getElem?_eq_some_iff.1 HSh.out.2.1).1
      have S2 := HSh.out.below (((Below.refl wr.heap.size wr).alloc (Nat.le_refl _) (.cells (imgCs id p) 48)).alloc (by go_size) (.cells (imgCs id p) 48)) l1 l2
      refine (HAp.out hb pb l id p _ 0 _ S2 HRw.out).mono ?_; rintro e w2 ⟨rfl, hg2, hs2⟩
      have K1 : Hid (ShelfOf w w2 hb pb n (appl1 l (id, p))) := Lib.hid ⟨B2.grown hg2 (by go_size) (fun q hq => by cases hq; exact qp), hs2, by rw [appl1_length, hl]⟩
      clear hg2 hs2 S2 B2
      go_wp2_with fail
      go_roundw
      case rel => exact ⟨k + 1, by omega, by go_num, _, K1.out⟩
      case measure => simp [intOf]; omega
    · have hke : k = lu := by omega
      subst hke
      have HB := Lib.hid hbl
      have HSh := Lib.hid hsh
      have f0 : Vol.Fit ⟨l, []⟩ n := by have := Vol.Fit.nil l (by omega); rwa [hl] at this
      have F0 := Lib.hid f0
      clear hbl hsh f0
      obtain ⟨wo, rfl⟩ : ∃ wo : World, wo = wr := ⟨_, rfl⟩
      go_wp2_with fail
      refine (HN.out hb pb l _ HB.out HSh.out qh qp).mono ?_; rintro e w2 ⟨b, rfl, L2⟩
      have K3 := Lib.hid L2
      clear L2
      go_wp2_with fail
      go_loopw [47] (fun i wr => ∃ k : Nat, k ≤ lo ∧ i = .int .i64 k ∧ ∃ S, Lay (· < w.heap.size) w wr b hb S ∧ S.Fit n) (fun i _ => lo - (intOf i).toNat)
      case atStart => exact ⟨0, by omega, rfl, _, K3.out, F0.out⟩
      case round =>
        obtain ⟨k, hk, rfl, S, L, hF⟩ := hrel
        have hbl := L.low
        by_cases hlt : k < lo
        · have hOk := HO.out.below hbl
          obtain ⟨rb, ro, hvp, hrb, hrow⟩ := hOk.2.2.resolve_left (by omega)
          subst hvp
          have hld := load_in (hrow k (by omega))
          generalize O[k] = x at *
          obtain ⟨id, p⟩ := x
          simp only at hld
          have hlp := load_imgPage (rowAt_at wr (imgCs id p) 48 _ rfl)
          have KL := Lib.hid L
          have KF := Lib.hid hF
          clear L hF hrow hOk hbl
          by_cases hid : id < (n : Int)
          · have t1 : decide (id < (n : Int)) = true := by simpa using hid
            have HC := Lib.hid (HSet.out _ b hb S (KL.out.alloc (.cells (imgCs id p) 48)) id p)
            have KF2 : Hid ((if okSet id p then S.put id p else S).Fit n) := Lib.hid (by
              split
              · rename_i h
                simp only [okSet, Bool.and_eq_true, decide_eq_true_eq] at h
                exact KF.out.put id p h.1.1 hid h.2
              · exact KF.out)
            go_wp2_with fail
            refine HC.out.mono ?_; rintro e w3 ⟨rfl, L3⟩
            have K4 := Lib.hid L3
            clear L3
            go_wp2_with fail
            go_roundw
            case rel => exact ⟨k + 1, by omega, by go_num, _, K4.out, KF2.out⟩
            case measure => simp [intOf]; omega
          · have t1 : decide (id < (n : Int)) = false := by simpa using hid
            go_wp2_with fail
            go_roundw
            case rel => exact ⟨k + 1, by omega, by go_num, S, KL.out.alloc _, KF.out⟩
            case measure => simp [intOf]; omega
        · have hke : k = lo := by omega
          subst hke
          have KL := Lib.hid L
          have KF := Lib.hid hF
          have hbz := hbl.size
          clear L hF hbl K3
          obtain ⟨w4, rfl⟩ : ∃ w4 : World, w4 = wr := ⟨_, rfl⟩
          obtain ⟨i0, hi, hz0', hz1', hz2'⟩ := info_parts infoPg
          have HG := Lib.hid (fun (w' : World) (L : Lay (· < w.heap.size) w w' b hb S) id => get_lay L id)
          have HE : Hid (∀ i : Nat, i < n → stE S i = 0) := Lib.hid (fun i hi => by
            unfold stE
            split
            · rfl
            · exact if_pos ⟨by omega, by rw [KF.out.len]; omega⟩)
          go_wp2_with fail
          go_loopw [14, 63] (fun v i wr => ∃ k : Nat, k ≤ n ∧ i = .int .i64 k ∧ Below w4.heap.size w4 wr ∧ wr.ownsRow w4.heap.size 41 16 v k (rowsC (pagesOf S k))) (fun _ i _ => n - (intOf i).toNat)
          case atStart => exact ⟨0, by omega, rfl, Below.refl _ _, World.ownsRow_nil _ _ _ _⟩
          case round =>
            obtain ⟨k, hk, rfl, hb4, hrow⟩ := hrel
            have hz4 := hb4.size
            have hpl := pagesOf_len S k
            have L4 := KL.out.step hb4
            by_cases hlt : k < n
            · have hc := HG.out _ L4 (k : Int)
              rw [HE.out k hlt] at hc
              have HC := Lib.hid hc
              have hsucc := Lib.hid (pagesOf_succ S k)
              have HB4 := Lib.hid hb4
              clear hc L4 hb4
              obtain ⟨p, hp⟩ : ∃ p, stPg S (k : Int) = p := ⟨_, rfl⟩
              rw [hp] at HC hsucc
              clear hp
              go_wp2_with fail
              refine HC.out.mono ?_; rintro e w5 ⟨rfl, -, hb5⟩
              have hrow5 := own_low hrow hb5
              have hz5 := hb5.size
              clear hrow
              go_wp2_with (at_builtin; refine wpList_append_own _ rfl _ _ 55 rfl w4.heap.size 41 i0 _ 16 176 Try.underlying55 hi hz0' hz1' hz2' rfl (by decide) _ _ _ rfl ((hrow5.alloc (.cells p.cs 41)).alloc _) ⟨w5.heap.size + 1, 0, none⟩ 1 1 p.cs.toList rfl rfl ?c1 ?c2 ?c3 ?c4 ?c5 ?_)
              case c1 =>
                have hn := heap_alloc_new (w5.alloc (.cells p.cs 41)) (.cells p.cs 41)
                rw [World.size_alloc] at hn
                exact World.news_of_block hn
              case c2 => intro u hu; simp [Pg.cs] at hu; rcases hu with rfl | rfl | rfl | rfl | rfl | rfl | rfl | rfl | rfl | rfl | rfl | rfl | rfl | rfl | rfl | rfl <;> rfl
              case c3 => simp only [maxLen]; omega
              case c4 => omega
              case c5 => first | omega | (simp; omega)
              intro v' w6 hown' hgrow _
              have B6 : Below w4.heap.size w4 w6 := (((HB4.out.trans (hb5.mono hz4)).alloc (by omega) (.cells p.cs 41)).alloc (by simp; omega) (.cells p.cs 41)).grown hgrow (by simp; omega) (fun q hq => (hrow5.lt q hq).1)
              have H5 := Lib.hid hown'
              have HB6 := Lib.hid B6
              clear hrow5 hgrow hown' B6 hb5
              go_wp2_with fail
              go_roundw
              case rel => exact ⟨k + 1, by omega, by go_num, HB6.out, by rw [hsucc.out, rowsC_snoc]; exact H5.out⟩
              case measure => simp [intOf]; omega
            · have hke : k = n := by omega
              subst hke
              obtain ⟨g, vc, hv⟩ := ownsRow_form hrow (by omega)
              subst hv
              have hgl := hrow.lt g rfl
              have KP := Lib.hid (KL.out.protect hb4 hgl.1 hgl.2)
              have KB4 := Lib.hid ((KL.out.low).trans (hb4.mono hbz))
              have KR := Lib.hid hrow
              have KI := Lib.hid (fun (P : Nat → Prop) (w1 w' : World) (L : Lay P w1 w' b hb S) => images_lay L KF.out)
              have KA := Lib.hid (fun (P : Nat → Prop) (w1 w' : World) (L : Lay P w1 w' b hb S) v B' hv => apply_lay L KF.out v B' hv)
              have KI2 := Lib.hid (fun (P : Nat → Prop) (w1 w' : World) (L : Lay P w1 w' b hb ⟨appl S.base (imgs S S.keys), S.M⟩) => by
                have h := images_lay L (fit_applied KF.out)
                rw [imgs_none KF.out] at h
                exact h)
              have KG := Lib.hid (fun (P : Nat → Prop) (w1 w' : World) (L : Lay P w1 w' b hb ⟨appl S.base (imgs S S.keys), S.M⟩) id => shelfGet_lay L id)
              obtain ⟨wq, rfl⟩ : ∃ wq : World, wq = wr := ⟨_, rfl⟩
              clear L4 hb4 hrow
              go_wp2_with fail
              refine (KI.out _ _ _ KP.out).mono ?_; rintro e w6 ⟨v, rfl, L6, hb6, ho6⟩
              have K6 := Lib.hid L6
              have KO6 := Lib.hid ho6
              clear L6 hb6 ho6
              go_wp2_with fail
              refine (KA.out _ _ _ K6.out v _ KO6.out).mono ?_; rintro e w7 ⟨rfl, L7⟩
              have K7 := Lib.hid L7
              have KR7 := Lib.hid (L7.keep.own KR.out (fun q hq => .inr (by cases hq; rfl)))
              have KB7 := Lib.hid (KB4.out.trans (L7.keep.below (fun q hq => .inl hq)))
              clear L7
              go_wp2_with fail
              go_loopw [93] (fun i wr => ∃ j : Nat, j ≤ k ∧ i = .int .i64 j ∧ Below w7.heap.size w7 wr) (fun i _ => k - (intOf i).toNat)
              case atStart => exact ⟨0, by omega, rfl, Below.refl _ _⟩
              case round =>
                obtain ⟨j, hj, rfl, hb8⟩ := hrel
                have hz8 := hb8.size
                have L8 := K7.out.step hb8
                by_cases hlt : j < k
                · have hc := KG.out _ _ _ L8 (j : Int)
                  have e1 : shelfE (appl S.base (imgs S S.keys)) (j : Int) = 0 := if_pos ⟨by omega, by rw [appl_length, KF.out.len]; omega⟩
                  have e2 : shelfPg (appl S.base (imgs S S.keys)) (j : Int) = stPg S j := landed_pg KF.out j hlt
                  have hc' : Calls Try.prog 25 #[.pointer (some ⟨hb, 0, none⟩), .int .i64 (j : Int)] wr fun e w' => e = .returned (.tuple #[(stPg S j).v, .int .i64 0]) ∧ Lay (fun q => q < w.heap.size ∨ q = g) wq w' b hb ⟨appl S.base (imgs S S.keys), S.M⟩ ∧ Below wr.heap.size wr w' := by
                    rw [← e2, ← e1]; exact hc
                  have HC := Lib.hid hc'
                  have hr8 := own_low KR7.out hb8
                  have HB8 := Lib.hid hb8
                  clear hc hc' e1 e2 L8 hb8
                  go_wp2_with fail
                  refine HC.out.mono ?_; rintro e w9 ⟨rfl, -, hb9⟩
                  have hz9 := hb9.size
                  have hr9 := (own_low hr8 hb9).alloc (.cells (stPg S j).cs 41)
                  have hld := load_row hr9 j (by rw [pagesOf_len]; exact hlt)
                  have e3 : (pagesOf S k)[j]'(by rw [pagesOf_len]; exact hlt) = stPg S j := by simp [pagesOf]
                  rw [e3] at hld
                  have hld2 := load_row hr9.drew j (by rw [pagesOf_len]; exact hlt)
                  rw [e3] at hld2
                  have hpe := pgEq_self (stPg S j)
                  have KB9 := Lib.hid (HB8.out.trans (hb9.mono hz8))
                  clear hr8 hr9 hb9 e3
                  generalize stPg S j = p at *
                  have hjk : (j : Int) < (k : Int) := by omega
                  go_wp2_with fail
                  go_region
                  go_wp2_with fail
                  go_roundw
                  case rel => exact ⟨j + 1, by omega, by go_num, (KB9.out.alloc (by omega) _).drew⟩
                  case measure => simp [intOf]; omega
                · have hje : j = k := by omega
                  subst hje
                  have HC := Lib.hid (KI2.out _ _ _ L8)
                  clear L8 hb8
                  go_wp2_with fail
                  refine HC.out.mono ?_; rintro e w9 ⟨v2, rfl, L9, -, ho9⟩
                  have KB9 := Lib.hid (KB4.out.trans (L9.keep.below (fun q hq => .inl hq)))
                  clear L9
                  obtain ⟨vp, vc, hv⟩ : ∃ vp vc, v2 = .slice vp 0 vc := by
                    rcases ownsRow_forms ho9 with ⟨h1, h2⟩ | ⟨g, c, h1⟩
                    · exact ⟨_, _, h1⟩
                    · exact ⟨_, _, h1⟩
                  subst hv
                  go_wp2_with fail
                  go_ret
                  exact ⟨rfl, KB9.out⟩

set_option maxHeartbeats 2000000 in
set_option maxRecDepth 100000 in
theorem lands_walk (n : Int) (vu : Option Addr) (lu cu : Nat) (U : List (Int × Pg)) (vo : Option Addr) (lo co : Nat) (O : List (Int × Pg)) (w : World) (hU : ImgsIn w vu lu U) (hO : ImgsIn w vo lo O) :
    Calls Try.prog 5 #[.int .i64 n, .slice vu lu cu, .slice vo lo co] w fun e w' => e = .returned (.bool true) ∧ Below w.heap.size w w' := by
  by_cases h : n < 1 ∨ 1024 < n
  · have HA := Lib.hid (fun (w' : World) => awake13 w')
    have HM := Lib.hid (fun (w' : World) => memory_bad n h w')
    clear h hU hO
    go_enter Try.func5, Try.ntmps5
    go_wp2_with fail
    refine (HA.out _).mono ?_; rintro e w0 ⟨rfl, hb0⟩
    have K0 := Lib.hid hb0
    clear hb0
    go_wp2_with fail
    refine (HM.out _).mono ?_; rintro e w1 ⟨rfl, rfl⟩
    go_wp2_with fail
    go_ret
    exact ⟨rfl, K0.out⟩
  · obtain ⟨k, rfl⟩ := Int.eq_ofNat_of_zero_le (show 0 ≤ n by omega)
    exact lands_good k (by omega) (by omega) vu lu cu U vo lo co O w hU hO
end Go.Proofs.Ythehglhbgplfhaa
