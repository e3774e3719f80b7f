/-
  Layer 16 (tree): Range.
-/
import Derived.Test.YtljommhbhpappaaPkTree
import Derived.Test.YtljommhbhpappaaPkLob
namespace Go.Proofs.Ytljommhbhpappaa
open Go.RowKit Go.Joins
set_option linter.unusedVariables false
set_option linter.unusedSimpArgs false

/-- what Range gathers: cells that live, from a key on, so many at most -/
def rstep (most : Nat) (key : ByteArray) (acc : List NC) (c : NC) : List NC := if acc.length < most ∧ c.st = 1 ∧ ¬ KLt c.key key then acc ++ [c] else acc
def rfold (most : Nat) (key : ByteArray) (acc L : List NC) : List NC := L.foldl (rstep most key) acc
theorem rfold_append (most : Nat) (key : ByteArray) (acc A B : List NC) : rfold most key acc (A ++ B) = rfold most key (rfold most key acc A) B := by simp [rfold]
theorem rfold_skip {most : Nat} {key : ByteArray} {A : List NC} (h : ∀ c ∈ A, KLt c.key key) (acc : List NC) : rfold most key acc A = acc := by
  induction A generalizing acc with
  | nil => rfl
  | cons c r ih =>
    show rfold most key (rstep most key acc c) r = acc
    have : rstep most key acc c = acc := if_neg fun hh => hh.2.2 (h c (List.mem_cons_self ..))
    rw [this]
    exact ih (fun d hd => h d (List.mem_cons_of_mem _ hd)) acc
theorem rfold_full {most : Nat} {key : ByteArray} (L acc : List NC) (h : most ≤ acc.length) : rfold most key acc L = acc := by
  induction L with
  | nil => rfl
  | cons c r ih =>
    show rfold most key (rstep most key acc c) r = acc
    have : rstep most key acc c = acc := if_neg fun hh => by omega
    rw [this]; exact ih
def rangeL (key : ByteArray) (most : Nat) (F : List NC) : List NC := rfold most key [] F
def pairCs (c : NC) : Array Value := #[.string c.key, .int .i64 0, .string c.rest]
def pairRow (l : List NC) : List Value := l.flatMap fun c => (pairCs c).toList
theorem pairRow_append (a b : List NC) : pairRow (a ++ b) = pairRow a ++ pairRow b := by simp [pairRow]
theorem infoPr : (Try.prog.info? 105).map (fun i => (i.zero, i.size, i.bytes)) = some (some (.agg #[.string ⟨#[]⟩, .int .i64 0, .string ⟨#[]⟩]), 3, 40) := by kernel_rfl

theorem grown_setRowR {w w' : World} {pb : Nat} (h : w.grownBy w' (some pb)) (c : Array Value) : w.grownBy (w'.setRow pb c) (some pb) :=
  ⟨h.os, h.tape, h.output, by simpa [World.setRow] using h.size, fun i hi hne => by
    rw [← h.block i hi hne]
    exact setRow_other w' pb i c (by intro e; subst e; exact hne rfl)⟩
set_option maxHeartbeats 4000000 in
set_option maxRecDepth 100000 in
theorem range_any {S : Vol} {st : Int} {N : Nat} {T : Tr N} (h : TrAt S st N T) (b mb hb pb : Nat) (kd : Int) (hkd : kd = 2 ∨ kd = 3)
    (hf : ∀ w', StageAt w' b mb hb pb S → Calls Try.prog 68 #[.pointer (some ⟨b, 0, none⟩), .int .i64 st] w' fun e w2 => e = .returned (.tuple #[.int .i64 kd, .int .i64 (Tr.id N T), .int .i64 1, .int .i64 0]) ∧ Below w'.heap.size w' w2)
    (key : ByteArray) (most : Nat) (hk8 : key.size ≤ 8) (hm : most ≤ 64) (w : World) (hs : StageAt w b mb hb pb S) :
    Calls Try.prog 54 #[.pointer (some ⟨b, 0, none⟩), .int .i64 st, .string key, .int .i64 most] w fun e w' => ∃ v, e = .returned (.tuple #[v, .int .i64 0]) ∧ Below w.heap.size w w' ∧ w'.ownsRow w.heap.size 105 3 v (rangeL key most (flat (Tr.leaves N T))).length (pairRow (rangeL key most (flat (Tr.leaves N T)))) := by
  obtain ⟨i0, hi, hz0, hz1, hz2⟩ := info_parts infoPr
  obtain ⟨pre, post, hsp, hpre, hpost⟩ := leaf_split (key := key) N T _ _ h.tin.good h.ord
  have hch := h.chain
  rw [hsp, LeafAll.split] at hch
  have hfew := h.leaves_few
  rw [hsp] at hfew
  have hres : rangeL key most (flat (Tr.leaves N T)) = rfold most key [] (flat (Tr.leaf key N T :: post)) := by
    unfold rangeL
    have e : rfold most key [] (flat pre) = [] := rfold_skip (fun c hc => by obtain ⟨x, hx, hc⟩ := mem_flat.1 hc; exact hpre x hx c hc) []
    rw [hsp, flat_append, rfold_append, e]
  have HO := Lib.hid (fun w' hs' => open_ok b st none 0 0 kd (Tr.id N T) hkd w' (hf w' hs'))
  have HL := Lib.hid (fun w' wb kv hs' hw' => leaf_any h.tin b mb hb pb wb kv key w' hs' hw')
  have HS := Lib.hid hs
  have hlt := hs.lt
  have START : Hid (∃ x ps, Tr.leaf key N T = x ∧ LeafAll S st (x :: ps) 0 ∧ (∀ y ∈ x :: ps, y ∈ Tr.leaves N T) ∧ 0 + ps.length ≤ 1022 ∧ rangeL key most (flat (Tr.leaves N T)) = rfold most key [] (flat (x :: ps))) := Lib.hid ⟨_, post, rfl, hch.2, fun y hy => by rw [hsp]; exact List.mem_append_right _ hy, by rw [List.length_append, List.length_cons] at hfew; omega, hres⟩
  have HOK := Lib.hid h.leafOk
  clear hpre hpost hch hsp hres hfew hf h hs
  generalize rangeL key most (flat (Tr.leaves N T)) = res at *
  generalize Tr.leaf key N T = lf at *
  generalize Tr.id N T = root at *
  have i1 : decide ((8 : Int) < (key.size : Int)) = false := by simp; omega
  have i2 : decide ((most : Int) < 0) = false := by simp
  have i3 : decide ((64 : Int) < (most : Int)) = false := by simp; omega
  go_enter Try.func54, Try.ntmps54
  go_wp2_with fail
  refine (HO.out _ HS.out).mono ?_; rintro e w1 ⟨wb, rfl, hb1, hwb, hw1⟩
  have hz1' := hb1.size
  have B1 := Lib.hid hb1
  have S1 := Lib.hid (HS.out.below hb1 hlt)
  have W1 := Lib.hid hw1
  clear hb1 hw1
  go_wp2_with fail
  refine (HL.out _ wb _ S1.out W1.out).mono ?_; rintro e w2 ⟨rfl, hb2⟩
  have hz2q := hb2.size
  have hz2' : w.heap.size ≤ w2.heap.size := by omega
  have B2 : Hid (Below w.heap.size w w2) := Lib.hid (B1.out.trans (hb2.mono hz1'))
  have S2 : Hid (StageAt w2 b mb hb pb S) := Lib.hid (S1.out.below hb2 S1.out.lt)
  have W2 := Lib.hid (W1.out.below hb2)
  clear hb2
  go_wp2_with fail
  go_loopw [11, 12, 15] (fun e l v wr => ∃ (k : Nat) (acc : List NC), e = .int .i64 0 ∧ v = .int .i64 k ∧ Below w2.heap.size w2 wr ∧ wr.ownsRow (w2.heap.size + 1) 105 3 l acc.length (pairRow acc) ∧ acc.length ≤ most ∧ ∃ x ps, rowAt wr w2.heap.size = some (stPg S x.1).cs ∧ w2.heap.size < wr.heap.size ∧ LeafAll S st (x :: ps) 0 ∧ (∀ y ∈ x :: ps, y ∈ Tr.leaves N T) ∧ k + ps.length ≤ 1022 ∧ res = rfold most key acc (flat (x :: ps))) (fun _ _ v _ => 1024 - (intOf v).toNat)
  case atStart =>
    obtain ⟨x, ps, e1, e2, e3, e4, e5⟩ := START.out
    refine ⟨0, [], rfl, rfl, (Below.refl _ _).alloc (Nat.le_refl _) _, World.ownsRow_nil _ _ _ _, Nat.zero_le _, x, ps, ?_, by go_size, e2, e3, e4, e5⟩
    rw [← e1]
    exact rowAt_at _ _ _ _ rfl
  case round =>
    obtain ⟨k, acc, rfl, rfl, hbw, hown, hacc, ⟨xi, xl⟩, ps, hrow, hzr, hch, hmem, hkp, hres⟩ := hrel
    obtain ⟨wo, rfl⟩ : ∃ wo : World, wo = wr := ⟨_, rfl⟩
    have hz3 := hbw.size
    have hx0 := HOK.out _ (hmem _ (List.mem_cons_self ..))
    obtain ⟨hx1, -, -, -⟩ := hx0
    have hpg := hch.1
    simp only at hpg hx1 hrow
    rw [hpg] at hrow
    have HC := Lib.hid (fun w' => ncount_nd 0 st (nextOf ps 0) xl hx1.1 hx1.cells w')
    have hpl : (ndPg 0 st (nextOf ps 0) xl).l = 0 := rfl
    have hpn : (ndPg 0 st (nextOf ps 0) xl).n = nextOf ps 0 := rfl
    have HA := Lib.hid (fun i (hi : i < xl.length) => (nd_a 0 st (nextOf ps 0) xl i (by have := hx1.1; omega)).trans (stL_get hi))
    have HD := Lib.hid (fun i (hi : i < xl.length) => (nd_d 0 st (nextOf ps 0) xl i (by have := hx1.1; omega)).trans (dL_get hi))
    have HX := Lib.hid hx1
    have h6 := hx1.1
    have hfl : flat ((xi, xl) :: ps) = xl ++ flat ps := flat_cons _ _
    rw [hfl] at hres
    generalize hnx : nextOf ps 0 = nx at *
    generalize ndPg 0 st nx xl = p at *
    have BW := Lib.hid hbw
    have HCh := Lib.hid hch.2
    have HM := Lib.hid (fun y hy => hmem y (List.mem_cons_of_mem _ hy))
    have HRow := Lib.hid hrow
    have HOwn := Lib.hid hown
    have HRes := Lib.hid hres
    have c1 : wo.cell? ⟨w2.heap.size, 1, none⟩ = some (.int .i64 0) := (cell_row hrow 1).trans (by rw [← hpl]; rfl)
    have hk1024 : ((k : Int) == 1024) = false := by simp; omega
    clear hbw hch hmem hpg hx1 hfl hown hres
    go_wp2_with fail
    refine (HC.out _).mono ?_; rintro e w4 ⟨rfl, hb4⟩
    have hz5 := hb4.size
    have R4 := Lib.hid ((rowAt_below hb4 (by omega)).trans HRow.out)
    have B4 : Hid (Below w2.heap.size w2 w4) := Lib.hid (BW.out.trans (hb4.mono (by omega)))
    have O4 := Lib.hid (own_below1 HOwn.out hb4)
    have hx0 : (0 : Int) ≤ (xl.length : Int) := by omega
    have hx6 : (xl.length : Int) ≤ 6 := by omega
    clear hb4 c1 hrow
    go_wp2_with fail
    have hzq : w2.heap.size < w4.heap.size := by omega
    clear hz5
    obtain ⟨wq, rfl⟩ : ∃ wq : World, wq = w4 := ⟨_, rfl⟩
    go_loopw [12, 64] (fun l v wr => ∃ (j : Nat) (acc : List NC), j ≤ xl.length ∧ v = .int .i64 j ∧ Below w2.heap.size w2 wr ∧ w2.heap.size < wr.heap.size ∧ rowAt wr w2.heap.size = some p.cs ∧ wr.ownsRow (w2.heap.size + 1) 105 3 l acc.length (pairRow acc) ∧ acc.length ≤ most ∧ res = rfold most key acc (xl.drop j ++ flat ps)) (fun _ v _ => xl.length - (intOf v).toNat)
    case atStart => exact ⟨0, acc, by omega, rfl, B4.out, hzq, R4.out, O4.out, hacc, by simpa using HRes.out⟩
    case round =>
      obtain ⟨j, acc2, hj, rfl, hbi, hzi, hri, howi, ha2, hrs⟩ := hrel
      obtain ⟨wi, rfl⟩ : ∃ wi : World, wi = wr := ⟨_, rfl⟩
      have BI := Lib.hid hbi
      have RI := Lib.hid hri
      have OI := Lib.hid howi
      have HRs := Lib.hid hrs
      obtain ⟨la, lc, rfl⟩ : ∃ la lc, u12 = .slice la acc2.length lc := by
        rcases ownsRow_forms howi with ⟨h1, h2⟩ | ⟨g, cap, h1⟩
        · exact ⟨none, 0, by rw [h1, h2]⟩
        · exact ⟨_, _, h1⟩
      clear hbi howi hrs
      by_cases hjl : j < xl.length
      · have hA := HA.out j hjl
        have hD := HD.out j hjl
        have hok := HX.out.cells _ (List.getElem_mem hjl)
        have HKy := Lib.hid (fun w' => key_ok xl[j].st xl[j].key xl[j].rest hok.1 hok.2.1 (by have := hok.2.2; omega) w')
        have hstep : ∀ A, rfold most key A (xl.drop j ++ flat ps) = rfold most key (rstep most key A xl[j]) (xl.drop (j + 1) ++ flat ps) := fun A => by
          rw [List.drop_eq_getElem_cons hjl]; rfl
        have cA := (cell_row RI.out (4 + j * 2)).trans (cs_a p j (by omega))
        have cD := (cell_row RI.out (4 + j * 2 + 1)).trans (cs_d p j (by omega))
        rw [hA] at cA
        rw [hD] at cD
        have hd : NC.d xl[j] = tx xl[j].key ++ xl[j].rest := rfl
        rw [hd] at cD
        have hstep := hstep acc2
        clear hA hD hok hd
        generalize xl[j] = c at *
        obtain ⟨ck, cs, cr⟩ := c
        simp only at HKy cA cD
        have RC := rowAt_at wi #[.int .i64 cs, .string (tx ck ++ cr)] 84 _ rfl
        have HCk : True := trivial
        have hlq : Op.bytesLess ck.toList key.toList = decide (KLt ck key) := blt_eq _ _
        by_cases c1 : acc2.length < most
        · have c1i : decide ((acc2.length : Int) < (most : Int)) = true := by simp; omega
          by_cases c2 : cs = 1
          · by_cases c3 : KLt ck key
            · have hst : rstep most key acc2 ⟨ck, cs, cr⟩ = acc2 := if_neg fun hh => hh.2.2 c3
              have hlq2 : Op.bytesLess ck.toList key.toList = true := by rw [hlq]; simp [c3]
              have HNew := Lib.hid (HRs.out.trans (hstep.trans (by rw [hst])))
              clear hlq
              subst c2
              clear HCk
              go_wp2_with fail
              refine (HKy.out _).mono ?_; rintro e w5 ⟨rfl, hb5⟩
              have hz6 := hb5.size
              have cS := (hb5.cell (p := ⟨wi.heap.size, 0, none⟩) (by show wi.heap.size < _; rw [World.size_alloc]; omega)).trans ((cell_row RC 0).trans (show _ = some (.int .i64 1) from rfl))
              have R5 := Lib.hid ((rowAt_below hb5 (by rw [World.size_alloc]; omega)).trans ((rowAt_past _ _ _ (by omega)).trans RI.out))
              have B5 : Hid (Below w2.heap.size w2 w5) := Lib.hid ((BI.out.alloc (by omega) _).trans (hb5.mono (by rw [World.size_alloc]; omega)))
              have O5 := Lib.hid (own_below1 (OI.out.alloc (.cells #[.int .i64 1, .string (tx ck ++ cr)] 84)) hb5)
              have hzz : w2.heap.size < w5.heap.size := by rw [World.size_alloc] at hz6; omega
              clear hb5
              go_wp2_with fail
              exact ⟨⟨j + 1, acc2, by omega, by go_num, B5.out, hzz, R5.out, O5.out, ha2, HNew.out⟩, by simp [intOf]; omega⟩
            · have hst : rstep most key acc2 ⟨ck, cs, cr⟩ = acc2 ++ [⟨ck, cs, cr⟩] := if_pos ⟨c1, c2, c3⟩
              have hlq2 : Op.bytesLess ck.toList key.toList = false := by rw [hlq]; simp [c3]
              have HNew := Lib.hid (HRs.out.trans (hstep.trans (by rw [hst])))
              clear hlq
              subst c2
              clear HCk
              go_wp2_with fail
              refine (HKy.out _).mono ?_; rintro e w5 ⟨rfl, hb5⟩
              have hz6 := hb5.size
              have cS := (hb5.cell (p := ⟨wi.heap.size, 0, none⟩) (by show wi.heap.size < _; rw [World.size_alloc]; omega)).trans ((cell_row RC 0).trans (show _ = some (.int .i64 1) from rfl))
              have R5 := Lib.hid ((rowAt_below hb5 (by rw [World.size_alloc]; omega)).trans ((rowAt_past _ _ _ (by omega)).trans RI.out))
              have B5 : Hid (Below w2.heap.size w2 w5) := Lib.hid ((BI.out.alloc (by omega) _).trans (hb5.mono (by rw [World.size_alloc]; omega)))
              have hown5 := own_below1 (OI.out.alloc (.cells #[.int .i64 1, .string (tx ck ++ cr)] 84)) hb5
              have hzz : w2.heap.size < w5.heap.size := by rw [World.size_alloc] at hz6; omega
              clear hb5
              go_wp2_with (at_builtin; refine wpList_append_own _ rfl _ _ 63 rfl (w2.heap.size + 1) 105 i0 _ 3 40 Try.underlying63 hi hz0 hz1 hz2 rfl (by decide) _ _ _ rfl (hown5.alloc _) ⟨w5.heap.size, 0, none⟩ 1 1 (pairCs ⟨ck, 1, cr⟩).toList rfl rfl ?c1 ?c2 ?c3 ?c4 ?c5 ?_)
              case c1 => exact World.news_of_block (cs := pairCs ⟨ck, 1, cr⟩) (t := 105) (fr := (0, 0)) (heap_alloc_new w5 _)
              case c2 => intro u hu; simp [pairCs] at hu; rcases hu with rfl | rfl | rfl <;> rfl
              case c3 => simp only [maxLen]; omega
              case c4 => omega
              case c5 => first | omega | (simp; omega)
              intro v' w6 hown6 hgrow _
              have B6 : Below w2.heap.size w2 w6 := (B5.out.alloc (by omega) _).grown hgrow (by go_size) (fun q hq => by have := (hown5.lt q hq).1; omega)
              have R6 : rowAt w6 w2.heap.size = some p.cs := by
                unfold rowAt
                rw [hgrow.block w2.heap.size (by go_size) (fun e => by have := (hown5.lt _ e.symm).1; omega)]
                exact ((rowAt_past _ _ _ hzz).trans R5.out)
              have hz66 : w2.heap.size < w6.heap.size := by have := hgrow.size; rw [World.size_alloc] at this; omega
              clear hown5 hgrow
              go_wp2_with fail
              exact ⟨⟨j + 1, acc2 ++ [⟨ck, 1, cr⟩], by omega, by go_num, B6, hz66, R6, by rw [pairRow_append]; simpa [pairRow] using hown6, by rw [List.length_append]; simp; omega, HNew.out⟩, by simp [intOf]; omega⟩
          · have hst : rstep most key acc2 ⟨ck, cs, cr⟩ = acc2 := if_neg fun hh => c2 hh.2.1
            have c2i : decide (cs = 1) = false := by simp [c2]
            have HNew := Lib.hid (HRs.out.trans (hstep.trans (by rw [hst])))
            clear HCk
            go_wp2_with fail
            refine (HKy.out _).mono ?_; rintro e w5 ⟨rfl, hb5⟩
            have hz6 := hb5.size
            have cS := (hb5.cell (p := ⟨wi.heap.size, 0, none⟩) (by show wi.heap.size < _; rw [World.size_alloc]; omega)).trans ((cell_row RC 0).trans (show _ = some (.int .i64 cs) from rfl))
            have R5 := Lib.hid ((rowAt_below hb5 (by rw [World.size_alloc]; omega)).trans ((rowAt_past _ _ _ (by omega)).trans RI.out))
            have B5 : Hid (Below w2.heap.size w2 w5) := Lib.hid ((BI.out.alloc (by omega) _).trans (hb5.mono (by rw [World.size_alloc]; omega)))
            have O5 := Lib.hid (own_below1 (OI.out.alloc (.cells #[.int .i64 cs, .string (tx ck ++ cr)] 84)) hb5)
            have hzz : w2.heap.size < w5.heap.size := by rw [World.size_alloc] at hz6; omega
            clear hb5
            go_wp2_with fail
            exact ⟨⟨j + 1, acc2, by omega, by go_num, B5.out, hzz, R5.out, O5.out, ha2, HNew.out⟩, by simp [intOf]; omega⟩
        · have c1i : decide ((acc2.length : Int) < (most : Int)) = false := by simp; omega
          have hst : rstep most key acc2 ⟨ck, cs, cr⟩ = acc2 := if_neg fun hh => c1 hh.1
          have HNew := Lib.hid (HRs.out.trans (hstep.trans (by rw [hst])))
          clear HCk
          go_wp2_with fail
          refine (HKy.out _).mono ?_; rintro e w5 ⟨rfl, hb5⟩
          have hz6 := hb5.size
          have cS := (hb5.cell (p := ⟨wi.heap.size, 0, none⟩) (by show wi.heap.size < _; rw [World.size_alloc]; omega)).trans ((cell_row RC 0).trans (show _ = some (.int .i64 cs) from rfl))
          have R5 := Lib.hid ((rowAt_below hb5 (by rw [World.size_alloc]; omega)).trans ((rowAt_past _ _ _ (by omega)).trans RI.out))
          have B5 : Hid (Below w2.heap.size w2 w5) := Lib.hid ((BI.out.alloc (by omega) _).trans (hb5.mono (by rw [World.size_alloc]; omega)))
          have O5 := Lib.hid (own_below1 (OI.out.alloc (.cells #[.int .i64 cs, .string (tx ck ++ cr)] 84)) hb5)
          have hzz : w2.heap.size < w5.heap.size := by rw [World.size_alloc] at hz6; omega
          clear hb5
          go_wp2_with fail
          exact ⟨⟨j + 1, acc2, by omega, by go_num, B5.out, hzz, R5.out, O5.out, ha2, HNew.out⟩, by simp [intOf]; omega⟩
      · have hje : j = xl.length := by omega
        have hrs2 : res = rfold most key acc2 (flat ps) := by rw [HRs.out, hje, List.drop_length]; rfl
        have c3 : wi.cell? ⟨w2.heap.size, 3, none⟩ = some (.int .i64 nx) := (cell_row RI.out 3).trans (by rw [← hpn]; rfl)
        have OUT := Lib.hid (ownsRow_le OI.out (by omega : w.heap.size ≤ w2.heap.size + 1))
        have BO := Lib.hid (B2.out.trans (BI.out.mono hz2'))
        clear hje
        rcases ps with _ | ⟨y, ps⟩
        · have hnx0 : nx = 0 := by rw [← hnx]; rfl
          have hrn : acc2 = res := by rw [hrs2]; rfl
          rw [hnx0] at c3
          rw [hrn] at OUT
          have hrl : acc2.length = res.length := by rw [hrn]
          rw [hrl]
          clear hrs2
          go_wp2_with fail
          go_ret2
          exact ⟨_, rfl, BO.out, OUT.out⟩
        · have hy := HOK.out y (HM.out y (List.mem_cons_self ..))
          have hnxy : nx = y.1 := by rw [← hnx]; rfl
          have hy0 : (nx == 0) = false := by simp; omega
          have hyd : decide (y.1 = 0) = false := by simp; omega
          have hyb : (y.1 == 0) = false := by simp; omega
          have hyc : decide (nx = 0) = false := by simp; omega
          obtain ⟨hy1, hy2, -, -⟩ := hy
          have hpy := HCh.out.1
          have HG := Lib.hid (fun w' hs' hw' => wget_ok S b mb hb pb wb st root (.slice none 0 0) y.1 _ hpy hy2 rfl (fun w' => ncheck_node (n := 0) st _ hy1 w') w' hs' hw')
          rw [← hpy] at HG
          have HPy := Lib.hid hpy
          clear hpy hy1 hy2
          by_cases hfull : acc2.length = most
          · have hfi : ((acc2.length : Int) == (most : Int)) = true := by simp [hfull]
            have hrn : acc2 = res := by rw [hrs2, rfold_full _ _ (by omega)]
            rw [hrn] at OUT
            have hrl : acc2.length = res.length := by rw [hrn]
            have hf1 : decide (res.length = most) = true := by rw [← hrl]; simp [hfull]
            have hf2 : (res.length == most) = true := by rw [← hrl]; simp [hfull]
            clear hrs2 HG hrn
            rw [hrl] at hfi
            rw [hrl]
            clear hfull hrl
            go_wp2_with fail
            go_ret2
            exact ⟨_, rfl, BO.out, OUT.out⟩
          · have hfi : ((acc2.length : Int) == (most : Int)) = false := by simp; omega
            have hf1 : decide (acc2.length = most) = false := by simp [hfull]
            have hf2 : (acc2.length == most) = false := by simp [hfull]
            have HR0 := Lib.hid hrs2
            clear hrs2
            go_wp2_with fail
            refine (HG.out _ ((S2.out.below (BI.out.mono (Nat.le_refl _)) S2.out.lt)) (W2.out.below BI.out)).mono ?_; rintro e w5 ⟨rfl, hb5⟩
            have hz6 := hb5.size
            have R5 := (rowAt_below hb5 (by omega)).trans RI.out
            have hrow5 : row16 (rowAt w5 w2.heap.size) = true := by rw [R5]; rfl
            have RF := rowAt_setRow _ _ _ (stPg S y.1).cs R5
            have B5 : Hid (Below w2.heap.size w2 (w5.setRow w2.heap.size (stPg S y.1).cs)) := Lib.hid (below_setRow (BI.out.trans (hb5.mono (by omega))) _ (Nat.le_refl _))
            have hown5 := own_below1 OI.out hb5
            have hown6 : (w5.setRow w2.heap.size (stPg S y.1).cs).ownsRow (w2.heap.size + 1) 105 3 (.slice la acc2.length lc) acc2.length (pairRow acc2) := by
              refine hown5.kept (row := some w2.heap.size) (grown_setRowR (World.grownBy.refl _ _) _) ?_
              right
              intro e
              have := (hown5.lt _ e).1
              omega
            have HO6 := Lib.hid hown6
            clear hb5 hown5 hown6
            go_wp2_with fail
            refine ⟨⟨k + 1, acc2, rfl, by go_num, B5.out, HO6.out, ha2, y, ps, RF, ?_, HCh.out, HM.out, ?_, HR0.out⟩, ?_⟩
            · show w2.heap.size < (w5.heap.modify _ _).size
              rw [Array.size_modify]
              omega
            · rw [List.length_cons] at hkp; omega
            · simp [intOf]; omega
end Go.Proofs.Ytljommhbhpappaa
