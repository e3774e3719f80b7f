/-
  Several texts in one: Ld11, Ld12, Ld13.
-/
import Derived.Test.YtileamjmhhifaaaGreatLd10
import Derived.Test.YtileamjmhhifaaaGreatPkA
namespace Go.Proofs.YtileamjmhhifaaaGreat
/-!
  Layer 9 (locks): the walk of the document's put.
-/
section
open Go.RowKit Go.Joins Go.Sort Go.Shelf
set_option linter.unusedVariables false
set_option linter.unusedSimpArgs false

/-- a pair at its place, once -/
def putP (L : List Pr) (x : Pr) (L' : List Pr) : Prop := ∃ k, k ≤ L.length ∧ (∀ j, j < k → ∀ h : j < L.length, ltP L[j] x) ∧ (∀ h : k < L.length, ¬ ltP L[k] x) ∧ ((∃ h : k < L.length, L[k] = x ∧ L' = L) ∨ ((∀ h : k < L.length, L[k] ≠ x) ∧ L' = insAt L k x))
theorem putP.ok {L L' : List Pr} {x : Pr} (h : putP L x L') (hs : L.Pairwise ltP) : L'.Pairwise ltP ∧ (∀ p, p ∈ L' ↔ p = x ∨ p ∈ L) ∧ L'.length ≤ L.length + 1 := by
  obtain ⟨k, hk, h1, h2, ⟨hl, e, rfl⟩ | ⟨hne, rfl⟩⟩ := h
  · refine ⟨hs, fun p => ⟨.inr, fun h => h.elim (fun h => ?_) id⟩, by omega⟩
    rw [h, ← e]; exact List.getElem_mem hl
  · refine ⟨insAt_pw (lt := ltP) (fun {a b c} h k => ?_) hs h1 fun hl => ?_, fun p => insAt_mem, by rw [insAt_len _ hk]; omega⟩
    · unfold ltP at *; omega
    · have h3 := h2 hl
      have h4 := hne hl
      have : L[k].1 ≠ x.1 ∨ L[k].2 ≠ x.2 := by
        by_cases e1 : L[k].1 = x.1
        · by_cases e2 : L[k].2 = x.2
          · exact absurd (Prod.ext e1 e2) h4
          · exact .inr e2
        · exact .inl e1
      unfold ltP at *
      omega
theorem own_ins9 {α : Type} {enc : α → List Value} {ty : TypeId} {s : Nat} {w : World} {B n k : Nat} {v : Value} {L : List α} {r : α} {xs : List Value} (hk : k ≤ L.length) (h : w.ownsRow B ty s v n xs) (hn : n = L.length + 1) (hx : xs = (insAt L k r).flatMap enc) : w.ownsRow B ty s v (insAt L k r).length ((insAt L k r).flatMap enc) := by
  rw [insAt_len _ hk, ← hn, ← hx]; exact h
def PutPost (L : List Pr) (x1 x2 : Int) (B : Nat) (w : World) (e : Ending) (w' : World) : Prop := ∃ v' L', e = .returned v' ∧ putP L (x1, x2) L' ∧ w'.ownsRow B 86 2 v' L'.length (L'.flatMap prL) ∧ Below w.heap.size w w'
set_option maxHeartbeats 16000000 in
set_option maxRecDepth 100000 in
theorem dput_any (L : List Pr) (hl : L.length ≤ 4000000) (x1 x2 : Int) {B : Nat} {v : Value} {w : World} (ho : w.ownsRow B 86 2 v L.length (L.flatMap prL)) (hB : B ≤ w.heap.size) :
    Calls Tryz.prog 47 #[v, .agg #[.int .i64 x1, .int .i64 x2]] w fun e w' => PutPost L x1 x2 B w e w' := by
  obtain ⟨al, cl, rfl, hcl, -, hal⟩ := own_cap ho
  have hb0 : Below w.heap.size w (w.alloc (.cells #[.int .i64 x1, .int .i64 x2] 86)) := (Below.refl _ _).alloc (Nat.le_refl _) _
  have HBx : Hid ((w.alloc (.cells #[.int .i64 x1, .int .i64 x2] 86)).heap[w.heap.size]? = some (.cells #[.int .i64 x1, .int .i64 x2] 86)) := Lib.hid (heap_alloc_new w _)
  have HO := Lib.hid (own_keep ho fun g hg => hb0.block g (ho.lt g hg).2)
  have HO0 := Lib.hid ho
  have HBw := Lib.hid hb0
  have HBb := Lib.hid hb0
  have hsb : (w.alloc (.cells #[.int .i64 x1, .int .i64 x2] 86)).heap.size = w.heap.size + 1 := World.size_alloc _ _
  have hBw : w.heap.size ≤ (w.alloc (.cells #[.int .i64 x1, .int .i64 x2] 86)).heap.size := by omega
  have hbxl : w.heap.size < (w.alloc (.cells #[.int .i64 x1, .int .i64 x2] 86)).heap.size := by omega
  have HLL := Lib.hid hl
  clear ho hb0
  go_enter Tryz.func47, Tryz.ntmps47
  go_wp2_with fail
  generalize w.alloc (.cells #[.int .i64 x1, .int .i64 x2] 86) = wb at *
  go_loopw [5] (fun tk wr => ∃ (k : Nat), k ≤ L.length ∧ tk = .int .i64 k ∧ (∀ j, j < k → ∀ h : j < L.length, ltP L[j] (x1, x2)) ∧ Gr wb wr) (fun tk _ => L.length - (intOf tk).toNat)
  case atStart => exact ⟨0, by omega, rfl, fun j hj => by omega, Gr.refl _⟩
  case round =>
    obtain ⟨k, hk, rfl, hall, hgi⟩ := hrel
    obtain ⟨wi, rfl⟩ : ∃ wi : World, wi = wr := ⟨_, rfl⟩
    have HK := Lib.hid hk
    have HAll := Lib.hid hall
    have HGI := Lib.hid hgi
    have hbxi := (hgi.below.block _ hbxl).trans HBx.out
    have b0 : wi.cell? ⟨w.heap.size, 0, none⟩ = some (.int .i64 x1) := (cell_of_block hbxi 0).trans rfl
    have b1 : wi.cell? ⟨w.heap.size, 1, none⟩ = some (.int .i64 x2) := (cell_of_block hbxi 1).trans rfl
    have hOi := own_keep HO.out fun g hg => hgi.below.block g (HO.out.lt g hg).2
    clear hall hgi hbxi
    by_cases hlt2 : k < L.length
    · obtain ⟨gl, rfl, hgl1, hgl2⟩ := hal.resolve_left (by omega)
      obtain ⟨q0, q1⟩ := pr_cells hOi k hlt2
      have hkI : (k : Int) < (L.length : Int) := by omega
      have hk0 : (0 : Int) ≤ (k : Int) := by omega
      have HLT2 : Hid (k < L.length ∧ L.length ≤ 4000000 ∧ L.length ≤ cl) := Lib.hid ⟨hlt2, hl, hcl⟩
      have hnext : ltP L[k] (x1, x2) → ∀ j, j < k + 1 → ∀ h : j < L.length, ltP L[j] (x1, x2) := fun e j hj hjl => by
        by_cases e2 : j = k
        · subst e2; exact e
        · exact HAll.out j (by omega) hjl
      have hstop : ¬ ltP L[k] (x1, x2) → ∀ h : k < L.length, ¬ ltP L[k] (x1, x2) := fun e _ => e
      have heqq : L[k].1 = x1 → L[k].2 = x2 → ∃ h : k < L.length, L[k] = ((x1, x2) : Pr) := fun e1 e2 => ⟨hlt2, Prod.ext e1 e2⟩
      have hneq : ¬ (L[k].1 = x1 ∧ L[k].2 = x2) → ∀ h : k < L.length, L[k] ≠ ((x1, x2) : Pr) := fun h _ e => h ⟨by rw [e], by rw [e]⟩
      obtain ⟨p1, hp1⟩ : ∃ p1, L[k].1 = p1 := ⟨_, rfl⟩
      obtain ⟨p2, hp2⟩ : ∃ p2, L[k].2 = p2 := ⟨_, rfl⟩
      have hlt : ltP L[k] (x1, x2) ↔ p1 < x1 ∨ p1 = x1 ∧ p2 < x2 := by unfold ltP; rw [hp1, hp2]
      rw [hp1] at q0 heqq hneq
      rw [hp2] at q1 heqq hneq
      have HNext := Lib.hid hnext
      have HStop0 := Lib.hid hstop
      have HEq := Lib.hid heqq
      have HNeq := Lib.hid hneq
      have HLt0 := Lib.hid hlt
      clear hp1 hp2 hlt hnext hstop heqq hneq hOi
      by_cases c1 : p1 < x1
      · have HLt := HLt0.out.2 (.inl c1)
        have he1 : decide (p1 < x1) = true := by simpa using c1
        have HL9 := Lib.hid HLt
        clear HLt HStop0 HEq HNeq HLt0
        go_wp2_with fail
        go_quiet (fail)
        go_wp2_with fail
        exact ⟨⟨k + 1, by have := HLT2.out; omega, by have := HLT2.out; go_num, HNext.out HL9.out, HGI.out.drewN _⟩, by have := HLT2.out; simp [intOf]; omega⟩
      · have he1 : decide (p1 < x1) = false := by simpa using c1
        by_cases c2 : p1 = x1
        · by_cases c3 : p2 < x2
          · have HL9 := Lib.hid (HLt0.out.2 (.inr ⟨c2, c3⟩))
            have he2 : decide (p2 < x2) = true := by simpa using c3
            subst p1
            clear HStop0 HEq HNeq HLt0
            go_wp2_with fail
            go_quiet (fail)
            go_wp2_with fail
            exact ⟨⟨k + 1, by have := HLT2.out; omega, by have := HLT2.out; go_num, HNext.out HL9.out, HGI.out.drewN _⟩, by have := HLT2.out; simp [intOf]; omega⟩
          · have HStop := Lib.hid (HStop0.out fun h => (HLt0.out.1 h).elim c1 fun h => c3 h.2)
            have he2 : decide (p2 < x2) = false := by simpa using c3
            subst p1
            clear HStop0 HLt0 HNext c1 c3
            go_wp2_with fail
            go_quiet (fail)
            go_upto_region 4 with fail
            go_cut [5, 54] (fun s5 s54 wc => s5 = .int .i64 k ∧ ∃ b, s54 = .bool b ∧ (b = true → ∃ h : k < L.length, L[k] = ((x1, x2) : Pr)) ∧ (b = false → ∀ h : k < L.length, L[k] ≠ ((x1, x2) : Pr)) ∧ Gr wb wc)
            case first =>
              by_cases heq : p2 = x2
              · have HE := Lib.hid (HEq.out (by simp) heq)
                subst p2
                have hee : (x1 == x1 && x2 == x2) = true := by simp
                clear he2 HNeq
                go_wp2_with fail
                go_quiet (fail)
                go_wp2_with fail
                go_meet
                exact ⟨rfl, true, by simp, fun _ => HE.out, fun h => (by cases h), (HGI.out.drewN _).drewN _⟩
              · have hee : (p2 == x2) = false := by simpa using heq
                have HNe := Lib.hid (HNeq.out fun h => heq h.2)
                clear heq HEq
                go_wp2_with fail
                go_quiet (fail)
                go_wp2_with fail
                go_meet
                exact ⟨rfl, false, by simp [hee], fun h => (by cases h), fun _ => HNe.out, (HGI.out.drewN _).drewN _⟩
            case rest =>
              obtain ⟨rfl, b, rfl, hbt, hbf, hgc⟩ := hcut
              obtain ⟨WX, rfl⟩ : ∃ WX : World, WX = wc := ⟨_, rfl⟩
              have HG := Lib.hid hgc
              have HBT := Lib.hid hbt
              have HBF := Lib.hid hbf
              clear hgc hbt hbf q0 q1 b0 b1 he2 HEq HNeq
              cases b with
              | true =>
                have HE := Lib.hid (HBT.out rfl)
                clear HBT HBF
                go_wp2_with fail
                go_ret
                unfold PutPost
                exact ⟨_, L, rfl, ⟨k, HK.out, HAll.out, HStop.out, .inl (HE.out.elim fun h e => ⟨h, e, rfl⟩)⟩, own_keep HO0.out fun g hg => (HG.out.below.block g (by have := (HO0.out.lt g hg).2; rw [hsb]; omega)).trans (HBb.out.block g (HO0.out.lt g hg).2), HBw.out.trans (HG.out.below.mono hBw)⟩
              | false =>
                have HNe := Lib.hid (HBF.out rfl)
                clear HBT HBF
                have hkc : (k : Int) ≤ (cl : Int) := by have := HLT2.out; omega
                have hkc2 : k ≠ cl := by have := HLT2.out; omega
                have hLcl : (L.length : Int) ≤ (cl : Int) := by have := HLT2.out; omega
                have HOW := Lib.hid (own_keep HO.out fun g hg => HG.out.below.block g (HO.out.lt g hg).2)
                have hzW := HG.out.below.size
                have hbxW := (HG.out.below.block _ hbxl).trans HBx.out
                have HN1 : Hid (k = (L.take k).length) := Lib.hid <| by rw [List.length_take]; have := HK.out; omega
                have HN3 : Hid ((L.length - k) = (L.drop k).length) := Lib.hid <| by rw [List.length_drop]
                have hl1 : (L.take k).length ≤ 10000000000 := by rw [List.length_take]; have := HLL.out; omega
                have hl3 : (L.drop k).length ≤ 10000000000 := by rw [List.length_drop]; have := HLL.out; omega
                go_wp2_with (at_builtin; refine app_slice prL 2 16 86 46 _ prL_len prL_one Tryz.underlying46 infoPr rfl (by decide) (by decide) rfl _ _ rfl WX.heap.size (.slice none 0 0) [] (L.take k) (some ⟨gl, 0, none⟩) k cl rfl ⟨rfl, .inl ⟨rfl, rfl⟩⟩ rfl HN1.out (.inr ⟨_, rfl, own_head prL_len HOW.out k HK.out⟩) (by simp) hl1 (Nat.le_refl _) ?_)
                intro v1 w1 ho1 hg1
                have HO1 : Hid (w1.ownsRow WX.heap.size 86 2 v1 (L.take k).length ((L.take k).flatMap prL)) := Lib.hid (by rw [show (L.take k).length = k from by rw [List.length_take]; have := HK.out; omega]; simpa using ho1)
                have hb1 : Below WX.heap.size WX w1 := ⟨hg1.os, hg1.tape, hg1.output, hg1.size, fun q hq => hg1.block q hq (by simp [Value.ownBlock])⟩
                have HB1 := Lib.hid hb1
                have hbx1 := (hb1.block _ (Array.getElem?_eq_some_iff.1 hbxW).1).trans hbxW
                have HOW1 := Lib.hid (own_keep HOW.out fun g hg => hb1.block g (HOW.out.lt g hg).2)
                have r0 : w1.cell? ⟨w.heap.size, 0, none⟩ = some (.int .i64 x1) := (cell_of_block hbx1 0).trans rfl
                have r1 : w1.cell? ⟨w.heap.size, 1, none⟩ = some (.int .i64 x2) := (cell_of_block hbx1 1).trans rfl
                have hz1 := hb1.size
                have hba : Below w1.heap.size w1 (w1.alloc (.cells #[.int .i64 x1, .int .i64 x2] 86)) := (Below.refl _ _).alloc (Nat.le_refl _) _
                have ho1a := own_keep HO1.out fun g hg => hba.block g (HO1.out.lt g hg).2
                have hon : (w1.alloc (.cells #[.int .i64 x1, .int .i64 x2] 86)).ownsRow w1.heap.size 86 2 (.slice (some ⟨w1.heap.size, 0, none⟩) 1 1) [((x1, x2) : Pr)].length ([((x1, x2) : Pr)].flatMap prL) := own_one prL 2 prL_len 86 w1 ((x1, x2) : Pr)
                have hza : WX.heap.size ≤ (w1.alloc (.cells #[.int .i64 x1, .int .i64 x2] 86)).heap.size := by rw [World.size_alloc]; omega
                have HO1a := Lib.hid ho1a
                have HBa := Lib.hid hba
                have HZ1 := Lib.hid hz1
                have HZa := Lib.hid hza
                clear ho1 hg1 hb1 hba hl1 hbxW hbx1
                go_wp2_with (at_builtin; refine app_rows prL 2 16 86 46 _ prL_len prL_one Tryz.underlying46 infoPr rfl (by decide) (by decide) rfl _ _ rfl WX.heap.size _ _ (.slice (some ⟨w1.heap.size, 0, none⟩) 1 1) (L.take k) [((x1, x2) : Pr)] rfl ho1a rfl hon (by rw [List.length_take]; have := HLL.out; omega) (by simp) hza ?_)
                intro v2 w2 ho2 hg2
                have HO2' : Hid (w2.ownsRow WX.heap.size 86 2 v2 (L.take k ++ [((x1, x2) : Pr)]).length ((L.take k ++ [((x1, x2) : Pr)]).flatMap prL)) := Lib.hid (by rw [show (L.take k ++ [((x1, x2) : Pr)]).length = k + 1 from by rw [List.length_append, List.length_take]; have := HK.out; simp; omega]; simpa using ho2)
                have HB2 : Hid (Below WX.heap.size WX w2) := Lib.hid ((HB1.out.trans (HBa.out.mono HZ1.out)).grown hg2 HZa.out fun q hq => (HO1a.out.lt q hq).1)
                have HO2 := Lib.hid (own_keep HOW.out fun g hg => HB2.out.block g (HOW.out.lt g hg).2)
                have ho2' := HO2'.out
                have hz2 := HB2.out.size
                have hl2 : (L.take k ++ [((x1, x2) : Pr)]).length ≤ 10000000000 := by rw [List.length_append, List.length_take]; have := HLL.out; first | (simp; done) | (simp; omega)
                clear ho2 hg2 ho1a hon hza r0 r1
                go_wp2_with (at_builtin; refine app_slice prL 2 16 86 46 _ prL_len prL_one Tryz.underlying46 infoPr rfl (by decide) (by decide) rfl _ _ rfl WX.heap.size _ (L.take k ++ [((x1, x2) : Pr)]) (L.drop k) (some ⟨gl, k * 2, none⟩) (L.length - k) (cl - k) rfl ho2' rfl HN3.out (.inr ⟨_, rfl, own_tail prL_len HO2.out k HK.out⟩) hl2 hl3 hz2 ?_)
                intro v3 w3 ho3 hg3
                have HO3 : Hid (w3.ownsRow B 86 2 v3 (insAt L k ((x1, x2) : Pr)).length ((insAt L k ((x1, x2) : Pr)).flatMap prL)) := Lib.hid (own_ins9 HK.out (own_mono9 ho3 (by have := HG.out.below.size; omega)) (by have := HK.out; first | (simp; done) | (simp; omega) | omega) (by simp [insAt]))
                have HB3 : Hid (Below w.heap.size w w3) := Lib.hid (HBw.out.trans (((HG.out.below.mono hBw).trans ((HB2.out.grown hg3 HB2.out.size fun q hq => (HO2'.out.lt q hq).1).mono (by have := HG.out.below.size; omega)))))
                clear ho3 hg3 ho2' hl2 hl3 hz2 hz1 hzW
                go_wp2_with fail
                go_ret
                unfold PutPost
                exact ⟨v3, insAt L k ((x1, x2) : Pr), rfl, ⟨k, HK.out, HAll.out, HStop.out, .inr ⟨HNe.out, rfl⟩⟩, HO3.out, HB3.out⟩
        · have HStop := Lib.hid (HStop0.out fun h => (HLt0.out.1 h).elim c1 fun h => c2 h.1)
          have he2 : (p1 == x1) = false := by simpa using c2
          clear HStop0 HLt0 HNext c1
          go_wp2_with fail
          go_quiet (fail)
          go_upto_region 4 with fail
          go_cut [5, 54] (fun s5 s54 wc => s5 = .int .i64 k ∧ ∃ b, s54 = .bool b ∧ (b = true → ∃ h : k < L.length, L[k] = ((x1, x2) : Pr)) ∧ (b = false → ∀ h : k < L.length, L[k] ≠ ((x1, x2) : Pr)) ∧ Gr wb wc)
          case first =>
            have HNe := Lib.hid (HNeq.out fun h => c2 h.1)
            clear HEq
            go_wp2_with fail
            go_quiet (fail)
            go_wp2_with fail
            go_meet
            exact ⟨rfl, false, by simp [he2], fun h => (by cases h), fun _ => HNe.out, (HGI.out.drewN _).drewN _⟩
          case rest =>
            obtain ⟨rfl, b, rfl, hbt, hbf, hgc⟩ := hcut
            obtain ⟨WX, rfl⟩ : ∃ WX : World, WX = wc := ⟨_, rfl⟩
            have HG := Lib.hid hgc
            have HBT := Lib.hid hbt
            have HBF := Lib.hid hbf
            clear hgc hbt hbf q0 q1 b0 b1 he1 he2 HEq HNeq c2
            cases b with
            | true =>
              have HE := Lib.hid (HBT.out rfl)
              clear HBT HBF
              go_wp2_with fail
              go_ret
              unfold PutPost
              exact ⟨_, L, rfl, ⟨k, HK.out, HAll.out, HStop.out, .inl (HE.out.elim fun h e => ⟨h, e, rfl⟩)⟩, own_keep HO0.out fun g hg => (HG.out.below.block g (by have := (HO0.out.lt g hg).2; rw [hsb]; omega)).trans (HBb.out.block g (HO0.out.lt g hg).2), HBw.out.trans (HG.out.below.mono hBw)⟩
            | false =>
              have HNe := Lib.hid (HBF.out rfl)
              clear HBT HBF
              have hkc : (k : Int) ≤ (cl : Int) := by have := HLT2.out; omega
              have hkc2 : k ≠ cl := by have := HLT2.out; omega
              have hLcl : (L.length : Int) ≤ (cl : Int) := by have := HLT2.out; omega
              have HOW := Lib.hid (own_keep HO.out fun g hg => HG.out.below.block g (HO.out.lt g hg).2)
              have hzW := HG.out.below.size
              have hbxW := (HG.out.below.block _ hbxl).trans HBx.out
              have HN1 : Hid (k = (L.take k).length) := Lib.hid <| by rw [List.length_take]; have := HK.out; omega
              have HN3 : Hid ((L.length - k) = (L.drop k).length) := Lib.hid <| by rw [List.length_drop]
              have hl1 : (L.take k).length ≤ 10000000000 := by rw [List.length_take]; have := HLL.out; omega
              have hl3 : (L.drop k).length ≤ 10000000000 := by rw [List.length_drop]; have := HLL.out; omega
              go_wp2_with (at_builtin; refine app_slice prL 2 16 86 46 _ prL_len prL_one Tryz.underlying46 infoPr rfl (by decide) (by decide) rfl _ _ rfl WX.heap.size (.slice none 0 0) [] (L.take k) (some ⟨gl, 0, none⟩) k cl rfl ⟨rfl, .inl ⟨rfl, rfl⟩⟩ rfl HN1.out (.inr ⟨_, rfl, own_head prL_len HOW.out k HK.out⟩) (by simp) hl1 (Nat.le_refl _) ?_)
              intro v1 w1 ho1 hg1
              have HO1 : Hid (w1.ownsRow WX.heap.size 86 2 v1 (L.take k).length ((L.take k).flatMap prL)) := Lib.hid (by rw [show (L.take k).length = k from by rw [List.length_take]; have := HK.out; omega]; simpa using ho1)
              have hb1 : Below WX.heap.size WX w1 := ⟨hg1.os, hg1.tape, hg1.output, hg1.size, fun q hq => hg1.block q hq (by simp [Value.ownBlock])⟩
              have HB1 := Lib.hid hb1
              have hbx1 := (hb1.block _ (Array.getElem?_eq_some_iff.1 hbxW).1).trans hbxW
              have HOW1 := Lib.hid (own_keep HOW.out fun g hg => hb1.block g (HOW.out.lt g hg).2)
              have r0 : w1.cell? ⟨w.heap.size, 0, none⟩ = some (.int .i64 x1) := (cell_of_block hbx1 0).trans rfl
              have r1 : w1.cell? ⟨w.heap.size, 1, none⟩ = some (.int .i64 x2) := (cell_of_block hbx1 1).trans rfl
              have hz1 := hb1.size
              have hba : Below w1.heap.size w1 (w1.alloc (.cells #[.int .i64 x1, .int .i64 x2] 86)) := (Below.refl _ _).alloc (Nat.le_refl _) _
              have ho1a := own_keep HO1.out fun g hg => hba.block g (HO1.out.lt g hg).2
              have hon : (w1.alloc (.cells #[.int .i64 x1, .int .i64 x2] 86)).ownsRow w1.heap.size 86 2 (.slice (some ⟨w1.heap.size, 0, none⟩) 1 1) [((x1, x2) : Pr)].length ([((x1, x2) : Pr)].flatMap prL) := own_one prL 2 prL_len 86 w1 ((x1, x2) : Pr)
              have hza : WX.heap.size ≤ (w1.alloc (.cells #[.int .i64 x1, .int .i64 x2] 86)).heap.size := by rw [World.size_alloc]; omega
              have HO1a := Lib.hid ho1a
              have HBa := Lib.hid hba
              have HZ1 := Lib.hid hz1
              have HZa := Lib.hid hza
              clear ho1 hg1 hb1 hba hl1 hbxW hbx1
              go_wp2_with (at_builtin; refine app_rows prL 2 16 86 46 _ prL_len prL_one Tryz.underlying46 infoPr rfl (by decide) (by decide) rfl _ _ rfl WX.heap.size _ _ (.slice (some ⟨w1.heap.size, 0, none⟩) 1 1) (L.take k) [((x1, x2) : Pr)] rfl ho1a rfl hon (by rw [List.length_take]; have := HLL.out; omega) (by simp) hza ?_)
              intro v2 w2 ho2 hg2
              have HO2' : Hid (w2.ownsRow WX.heap.size 86 2 v2 (L.take k ++ [((x1, x2) : Pr)]).length ((L.take k ++ [((x1, x2) : Pr)]).flatMap prL)) := Lib.hid (by rw [show (L.take k ++ [((x1, x2) : Pr)]).length = k + 1 from by rw [List.length_append, List.length_take]; have := HK.out; simp; omega]; simpa using ho2)
              have HB2 : Hid (Below WX.heap.size WX w2) := Lib.hid ((HB1.out.trans (HBa.out.mono HZ1.out)).grown hg2 HZa.out fun q hq => (HO1a.out.lt q hq).1)
              have HO2 := Lib.hid (own_keep HOW.out fun g hg => HB2.out.block g (HOW.out.lt g hg).2)
              have ho2' := HO2'.out
              have hz2 := HB2.out.size
              have hl2 : (L.take k ++ [((x1, x2) : Pr)]).length ≤ 10000000000 := by rw [List.length_append, List.length_take]; have := HLL.out; first | (simp; done) | (simp; omega)
              clear ho2 hg2 ho1a hon hza r0 r1
              go_wp2_with (at_builtin; refine app_slice prL 2 16 86 46 _ prL_len prL_one Tryz.underlying46 infoPr rfl (by decide) (by decide) rfl _ _ rfl WX.heap.size _ (L.take k ++ [((x1, x2) : Pr)]) (L.drop k) (some ⟨gl, k * 2, none⟩) (L.length - k) (cl - k) rfl ho2' rfl HN3.out (.inr ⟨_, rfl, own_tail prL_len HO2.out k HK.out⟩) hl2 hl3 hz2 ?_)
              intro v3 w3 ho3 hg3
              have HO3 : Hid (w3.ownsRow B 86 2 v3 (insAt L k ((x1, x2) : Pr)).length ((insAt L k ((x1, x2) : Pr)).flatMap prL)) := Lib.hid (own_ins9 HK.out (own_mono9 ho3 (by have := HG.out.below.size; omega)) (by have := HK.out; first | (simp; done) | (simp; omega) | omega) (by simp [insAt]))
              have HB3 : Hid (Below w.heap.size w w3) := Lib.hid (HBw.out.trans (((HG.out.below.mono hBw).trans ((HB2.out.grown hg3 HB2.out.size fun q hq => (HO2'.out.lt q hq).1).mono (by have := HG.out.below.size; omega)))))
              clear ho3 hg3 ho2' hl2 hl3 hz2 hz1 hzW
              go_wp2_with fail
              go_ret
              unfold PutPost
              exact ⟨v3, insAt L k ((x1, x2) : Pr), rfl, ⟨k, HK.out, HAll.out, HStop.out, .inr ⟨HNe.out, rfl⟩⟩, HO3.out, HB3.out⟩
    · have hkl : k = L.length := by omega
      have HNl := Lib.hid hlt2
      have HStop : Hid (∀ h : k < L.length, ¬ ltP L[k] (x1, x2)) := Lib.hid fun h => absurd h hlt2
      have HKL := Lib.hid hkl
      have hkn : decide ((k : Int) < (L.length : Int)) = false := by simp; omega
      have hknN : decide (k < L.length) = false := by rw [decide_eq_false_iff_not]; omega
      have hk0 : (0 : Int) ≤ (k : Int) := by omega
      have hkL : (k : Int) ≤ (L.length : Int) := by omega
      clear hkl hlt2 hOi
      go_wp2_with fail
      have hmix : Tryz.prog.follows .mixedOrders = true := by kernel_rfl
      refine wp_region_quiet_grown hmix (by kernel_rfl) ?_
      clear hmix
      iterate 5 (with_reducible refine wpQuiet_step (fun K hK => ?_); go_simp; with_reducible refine hK _ ?_; clear hK K)
      iterate 28 go_big_quiet_skip
      iterate 1 (with_reducible refine wpQuiet_step (fun K hK => ?_); go_simp; with_reducible refine hK _ ?_; clear hK K)
      with_reducible refine wpQuiet_nil ?_
      with_reducible intro _ hw'
      obtain ⟨⟨nq, osq⟩, hw''⟩ := hw'
      subst hw''
      have HGI2 : Hid (Gr wb (grow (wi.drewN nq) osq)) := Lib.hid (HGI.out.trans ⟨nq, osq, rfl⟩)
      clear b0 b1
      generalize grow (wi.drewN nq) osq = wj at *
      go_upto_region 4 with fail
      go_cut [5, 54] (fun s5 s54 wc => s5 = .int .i64 k ∧ ∃ b, s54 = .bool b ∧ (b = true → ∃ h : k < L.length, L[k] = ((x1, x2) : Pr)) ∧ (b = false → ∀ h : k < L.length, L[k] ≠ ((x1, x2) : Pr)) ∧ Gr wb wc)
      case first =>
        have HNe : Hid (∀ h : k < L.length, L[k] ≠ ((x1, x2) : Pr)) := Lib.hid fun h => absurd h HNl.out
        go_wp2_with fail
        go_quiet (fail)
        go_wp2_with fail
        go_meet
        exact ⟨rfl, false, rfl, fun h => (by cases h), fun _ => HNe.out, HGI2.out.drewN _⟩
      case rest =>
        obtain ⟨rfl, b, rfl, hbt, hbf, hgc⟩ := hcut
        obtain ⟨WX, rfl⟩ : ∃ WX : World, WX = wc := ⟨_, rfl⟩
        have HG := Lib.hid hgc
        have HBT := Lib.hid hbt
        have HBF := Lib.hid hbf
        clear hgc hbt hbf 
        cases b with
        | true =>
          have HE := Lib.hid (HBT.out rfl)
          clear HBT HBF
          go_wp2_with fail
          go_ret
          unfold PutPost
          exact ⟨_, L, rfl, ⟨k, HK.out, HAll.out, HStop.out, .inl (HE.out.elim fun h e => ⟨h, e, rfl⟩)⟩, own_keep HO0.out fun g hg => (HG.out.below.block g (by have := (HO0.out.lt g hg).2; rw [hsb]; omega)).trans (HBb.out.block g (HO0.out.lt g hg).2), HBw.out.trans (HG.out.below.mono hBw)⟩
        | false =>
          have HNe := Lib.hid (HBF.out rfl)
          clear HBT HBF
          rcases hal with ⟨rfl, hl0, rfl⟩ | ⟨gl, rfl, hgl1, hgl2⟩
          · have hLn : L = [] := List.length_eq_zero_iff.1 hl0
            have hk00 : k = 0 := by have := HKL.out; omega
            subst hLn hk00
            clear hl0 hkn hknN hk0 hkL
            have HOW := Lib.hid (own_keep HO.out fun g hg => HG.out.below.block g (HO.out.lt g hg).2)
            have hzW := HG.out.below.size
            have hbxW := (HG.out.below.block _ hbxl).trans HBx.out
            have HN1 : Hid (0 = (([] : List Pr).take 0).length) := Lib.hid rfl
            have HN3 : Hid (0 = (([] : List Pr).drop 0).length) := Lib.hid rfl
            have hl1 : (([] : List Pr).take 0).length ≤ 10000000000 := by rw [List.length_take]; have := HLL.out; omega
            have hl3 : (([] : List Pr).drop 0).length ≤ 10000000000 := by rw [List.length_drop]; have := HLL.out; omega
            go_wp2_with (at_builtin; refine app_slice prL 2 16 86 46 _ prL_len prL_one Tryz.underlying46 infoPr rfl (by decide) (by decide) rfl _ _ rfl WX.heap.size (.slice none 0 0) [] (([] : List Pr).take 0) none 0 0 rfl ⟨rfl, .inl ⟨rfl, rfl⟩⟩ rfl HN1.out (.inl ⟨rfl, rfl, rfl⟩) (by simp) hl1 (Nat.le_refl _) ?_)
            intro v1 w1 ho1 hg1
            have HO1 : Hid (w1.ownsRow WX.heap.size 86 2 v1 (([] : List Pr).take 0).length ((([] : List Pr).take 0).flatMap prL)) := Lib.hid (by simpa using ho1)
            have hb1 : Below WX.heap.size WX w1 := ⟨hg1.os, hg1.tape, hg1.output, hg1.size, fun q hq => hg1.block q hq (by simp [Value.ownBlock])⟩
            have HB1 := Lib.hid hb1
            have hbx1 := (hb1.block _ (Array.getElem?_eq_some_iff.1 hbxW).1).trans hbxW
            have HOW1 := Lib.hid (own_keep HOW.out fun g hg => hb1.block g (HOW.out.lt g hg).2)
            have r0 : w1.cell? ⟨w.heap.size, 0, none⟩ = some (.int .i64 x1) := (cell_of_block hbx1 0).trans rfl
            have r1 : w1.cell? ⟨w.heap.size, 1, none⟩ = some (.int .i64 x2) := (cell_of_block hbx1 1).trans rfl
            have hz1 := hb1.size
            have hba : Below w1.heap.size w1 (w1.alloc (.cells #[.int .i64 x1, .int .i64 x2] 86)) := (Below.refl _ _).alloc (Nat.le_refl _) _
            have ho1a := own_keep HO1.out fun g hg => hba.block g (HO1.out.lt g hg).2
            have hon : (w1.alloc (.cells #[.int .i64 x1, .int .i64 x2] 86)).ownsRow w1.heap.size 86 2 (.slice (some ⟨w1.heap.size, 0, none⟩) 1 1) [((x1, x2) : Pr)].length ([((x1, x2) : Pr)].flatMap prL) := own_one prL 2 prL_len 86 w1 ((x1, x2) : Pr)
            have hza : WX.heap.size ≤ (w1.alloc (.cells #[.int .i64 x1, .int .i64 x2] 86)).heap.size := by rw [World.size_alloc]; omega
            have HO1a := Lib.hid ho1a
            have HBa := Lib.hid hba
            have HZ1 := Lib.hid hz1
            have HZa := Lib.hid hza
            clear ho1 hg1 hb1 hba hl1 hbxW hbx1
            go_wp2_with (at_builtin; refine app_rows prL 2 16 86 46 _ prL_len prL_one Tryz.underlying46 infoPr rfl (by decide) (by decide) rfl _ _ rfl WX.heap.size _ _ (.slice (some ⟨w1.heap.size, 0, none⟩) 1 1) (([] : List Pr).take 0) [((x1, x2) : Pr)] rfl ho1a rfl hon (by rw [List.length_take]; have := HLL.out; omega) (by simp) hza ?_)
            intro v2 w2 ho2 hg2
            have HO2' : Hid (w2.ownsRow WX.heap.size 86 2 v2 (([] : List Pr).take 0 ++ [((x1, x2) : Pr)]).length ((([] : List Pr).take 0 ++ [((x1, x2) : Pr)]).flatMap prL)) := Lib.hid (by simpa using ho2)
            have HB2 : Hid (Below WX.heap.size WX w2) := Lib.hid ((HB1.out.trans (HBa.out.mono HZ1.out)).grown hg2 HZa.out fun q hq => (HO1a.out.lt q hq).1)
            have HO2 := Lib.hid (own_keep HOW.out fun g hg => HB2.out.block g (HOW.out.lt g hg).2)
            have ho2' := HO2'.out
            have hz2 := HB2.out.size
            have hl2 : (([] : List Pr).take 0 ++ [((x1, x2) : Pr)]).length ≤ 10000000000 := by rw [List.length_append, List.length_take]; have := HLL.out; first | (simp; done) | (simp; omega)
            clear ho2 hg2 ho1a hon hza r0 r1
            go_wp2_with (at_builtin; refine app_slice prL 2 16 86 46 _ prL_len prL_one Tryz.underlying46 infoPr rfl (by decide) (by decide) rfl _ _ rfl WX.heap.size _ (([] : List Pr).take 0 ++ [((x1, x2) : Pr)]) (([] : List Pr).drop 0) none 0 0 rfl ho2' rfl HN3.out (.inl ⟨rfl, rfl, rfl⟩) hl2 hl3 hz2 ?_)
            intro v3 w3 ho3 hg3
            have HO3 : Hid (w3.ownsRow B 86 2 v3 (insAt ([] : List Pr) 0 ((x1, x2) : Pr)).length ((insAt ([] : List Pr) 0 ((x1, x2) : Pr)).flatMap prL)) := Lib.hid (own_ins9 HK.out (own_mono9 ho3 (by have := HG.out.below.size; omega)) (by have := HK.out; first | (simp; done) | (simp; omega) | omega) (by simp [insAt]))
            have HB3 : Hid (Below w.heap.size w w3) := Lib.hid (HBw.out.trans (((HG.out.below.mono hBw).trans ((HB2.out.grown hg3 HB2.out.size fun q hq => (HO2'.out.lt q hq).1).mono (by have := HG.out.below.size; omega)))))
            clear ho3 hg3 ho2' hl2 hl3 hz2 hz1 hzW
            go_wp2_with fail
            go_ret
            unfold PutPost
            exact ⟨v3, insAt ([] : List Pr) 0 ((x1, x2) : Pr), rfl, ⟨0, HK.out, HAll.out, HStop.out, .inr ⟨HNe.out, rfl⟩⟩, HO3.out, HB3.out⟩
          · by_cases hck : cl = k
            · subst hck
              have HDn : Hid (L.drop cl = []) := Lib.hid (by rw [HKL.out, List.drop_length])
              have hLcl : (L.length : Int) ≤ (cl : Int) := by omega
              have HOW := Lib.hid (own_keep HO.out fun g hg => HG.out.below.block g (HO.out.lt g hg).2)
              have hzW := HG.out.below.size
              have hbxW := (HG.out.below.block _ hbxl).trans HBx.out
              have HN1 : Hid (cl = (L.take cl).length) := Lib.hid <| by rw [List.length_take]; have := HK.out; omega
              have HN3 : Hid (0 = (L.drop cl).length) := Lib.hid <| by rw [HDn.out]; rfl
              have hl1 : (L.take cl).length ≤ 10000000000 := by rw [List.length_take]; have := HLL.out; omega
              have hl3 : (L.drop cl).length ≤ 10000000000 := by rw [List.length_drop]; have := HLL.out; omega
              go_wp2_with (at_builtin; refine app_slice prL 2 16 86 46 _ prL_len prL_one Tryz.underlying46 infoPr rfl (by decide) (by decide) rfl _ _ rfl WX.heap.size (.slice none 0 0) [] (L.take cl) (some ⟨gl, 0, none⟩) cl cl rfl ⟨rfl, .inl ⟨rfl, rfl⟩⟩ rfl HN1.out (.inr ⟨_, rfl, own_head prL_len HOW.out cl HK.out⟩) (by simp) hl1 (Nat.le_refl _) ?_)
              intro v1 w1 ho1 hg1
              have HO1 : Hid (w1.ownsRow WX.heap.size 86 2 v1 (L.take cl).length ((L.take cl).flatMap prL)) := Lib.hid (by rw [show (L.take cl).length = cl from by rw [List.length_take]; have := HK.out; omega]; simpa using ho1)
              have hb1 : Below WX.heap.size WX w1 := ⟨hg1.os, hg1.tape, hg1.output, hg1.size, fun q hq => hg1.block q hq (by simp [Value.ownBlock])⟩
              have HB1 := Lib.hid hb1
              have hbx1 := (hb1.block _ (Array.getElem?_eq_some_iff.1 hbxW).1).trans hbxW
              have HOW1 := Lib.hid (own_keep HOW.out fun g hg => hb1.block g (HOW.out.lt g hg).2)
              have r0 : w1.cell? ⟨w.heap.size, 0, none⟩ = some (.int .i64 x1) := (cell_of_block hbx1 0).trans rfl
              have r1 : w1.cell? ⟨w.heap.size, 1, none⟩ = some (.int .i64 x2) := (cell_of_block hbx1 1).trans rfl
              have hz1 := hb1.size
              have hba : Below w1.heap.size w1 (w1.alloc (.cells #[.int .i64 x1, .int .i64 x2] 86)) := (Below.refl _ _).alloc (Nat.le_refl _) _
              have ho1a := own_keep HO1.out fun g hg => hba.block g (HO1.out.lt g hg).2
              have hon : (w1.alloc (.cells #[.int .i64 x1, .int .i64 x2] 86)).ownsRow w1.heap.size 86 2 (.slice (some ⟨w1.heap.size, 0, none⟩) 1 1) [((x1, x2) : Pr)].length ([((x1, x2) : Pr)].flatMap prL) := own_one prL 2 prL_len 86 w1 ((x1, x2) : Pr)
              have hza : WX.heap.size ≤ (w1.alloc (.cells #[.int .i64 x1, .int .i64 x2] 86)).heap.size := by rw [World.size_alloc]; omega
              have HO1a := Lib.hid ho1a
              have HBa := Lib.hid hba
              have HZ1 := Lib.hid hz1
              have HZa := Lib.hid hza
              clear ho1 hg1 hb1 hba hl1 hbxW hbx1
              go_wp2_with (at_builtin; refine app_rows prL 2 16 86 46 _ prL_len prL_one Tryz.underlying46 infoPr rfl (by decide) (by decide) rfl _ _ rfl WX.heap.size _ _ (.slice (some ⟨w1.heap.size, 0, none⟩) 1 1) (L.take cl) [((x1, x2) : Pr)] rfl ho1a rfl hon (by rw [List.length_take]; have := HLL.out; omega) (by simp) hza ?_)
              intro v2 w2 ho2 hg2
              have HO2' : Hid (w2.ownsRow WX.heap.size 86 2 v2 (L.take cl ++ [((x1, x2) : Pr)]).length ((L.take cl ++ [((x1, x2) : Pr)]).flatMap prL)) := Lib.hid (by rw [show (L.take cl ++ [((x1, x2) : Pr)]).length = cl + 1 from by rw [List.length_append, List.length_take]; have := HK.out; simp; omega]; simpa using ho2)
              have HB2 : Hid (Below WX.heap.size WX w2) := Lib.hid ((HB1.out.trans (HBa.out.mono HZ1.out)).grown hg2 HZa.out fun q hq => (HO1a.out.lt q hq).1)
              have HO2 := Lib.hid (own_keep HOW.out fun g hg => HB2.out.block g (HOW.out.lt g hg).2)
              have ho2' := HO2'.out
              have hz2 := HB2.out.size
              have hl2 : (L.take cl ++ [((x1, x2) : Pr)]).length ≤ 10000000000 := by rw [List.length_append, List.length_take]; have := HLL.out; first | (simp; done) | (simp; omega)
              clear ho2 hg2 ho1a hon hza r0 r1
              go_wp2_with (at_builtin; refine app_slice prL 2 16 86 46 _ prL_len prL_one Tryz.underlying46 infoPr rfl (by decide) (by decide) rfl _ _ rfl WX.heap.size _ (L.take cl ++ [((x1, x2) : Pr)]) (L.drop cl) (some ⟨gl, 0, none⟩) 0 0 rfl ho2' rfl HN3.out (.inr ⟨_, rfl, fun j u hj => by rw [HDn.out] at hj; simp at hj⟩) hl2 hl3 hz2 ?_)
              intro v3 w3 ho3 hg3
              have HO3 : Hid (w3.ownsRow B 86 2 v3 (insAt L cl ((x1, x2) : Pr)).length ((insAt L cl ((x1, x2) : Pr)).flatMap prL)) := Lib.hid (own_ins9 HK.out (own_mono9 ho3 (by have := HG.out.below.size; omega)) (by have := HK.out; first | (simp; done) | (simp; omega) | omega) (by simp [insAt]))
              have HB3 : Hid (Below w.heap.size w w3) := Lib.hid (HBw.out.trans (((HG.out.below.mono hBw).trans ((HB2.out.grown hg3 HB2.out.size fun q hq => (HO2'.out.lt q hq).1).mono (by have := HG.out.below.size; omega)))))
              clear ho3 hg3 ho2' hl2 hl3 hz2 hz1 hzW
              go_wp2_with fail
              go_ret
              unfold PutPost
              exact ⟨v3, insAt L cl ((x1, x2) : Pr), rfl, ⟨cl, HK.out, HAll.out, HStop.out, .inr ⟨HNe.out, rfl⟩⟩, HO3.out, HB3.out⟩
            · have hkc : (k : Int) ≤ (cl : Int) := by have := HKL.out; omega
              have hkc2 : k ≠ cl := fun e => hck e.symm
              have hLcl : (L.length : Int) ≤ (cl : Int) := by have := HKL.out; omega
              clear hck
              have HOW := Lib.hid (own_keep HO.out fun g hg => HG.out.below.block g (HO.out.lt g hg).2)
              have hzW := HG.out.below.size
              have hbxW := (HG.out.below.block _ hbxl).trans HBx.out
              have HN1 : Hid (k = (L.take k).length) := Lib.hid <| by rw [List.length_take]; have := HK.out; omega
              have HN3 : Hid ((L.length - k) = (L.drop k).length) := Lib.hid <| by rw [List.length_drop]
              have hl1 : (L.take k).length ≤ 10000000000 := by rw [List.length_take]; have := HLL.out; omega
              have hl3 : (L.drop k).length ≤ 10000000000 := by rw [List.length_drop]; have := HLL.out; omega
              go_wp2_with (at_builtin; refine app_slice prL 2 16 86 46 _ prL_len prL_one Tryz.underlying46 infoPr rfl (by decide) (by decide) rfl _ _ rfl WX.heap.size (.slice none 0 0) [] (L.take k) (some ⟨gl, 0, none⟩) k cl rfl ⟨rfl, .inl ⟨rfl, rfl⟩⟩ rfl HN1.out (.inr ⟨_, rfl, own_head prL_len HOW.out k HK.out⟩) (by simp) hl1 (Nat.le_refl _) ?_)
              intro v1 w1 ho1 hg1
              have HO1 : Hid (w1.ownsRow WX.heap.size 86 2 v1 (L.take k).length ((L.take k).flatMap prL)) := Lib.hid (by rw [show (L.take k).length = k from by rw [List.length_take]; have := HK.out; omega]; simpa using ho1)
              have hb1 : Below WX.heap.size WX w1 := ⟨hg1.os, hg1.tape, hg1.output, hg1.size, fun q hq => hg1.block q hq (by simp [Value.ownBlock])⟩
              have HB1 := Lib.hid hb1
              have hbx1 := (hb1.block _ (Array.getElem?_eq_some_iff.1 hbxW).1).trans hbxW
              have HOW1 := Lib.hid (own_keep HOW.out fun g hg => hb1.block g (HOW.out.lt g hg).2)
              have r0 : w1.cell? ⟨w.heap.size, 0, none⟩ = some (.int .i64 x1) := (cell_of_block hbx1 0).trans rfl
              have r1 : w1.cell? ⟨w.heap.size, 1, none⟩ = some (.int .i64 x2) := (cell_of_block hbx1 1).trans rfl
              have hz1 := hb1.size
              have hba : Below w1.heap.size w1 (w1.alloc (.cells #[.int .i64 x1, .int .i64 x2] 86)) := (Below.refl _ _).alloc (Nat.le_refl _) _
              have ho1a := own_keep HO1.out fun g hg => hba.block g (HO1.out.lt g hg).2
              have hon : (w1.alloc (.cells #[.int .i64 x1, .int .i64 x2] 86)).ownsRow w1.heap.size 86 2 (.slice (some ⟨w1.heap.size, 0, none⟩) 1 1) [((x1, x2) : Pr)].length ([((x1, x2) : Pr)].flatMap prL) := own_one prL 2 prL_len 86 w1 ((x1, x2) : Pr)
              have hza : WX.heap.size ≤ (w1.alloc (.cells #[.int .i64 x1, .int .i64 x2] 86)).heap.size := by rw [World.size_alloc]; omega
              have HO1a := Lib.hid ho1a
              have HBa := Lib.hid hba
              have HZ1 := Lib.hid hz1
              have HZa := Lib.hid hza
              clear ho1 hg1 hb1 hba hl1 hbxW hbx1
              go_wp2_with (at_builtin; refine app_rows prL 2 16 86 46 _ prL_len prL_one Tryz.underlying46 infoPr rfl (by decide) (by decide) rfl _ _ rfl WX.heap.size _ _ (.slice (some ⟨w1.heap.size, 0, none⟩) 1 1) (L.take k) [((x1, x2) : Pr)] rfl ho1a rfl hon (by rw [List.length_take]; have := HLL.out; omega) (by simp) hza ?_)
              intro v2 w2 ho2 hg2
              have HO2' : Hid (w2.ownsRow WX.heap.size 86 2 v2 (L.take k ++ [((x1, x2) : Pr)]).length ((L.take k ++ [((x1, x2) : Pr)]).flatMap prL)) := Lib.hid (by rw [show (L.take k ++ [((x1, x2) : Pr)]).length = k + 1 from by rw [List.length_append, List.length_take]; have := HK.out; simp; omega]; simpa using ho2)
              have HB2 : Hid (Below WX.heap.size WX w2) := Lib.hid ((HB1.out.trans (HBa.out.mono HZ1.out)).grown hg2 HZa.out fun q hq => (HO1a.out.lt q hq).1)
              have HO2 := Lib.hid (own_keep HOW.out fun g hg => HB2.out.block g (HOW.out.lt g hg).2)
              have ho2' := HO2'.out
              have hz2 := HB2.out.size
              have hl2 : (L.take k ++ [((x1, x2) : Pr)]).length ≤ 10000000000 := by rw [List.length_append, List.length_take]; have := HLL.out; first | (simp; done) | (simp; omega)
              clear ho2 hg2 ho1a hon hza r0 r1
              go_wp2_with (at_builtin; refine app_slice prL 2 16 86 46 _ prL_len prL_one Tryz.underlying46 infoPr rfl (by decide) (by decide) rfl _ _ rfl WX.heap.size _ (L.take k ++ [((x1, x2) : Pr)]) (L.drop k) (some ⟨gl, k * 2, none⟩) (L.length - k) (cl - k) rfl ho2' rfl HN3.out (.inr ⟨_, rfl, own_tail prL_len HO2.out k HK.out⟩) hl2 hl3 hz2 ?_)
              intro v3 w3 ho3 hg3
              have HO3 : Hid (w3.ownsRow B 86 2 v3 (insAt L k ((x1, x2) : Pr)).length ((insAt L k ((x1, x2) : Pr)).flatMap prL)) := Lib.hid (own_ins9 HK.out (own_mono9 ho3 (by have := HG.out.below.size; omega)) (by have := HK.out; first | (simp; done) | (simp; omega) | omega) (by simp [insAt]))
              have HB3 : Hid (Below w.heap.size w w3) := Lib.hid (HBw.out.trans (((HG.out.below.mono hBw).trans ((HB2.out.grown hg3 HB2.out.size fun q hq => (HO2'.out.lt q hq).1).mono (by have := HG.out.below.size; omega)))))
              clear ho3 hg3 ho2' hl2 hl3 hz2 hz1 hzW
              go_wp2_with fail
              go_ret
              unfold PutPost
              exact ⟨v3, insAt L k ((x1, x2) : Pr), rfl, ⟨k, HK.out, HAll.out, HStop.out, .inr ⟨HNe.out, rfl⟩⟩, HO3.out, HB3.out⟩
end

/-!
  Layer 9 (locks): the walk of the document's Arcs.
-/
section
open Go.RowKit Go.Joins Go.Sort Go.Shelf
set_option linter.unusedVariables false
set_option linter.unusedSimpArgs false

theorem waitsB_iff (a b : Dr) : waitsB a b = true ↔ waitsP a b := by
  unfold waitsB waitsP
  simp only [Bool.and_eq_true, Bool.or_eq_true, Nm.eqB_iff, bne_iff_ne, beq_iff_eq, Bool.not_eq_true', decide_eq_true_eq, ne_eq]
/-- the arcs up to the k-th row beside the i-th -/
def ArcIn (R : List Dr) (i k : Nat) (p : Pr) : Prop := ∃ a b, ∃ ha : a < R.length, ∃ hb : b < R.length, (a < i ∨ (a = i ∧ b < k)) ∧ waitsB R[a] R[b] = true ∧ p = (R[a].x, R[b].x)
theorem ArcIn.zero {R : List Dr} {p : Pr} : ¬ ArcIn R 0 0 p := by
  rintro ⟨a, b, ha, hb, h | ⟨-, h⟩, -⟩ <;> omega
theorem ArcIn.step {R : List Dr} {i k : Nat} (hi : i < R.length) (hk : k < R.length) {p : Pr} : ArcIn R i (k + 1) p ↔ ArcIn R i k p ∨ (waitsB R[i] R[k] = true ∧ p = (R[i].x, R[k].x)) := by
  constructor
  · rintro ⟨a, b, ha, hb, h | ⟨h1, h2⟩, h3⟩
    · exact .inl ⟨a, b, ha, hb, .inl h, h3⟩
    · by_cases e : b = k
      · subst h1 e; exact .inr h3
      · exact .inl ⟨a, b, ha, hb, .inr ⟨h1, by omega⟩, h3⟩
  · rintro (⟨a, b, ha, hb, h | ⟨h1, h2⟩, h3⟩ | h3)
    · exact ⟨a, b, ha, hb, .inl h, h3⟩
    · exact ⟨a, b, ha, hb, .inr ⟨h1, by omega⟩, h3⟩
    · exact ⟨i, k, hi, hk, .inr ⟨rfl, by omega⟩, h3⟩
theorem ArcIn.row {R : List Dr} {i : Nat} {p : Pr} : ArcIn R i R.length p ↔ ArcIn R (i + 1) 0 p := by
  constructor
  · rintro ⟨a, b, ha, hb, h | ⟨h1, h2⟩, h3⟩
    · exact ⟨a, b, ha, hb, .inl (by omega), h3⟩
    · exact ⟨a, b, ha, hb, .inl (by omega), h3⟩
  · rintro ⟨a, b, ha, hb, h | ⟨h1, h2⟩, h3⟩
    · by_cases e : a = i
      · exact ⟨a, b, ha, hb, .inr ⟨e, hb⟩, h3⟩
      · exact ⟨a, b, ha, hb, .inl (by omega), h3⟩
    · omega
theorem ArcIn.all {R : List Dr} {p : Pr} : ArcIn R R.length 0 p ↔ ∃ a ∈ R, ∃ b ∈ R, waitsP a b ∧ p = (a.x, b.x) := by
  constructor
  · rintro ⟨a, b, ha, hb, -, h1, h2⟩
    exact ⟨R[a], List.getElem_mem ha, R[b], List.getElem_mem hb, (waitsB_iff _ _).1 h1, h2⟩
  · rintro ⟨a, ha, b, hb, h1, h2⟩
    obtain ⟨i, hi, rfl⟩ := List.mem_iff_getElem.1 ha
    obtain ⟨k, hk, rfl⟩ := List.mem_iff_getElem.1 hb
    exact ⟨i, k, hi, hk, .inl hi, (waitsB_iff _ _).2 h1, h2⟩
def ArcPost (R : List Dr) (w : World) (e : Ending) (w' : World) : Prop := ∃ (v : Value) (L : List Pr), e = .returned v ∧ L.Pairwise ltP ∧ (∀ p, p ∈ L ↔ ArcIn R R.length 0 p) ∧ L.length ≤ 1000000 ∧ w'.ownsRow w.heap.size 86 2 v L.length (L.flatMap prL) ∧ Below w.heap.size w w'
section
variable {w : World} {B tb : Nat} {rv : Value} {R : List Dr} {T : Int}
set_option maxHeartbeats 16000000 in
set_option maxRecDepth 100000 in
theorem darcs_any (h : DAt w B tb rv R T) (hl : R.length ≤ 1000) :
    Calls Tryz.prog 19 #[.pointer (some ⟨tb, 0, none⟩)] w fun e w' => ArcPost R w e w' := by
  obtain ⟨a, c, rfl, ha⟩ := h.form
  have HD := Lib.hid h
  have HLR := Lib.hid hl
  have htb0 := (Array.getElem?_eq_some_iff.1 h.at_).1
  clear h
  go_enter Tryz.func19, Tryz.ntmps19
  go_wp2_with fail
  go_loopw [3, 4] (fun tl ti wr => ∃ (i : Nat) (L : List Pr), i ≤ R.length ∧ ti = .int .i64 i ∧ L.Pairwise ltP ∧ (∀ p, p ∈ L ↔ ArcIn R i 0 p) ∧ L.length ≤ i * 1000 ∧ wr.ownsRow w.heap.size 86 2 tl L.length (L.flatMap prL) ∧ Below w.heap.size w wr) (fun _ ti _ => R.length - (intOf ti).toNat)
  case atStart => exact ⟨0, [], by omega, rfl, List.Pairwise.nil, fun p => ⟨fun h => (by cases h), fun h => absurd h ArcIn.zero⟩, by simp, ⟨rfl, .inl ⟨rfl, rfl⟩⟩, Below.refl _ _⟩
  case round =>
    obtain ⟨i, L0, hi, rfl, hs, hm, hln, ho, hb⟩ := hrel
    obtain ⟨wo, rfl⟩ : ∃ wo : World, wo = wr := ⟨_, rfl⟩
    have HS := Lib.hid hs
    have HM := Lib.hid hm
    have HLN := Lib.hid hln
    have HO := Lib.hid ho
    have HB := Lib.hid hb
    have HDo := Lib.hid (HD.out.below hb)
    have hz := hb.size
    have c0 := HDo.out.hd
    clear hs hm hln ho hb
    by_cases hlt : i < R.length
    · obtain ⟨g, rfl, hBg, hgl⟩ := ha (by omega)
      have hik : (i : Int) < (R.length : Int) := by omega
      have hip : (0 : Int) ≤ (i : Int) := by omega
      have HLT : Hid (i < R.length ∧ R.length ≤ 1000) := Lib.hid ⟨hlt, hl⟩
      go_wp2_with fail
      clear c0
      go_loopw [3, 5] (fun tl tk wr => ∃ (k : Nat) (L : List Pr), k ≤ R.length ∧ tk = .int .i64 k ∧ L.Pairwise ltP ∧ (∀ p, p ∈ L ↔ ArcIn R i k p) ∧ L.length ≤ i * 1000 + k ∧ wr.ownsRow w.heap.size 86 2 tl L.length (L.flatMap prL) ∧ Below w.heap.size w wr) (fun _ tk _ => R.length - (intOf tk).toNat)
      case atStart => exact ⟨0, L0, by omega, rfl, HS.out, HM.out, HLN.out, HO.out, HB.out⟩
      case round =>
        clear HS HM HLN HO HB HDo hz
        obtain ⟨k, L, hk, rfl, hs, hm, hln, ho, hb⟩ := hrel
        obtain ⟨wj, rfl⟩ : ∃ wj : World, wj = wr := ⟨_, rfl⟩
        have HS := Lib.hid hs
        have HM := Lib.hid hm
        have HLN := Lib.hid hln
        have HO := Lib.hid ho
        have HB := Lib.hid hb
        have HDj := Lib.hid (HD.out.below hb)
        have hz := hb.size
        have c0 := HDj.out.hd
        clear hs hm hln ho hb
        by_cases hlt2 : k < R.length
        · have hkI : (k : Int) < (R.length : Int) := by omega
          have hk0 : (0 : Int) ≤ (k : Int) := by omega
          have HLT2 : Hid (k < R.length ∧ R.length ≤ 1000) := Lib.hid ⟨hlt2, hl⟩
          have hgw : g < wj.heap.size := by omega
          have htw : tb < wj.heap.size := by omega
          have hi0 := fun n os => cell_grown (a := ⟨g, i * 6 + 0, none⟩) hgw (HDj.out.cell i 0 hlt _ rfl) n os
          have hj0 := fun n os => cell_grown (a := ⟨g, k * 6 + 0, none⟩) hgw (HDj.out.cell k 0 hlt2 _ rfl) n os
          have hi1 := fun n os => cell_grown (a := ⟨g, i * 6 + 1, none⟩) hgw (HDj.out.cell i 1 hlt _ rfl) n os
          have hj1 := fun n os => cell_grown (a := ⟨g, k * 6 + 1, none⟩) hgw (HDj.out.cell k 1 hlt2 _ rfl) n os
          have hi2 := fun n os => cell_grown (a := ⟨g, i * 6 + 2, none⟩) hgw (HDj.out.cell i 2 hlt _ rfl) n os
          have hj2 := fun n os => cell_grown (a := ⟨g, k * 6 + 2, none⟩) hgw (HDj.out.cell k 2 hlt2 _ rfl) n os
          have hi3 := fun n os => cell_grown (a := ⟨g, i * 6 + 3, none⟩) hgw (HDj.out.cell i 3 hlt _ rfl) n os
          have hj3 := fun n os => cell_grown (a := ⟨g, k * 6 + 3, none⟩) hgw (HDj.out.cell k 3 hlt2 _ rfl) n os
          have hi4 := fun n os => cell_grown (a := ⟨g, i * 6 + 4, none⟩) hgw (HDj.out.cell i 4 hlt _ rfl) n os
          have hj4 := fun n os => cell_grown (a := ⟨g, k * 6 + 4, none⟩) hgw (HDj.out.cell k 4 hlt2 _ rfl) n os
          have hi5 := fun n os => cell_grown (a := ⟨g, i * 6 + 5, none⟩) hgw (HDj.out.cell i 5 hlt _ rfl) n os
          have hj5 := fun n os => cell_grown (a := ⟨g, k * 6 + 5, none⟩) hgw (HDj.out.cell k 5 hlt2 _ rfl) n os
          simp only [Nat.add_zero] at hi0 hj0
          have ht0 := fun n os => cell_grown (a := ⟨tb, 0, none⟩) htw HDj.out.hd n os
          have hw0 := fun n os => Calls.grown_of ((waits_any R[i] R[k] (grow (wj.drewN n) os)).mono fun e w' h => ⟨h.1, h.2⟩)
          have HSt := Lib.hid (fun p => ArcIn.step (p := p) hlt hlt2)
          have HX : Hid (∀ W, Below w.heap.size w W → W.cell? ⟨tb, 0, none⟩ = some (.slice (some ⟨g, 0, none⟩) R.length c) ∧ W.cell? ⟨g, i * 6 + 2, none⟩ = some (.int .i64 R[i].x) ∧ W.cell? ⟨g, k * 6 + 2, none⟩ = some (.int .i64 R[k].x)) := Lib.hid fun W hW => ⟨(HD.out.below hW).hd, (HD.out.below hW).cell i 2 hlt _ rfl, (HD.out.below hW).cell k 2 hlt2 _ rfl⟩
          obtain ⟨z1, hz1⟩ : ∃ z1, R[i] = z1 := ⟨_, rfl⟩
          obtain ⟨z2, hz2⟩ : ∃ z2, R[k] = z2 := ⟨_, rfl⟩
          simp only [hz1, hz2] at hi0 hj0 hi1 hj1 hi2 hj2 hi3 hj3 hi4 hj4 hi5 hj5 hw0
          rw [hz1, hz2] at HX
          have HSt2 : Hid (∀ p, ArcIn R i (k + 1) p ↔ ArcIn R i k p ∨ (waitsB z1 z2 = true ∧ p = (z1.x, z2.x))) := Lib.hid fun p => by
            have := HSt.out p
            rw [hz1, hz2] at this; exact this
          clear hz1 hz2 HSt
          obtain ⟨⟨zs, zi⟩, zx, zm, zw, zt⟩ := z1
          obtain ⟨⟨ys, yi⟩, yx, ym, yw, yt⟩ := z2
          simp only [Dr.cs] at hw0 HX HSt2
          obtain ⟨q, hq⟩ : ∃ q, waitsB ⟨⟨zs, zi⟩, zx, zm, zw, zt⟩ ⟨⟨ys, yi⟩, yx, ym, yw, yt⟩ = q := ⟨_, rfl⟩
          rw [hq] at hw0 HSt2
          have HW := Lib.hid hw0
          clear hw0 hq
          go_wp2_with fail
          have hmix : Tryz.prog.follows .mixedOrders = true := by kernel_rfl
          refine wp_region_quiet_grown hmix (by kernel_rfl) ?_
          clear hmix
          iterate 14 (with_reducible refine wpQuiet_step (fun K hK => ?_); go_simp; with_reducible refine hK _ ?_; clear hK K)
          with_reducible refine wpQuiet_step (fun K hK => ?_)
          go_simp
          apply Exists.intro
          refine ⟨fun _ => ?_, hK _ ?_⟩
          exact HW.out _ _
          clear hK K
          with_reducible refine wpQuiet_nil ?_
          with_reducible intro _ hw'
          obtain ⟨⟨nq, osq⟩, hw''⟩ := hw'
          subst hw''
          have hgr : Gr wj (grow (wj.drewN nq) osq) := ⟨nq, osq, rfl⟩
          have HBq : Hid (Below w.heap.size w (grow (wj.drewN nq) osq)) := Lib.hid (HB.out.trans (hgr.below.mono hz))
          have HOq := Lib.hid (own_keep HO.out fun g hg => hgr.below.block g (HO.out.lt g hg).2)
          clear hgr hi0 hj0 hi1 hj1 hi2 hj2 hi3 hj3 hi4 hj4 hi5 hj5 ht0 HW c0 hgw htw hz
          generalize grow (wj.drewN nq) osq = wq at *
          cases q with
          | false =>
            go_wp2_with fail
            exact ⟨⟨k + 1, L, by have := HLT2.out; omega, by have := HLT2.out; go_num, HS.out, fun p => by rw [HSt2.out p, HM.out p]; simp, by have := HLN.out; omega, HOq.out, HBq.out⟩, by have := HLT2.out; simp [intOf]; omega⟩
          | true =>
            obtain ⟨c1, cx, cy⟩ := HX.out wq HBq.out
            have HP := Lib.hid (dput_any L (by have := HLN.out; have := HLT.out; have := HLT2.out; omega) zx yx (w := wq.drew) (own_keep HOq.out fun g hg => rfl) (HBq.out.drew.size))
            have HBd := Lib.hid HBq.out.drew
            go_upto_region 9 with fail
            go_region_held3 (fun W => W.cell? ⟨tb, 0, none⟩ = some (.slice (some ⟨g, 0, none⟩) R.length c) ∧ W.cell? ⟨g, i * 6 + 2, none⟩ = some (.int .i64 zx) ∧ W.cell? ⟨g, k * 6 + 2, none⟩ = some (.int .i64 yx)) (first | exact ⟨c1, cx, cy⟩ | exact HS5.out | go_keep) (first | ((go_at_call 47; refine HP.out.mono ?_; rintro e w5 hpp; obtain ⟨v5, L5, rfl, hp5, ho5, hb5⟩ := hpp; have HP5 := Lib.hid (hp5.ok HS.out); have HO5 := Lib.hid ho5; have HB5 := Lib.hid (HBd.out.trans (hb5.mono HBd.out.size)); have HS5 := Lib.hid (HX.out w5 HB5.out); clear hp5 ho5 hb5)))
            all_goals
              clear c1 cx cy
              go_wp2_with fail
              exact ⟨⟨k + 1, L5, by have := HLT2.out; omega, by have := HLT2.out; go_num, HP5.out.1, fun p => by rw [HP5.out.2.1 p, HSt2.out p, HM.out p, or_comm]; simp, by have := HLN.out; have := HP5.out.2.2; omega, HO5.out, HB5.out⟩, by have := HLT2.out; simp [intOf]; omega⟩
        · have hkl : k = R.length := by omega
          have HM2 : Hid (∀ p, p ∈ L ↔ ArcIn R (i + 1) 0 p) := Lib.hid fun p => by rw [HM.out p, hkl, ArcIn.row]
          have HL2 : Hid (L.length ≤ (i + 1) * 1000) := Lib.hid (by have := HLN.out; omega)
          have hkn : decide ((k : Int) < (R.length : Int)) = false := by simp; omega
          have hknN : decide (k < R.length) = false := by rw [decide_eq_false_iff_not]; omega
          clear hkl HM HLN
          go_wp2_with fail
          exact ⟨⟨i + 1, L, by have := HLT.out; omega, by have := HLT.out; go_num, HS.out, HM2.out, HL2.out, HO.out, HB.out⟩, by have := HLT.out; simp [intOf]; omega⟩
    · have hie : i = R.length := by omega
      subst hie
      go_wp2_with fail
      go_ret
      unfold ArcPost
      exact ⟨_, L0, rfl, HS.out, HM.out, by have := HLN.out; have := HLR.out; omega, HO.out, HB.out⟩
end
end

/-!
  Layer 9 (locks): two lists of holds, two lists of arcs that are the same.
-/
section
open Go.RowKit Go.Joins Go.Sort Go.Shelf
set_option linter.unusedVariables false
set_option linter.unusedSimpArgs false

theorem run_equalIn_nmd (d : Nat) (s : Int) (t : ByteArray) (w : World) : (Op.equalIn (d + 2) 31 (.agg #[.int .i64 s, .string t]) (.agg #[.int .i64 s, .string t])).run Tryz.prog w = .ok true w := by
  have u3 := Tryz.underlying3
  have u9 := Tryz.underlying9
  have hS : Tryz.prog.underlying 31 = some (.struct (Tryz.prog.fieldsOf 31)) := by kernel_rfl
  have hp : Tryz.prog.stoodInHeld 31 = false := by kernel_rfl
  have a3 := Tryz.isAgg3
  have a9 := Tryz.isAgg9
  rw [show d + 2 = (d + 1) + 1 from rfl, run_equalIn_agg w (d + 1) 31 _ _ hS hp]
  simp only [Program.fieldsOf, Tryz.underlying31]
  go_simp
theorem run_equal_ho (h : Ho) (w : World) : (Op.equalIn 10000 80 (.agg #[.int .i64 h.n.s, .string h.n.i, .int .i64 h.x, .int .i64 h.m, .int .i64 h.w]) (.agg #[.int .i64 h.n.s, .string h.n.i, .int .i64 h.x, .int .i64 h.m, .int .i64 h.w])).run Tryz.prog w = .ok true w := by
  have u3 := Tryz.underlying3
  have hS : Tryz.prog.underlying 80 = some (.struct (Tryz.prog.fieldsOf 80)) := by kernel_rfl
  have hp : Tryz.prog.stoodInHeld 80 = false := by kernel_rfl
  have a3 := Tryz.isAgg3
  have aN := Tryz.isAgg31
  have sN := Tryz.sizeOf31
  have hN := run_equalIn_nmd 9997 h.n.s h.n.i w
  rw [show (10000 : Nat) = 9999 + 1 from rfl, run_equalIn_agg w 9999 80 _ _ hS hp]
  simp only [Program.fieldsOf, Tryz.underlying80]
  go_simp
theorem ho_cells {w : World} {B g n c : Nat} {L : List Ho} (h : w.ownsRow B 80 5 (.slice (some ⟨g, 0, none⟩) n c) n (L.flatMap hoL)) (j : Nat) (hj : j < L.length) (q : Nat) (u : Value) (hu : (hoL L[j])[q]? = some u) : w.cell? ⟨g, j * 5 + q, none⟩ = some u := by
  have hq : q < 5 := (List.getElem?_eq_some_iff.1 hu).1
  have := h.cells (g := g) rfl (j * 5 + q) u ((flat_get hoL_len L j q hj hq).trans hu)
  rw [Addr.add_lit] at this
  simpa using this
set_option maxHeartbeats 8000000 in
theorem sameHolds_any (A : List Ho) (hl : A.length ≤ 4000000) {B1 B2 : Nat} {v1 v2 : Value} {w : World} (h1 : w.ownsRow B1 80 5 v1 A.length (A.flatMap hoL)) (h2 : w.ownsRow B2 80 5 v2 A.length (A.flatMap hoL)) :
    Calls Tryz.prog 14 #[v1, v2] w fun e w' => e = .returned (.bool true) ∧ Gr w w' := by
  obtain ⟨a1, c1, rfl, -, -, ha1⟩ := own_cap h1
  obtain ⟨a2, c2, rfl, -, -, ha2⟩ := own_cap h2
  have H1 := Lib.hid h1
  have H2 := Lib.hid h2
  have HLL := Lib.hid hl
  clear h1 h2
  go_enter Tryz.func14, Tryz.ntmps14
  go_wp2_with fail
  go_loopw [13] (fun ti wr => ∃ (i : Nat), i ≤ A.length ∧ ti = .int .i64 i ∧ Gr w wr) (fun ti _ => A.length - (intOf ti).toNat)
  case atStart => exact ⟨0, by omega, rfl, Gr.refl _⟩
  case round =>
    obtain ⟨i, hi, rfl, hg⟩ := hrel
    obtain ⟨wi, rfl⟩ : ∃ wi : World, wi = wr := ⟨_, rfl⟩
    have HG := Lib.hid hg
    by_cases hlt : i < A.length
    · obtain ⟨g1, rfl, -, -⟩ := ha1.resolve_left (by omega)
      obtain ⟨g2, rfl, -, -⟩ := ha2.resolve_left (by omega)
      have hik : (i : Int) < (A.length : Int) := by omega
      have hi0 : (0 : Int) ≤ (i : Int) := by omega
      have HLT : Hid (i < A.length ∧ A.length ≤ 4000000) := Lib.hid ⟨hlt, hl⟩
      have o1 := own_keep H1.out fun g hg' => hg.below.block g (H1.out.lt g hg').2
      have o2 := own_keep H2.out fun g hg' => hg.below.block g (H2.out.lt g hg').2
      have p0 := ho_cells o1 i hlt 0 _ rfl
      have p1 := ho_cells o1 i hlt 1 _ rfl
      have p2 := ho_cells o1 i hlt 2 _ rfl
      have p3 := ho_cells o1 i hlt 3 _ rfl
      have p4 := ho_cells o1 i hlt 4 _ rfl
      have q0 := ho_cells o2 i hlt 0 _ rfl
      have q1 := ho_cells o2 i hlt 1 _ rfl
      have q2 := ho_cells o2 i hlt 2 _ rfl
      have q3 := ho_cells o2 i hlt 3 _ rfl
      have q4 := ho_cells o2 i hlt 4 _ rfl
      simp only [Nat.add_zero] at p0 q0
      have heq := run_equal_ho A[i]
      clear o1 o2 hg
      generalize A[i] = z at *
      obtain ⟨⟨zs, zi⟩, zx, zm, zw⟩ := z
      simp only at p0 p1 p2 p3 p4 q0 q1 q2 q3 q4 heq
      go_wp2_with fail
      go_quiet (fail)
      go_wp2_with fail
      exact ⟨⟨i + 1, by have := HLT.out; omega, by have := HLT.out; go_num, HG.out.drewN _⟩, by have := HLT.out; simp [intOf]; omega⟩
    · have hie : i = A.length := by omega
      have hkn : decide ((i : Int) < (A.length : Int)) = false := by simp; omega
      have hknN : decide (i < A.length) = false := by rw [decide_eq_false_iff_not]; omega
      clear hie hg
      go_wp2_with fail
      go_ret
      exact ⟨rfl, HG.out⟩
set_option maxHeartbeats 8000000 in
theorem sameArcs_any (A : List Pr) (hl : A.length ≤ 4000000) {B1 B2 : Nat} {v1 v2 : Value} {w : World} (h1 : w.ownsRow B1 86 2 v1 A.length (A.flatMap prL)) (h2 : w.ownsRow B2 86 2 v2 A.length (A.flatMap prL)) :
    Calls Tryz.prog 17 #[v1, v2] w fun e w' => e = .returned (.bool true) ∧ Gr w w' := by
  obtain ⟨a1, c1, rfl, -, -, ha1⟩ := own_cap h1
  obtain ⟨a2, c2, rfl, -, -, ha2⟩ := own_cap h2
  have H1 := Lib.hid h1
  have H2 := Lib.hid h2
  have HLL := Lib.hid hl
  clear h1 h2
  go_enter Tryz.func17, Tryz.ntmps17
  go_wp2_with fail
  go_loopw [13] (fun ti wr => ∃ (i : Nat), i ≤ A.length ∧ ti = .int .i64 i ∧ Gr w wr) (fun ti _ => A.length - (intOf ti).toNat)
  case atStart => exact ⟨0, by omega, rfl, Gr.refl _⟩
  case round =>
    obtain ⟨i, hi, rfl, hg⟩ := hrel
    obtain ⟨wi, rfl⟩ : ∃ wi : World, wi = wr := ⟨_, rfl⟩
    have HG := Lib.hid hg
    by_cases hlt : i < A.length
    · obtain ⟨g1, rfl, -, -⟩ := ha1.resolve_left (by omega)
      obtain ⟨g2, rfl, -, -⟩ := ha2.resolve_left (by omega)
      have hik : (i : Int) < (A.length : Int) := by omega
      have hi0 : (0 : Int) ≤ (i : Int) := by omega
      have HLT : Hid (i < A.length ∧ A.length ≤ 4000000) := Lib.hid ⟨hlt, hl⟩
      have o1 := own_keep H1.out fun g hg' => hg.below.block g (H1.out.lt g hg').2
      have o2 := own_keep H2.out fun g hg' => hg.below.block g (H2.out.lt g hg').2
      obtain ⟨p0, p1⟩ := pr_cells o1 i hlt
      obtain ⟨q0, q1⟩ := pr_cells o2 i hlt
      clear o1 o2 hg
      generalize A[i] = z at *
      obtain ⟨zx, zy⟩ := z
      simp only at p0 p1 q0 q1
      go_wp2_with fail
      go_quiet (fail)
      go_wp2_with fail
      exact ⟨⟨i + 1, by have := HLT.out; omega, by have := HLT.out; go_num, HG.out.drewN _⟩, by have := HLT.out; simp [intOf]; omega⟩
    · have hie : i = A.length := by omega
      have hkn : decide ((i : Int) < (A.length : Int)) = false := by simp; omega
      have hknN : decide (i < A.length) = false := by rw [decide_eq_false_iff_not]; omega
      clear hie hg
      go_wp2_with fail
      go_ret
      exact ⟨rfl, HG.out⟩
end
end Go.Proofs.YtileamjmhhifaaaGreat
