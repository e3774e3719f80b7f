/-
  Layer 13 (stage): Stage.Images where a page is set that the shelf below has not.
-/
import Derived.Test.YthehglhbgplfhaaRef13f
namespace Go.Proofs.Ythehglhbgplfhaa
open Go.RowKit Go.Joins
set_option linter.unusedVariables false
set_option linter.unusedSimpArgs false

set_option maxHeartbeats 4000000 in
set_option maxRecDepth 100000 in
theorem images_bad (S : Vol) (b mb hb pb : Nat) (w : World) (hs : StageAt w b mb hb pb S) (hok : S.Ok) (j0 : Nat) (hj0 : j0 < S.keys.length) (hgd : ∀ i, i < j0 → ∀ h : i < S.keys.length, shelfE S.base S.keys[i] = 0) (hbd : ∀ h : j0 < S.keys.length, shelfE S.base S.keys[j0] = 1) :
    Calls Try.prog 23 #[.pointer (some ⟨b, 0, none⟩)] w fun e w' => e = .returned (.tuple #[.slice none 0 0, .int .i64 1]) ∧ Below w.heap.size w w' := by
  obtain ⟨l1, l2, l3, l4⟩ := hs.lt
  have hlen := hok.len
  have HK := Lib.hid (fun W => keys_plain (some mb) W)
  have HSo := Lib.hid (fun W Bm (h : StageAt W b mb hb pb S) hB hm => sorted_plain mb Bm _ W h.2.1 (by intro x hx; obtain ⟨y, hy, rfl⟩ := List.mem_map.1 hx; exact hok.range y hy) (by rw [List.length_map]; exact hlen) hB hm)
  have hkl : S.keys.length ≤ 1024 := by rw [Vol.keys_len]; exact hlen
  have HM := Lib.hid (fun id (h : id ∈ S.keys) => getM_mem ((Vol.mem_keys S id).1 h))
  have HGd := Lib.hid hgd
  have HBd := Lib.hid hbd
  have hkeys : sortK (S.M.map fun x => (x.1, x.2.v)) = S.keys := rfl
  have hml : (S.M.map fun x => (x.1, x.2.v)).length = S.keys.length := by rw [Vol.keys_len, List.length_map]
  rw [hkeys, hml] at HSo
  have HS := Lib.hid hs
  have c1 := cell_of_block hs.1 1
  simp only [List.getElem?_toArray, List.getElem?_cons_succ, List.getElem?_cons_zero] at c1
  have m1 := meth_shelf
  obtain ⟨i0, hi, hz0, hz1, hz2⟩ := info_parts infoImg
  clear hs hok hkeys hml hlen hgd hbd
  generalize S.keys = L at *
  go_enter Try.func23, Try.ntmps23
  go_wp2_with fail
  refine (HK.out _).mono ?_; rintro e w1 ⟨rfl, rfl⟩
  go_wp2_with fail
  refine (HSo.out _ _ (HS.out.below ((Below.refl w.heap.size w).alloc (Nat.le_refl _) _) ⟨l1, l2, l3, l4⟩) (by go_size) (by simp [go_sem])).mono ?_; rintro e w2 ⟨kv, rfl, hkv, hb2⟩
  have hz := hb2.size
  simp only [World.size_alloc] at hz
  have hBW : Below w.heap.size w w2 := ((Below.refl w.heap.size w).alloc (Nat.le_refl _) (.cells #[.map (some mb)] 103)).trans (hb2.mono (by go_size))
  have HA : Hid (ImagesAt S b mb hb pb L (w.heap.size + 1) w.heap.size kv (.slice none 0 0) w 0 w2) :=
    Lib.hid ⟨Nat.zero_le _, HS.out.below hBW ⟨l1, l2, l3, l4⟩, hBW, by simpa using hkv, by simp only [List.take_zero]; exact World.ownsRow_nil _ _ _ _⟩
  obtain ⟨vp, vc, hv⟩ : ∃ vp vc, kv = .slice vp L.length vc := by
    rcases ownsRow_forms hkv with ⟨h1, h2⟩ | ⟨g, c, h1⟩
    · exact ⟨_, _, by rw [h1, h2]⟩
    · exact ⟨_, _, h1⟩
  subst hv
  clear hkv hb2 hBW
  go_wp2_with fail
  go_loopw [4, 18] (fun l i wr => ∃ j : Nat, i = .int .i64 j ∧ j ≤ j0 ∧ ImagesAt S b mb hb pb L (w.heap.size + 1) w.heap.size (.slice vp L.length vc) l w j wr) (fun _ i _ => L.length - (intOf i).toNat)
  case atStart => exact ⟨0, rfl, by omega, HA.out⟩
  case round =>
    obtain ⟨j, rfl, hj0', hj, h3, h4, h5, h6⟩ := hrel
    clear HA
    obtain ⟨q1, q2, q3, q4⟩ := h3.lt
    have hsw := h4.size
    have hlt : j < L.length := by omega
    · obtain ⟨g, hv⟩ : ∃ g, vp = some ⟨g, 0, none⟩ := by
        obtain ⟨g, cap, hv⟩ := ownsRow_form h5 (by omega)
        simp only [Value.slice.injEq] at hv
        exact ⟨g, hv.1⟩
      subst hv
      have hc := (h5.cellAt j (by omega)).trans (show (L.map encZ)[j]? = some (.int .i64 L[j]) by simp [hlt])
      have c0 := cell_of_block h3.1 0
      have c1 := cell_of_block h3.1 1
      simp only [List.getElem?_toArray, List.getElem?_cons_succ, List.getElem?_cons_zero] at c0 c1
      have hmem : L[j] ∈ L := List.getElem_mem hlt
      have he0 : j < j0 → shelfE S.base L[j] = 0 := fun h => HGd.out j h hlt
      have he1 : j0 ≤ j → shelfE S.base L[j] = 1 := fun h => by
        have e : j = j0 := by omega
        subst e
        exact HBd.out hlt
      obtain ⟨p, hp⟩ := HM.out _ hmem
      have hst : stPg S L[j] = p := by unfold stPg; rw [hp]
      have HG := Lib.hid (fun w' h => shelfGet_any hb pb S.base L[j] w' h)
      have HL := Lib.hid (fun w' (h : StageAt w' b mb hb pb S) => lookup1_some h hp)
      have htk : L.take (j + 1) = L.take j ++ [L[j]] := by rw [List.take_succ_eq_append_getElem hlt]
      have hsn := imgs_snoc S (L.take j) L[j]
      rw [← htk, hst] at hsn
      have hil := imgs_len S (L.take j)
      have htl : (L.take j).length ≤ j := List.length_take_le _ _
      obtain ⟨old, hold⟩ : ∃ old, shelfPg S.base L[j] = old := ⟨_, rfl⟩
      rw [hold] at HG hsn
      clear hmem hp hst hold htk
      generalize L[j] = id at *
      have HSn := Lib.hid hsn
      have HS3 := Lib.hid h3
      have HB4 := Lib.hid h4
      have HO5 := Lib.hid h5
      have HO6 := Lib.hid h6
      clear h3 h4 h5 h6 hsn
      by_cases hjN : j0 ≤ j
      · have he := he1 hjN
        rw [he] at HG
        clear he he0 he1
        go_wp2_with fail
        refine (HG.out _ HS3.out.2.2.1).mono ?_; rintro e w3 ⟨rfl, hb3⟩
        have HB5 := Lib.hid ((HB4.out.trans (hb3.mono hsw)).alloc (by have := hb3.size; omega) (.cells old.cs 41))
        clear hb3
        go_wp2_with fail
        go_ret2
        exact ⟨rfl, HB5.out⟩
      have he := he0 (by omega)
      rw [he] at HG
      clear he he0 he1
      go_wp2_with fail
      refine (HG.out _ HS3.out.2.2.1).mono ?_; rintro e w3 ⟨rfl, hb3⟩
      have hz3 := hb3.size
      have hst3 := HS3.out.below hb3 ⟨q1, q2, q3, q4⟩
      have d0 := (hb3.cell (p := ⟨b, 0, none⟩) q1).trans c0
      have d1 := (hb3.cell (p := ⟨b, 1, none⟩) q1).trans c1
      have hl3 := HL.out _ (hst3.below ((Below.refl w3.heap.size w3).alloc (Nat.le_refl _) (.cells old.cs 41)) ⟨by omega, by omega, by omega, by omega⟩).drew
      have ho5 := Lib.hid (own_low HO5.out hb3)
      have ho6 := own_low HO6.out hb3
      have HST := Lib.hid hst3
      have HB5 := Lib.hid (HB4.out.trans (hb3.mono hsw))
      have d2 := (((Below.refl w3.heap.size w3).alloc (Nat.le_refl _) (.cells old.cs 41)).cell (p := ⟨b, 1, none⟩) (by simp; omega)).trans d1
      clear hb3 hst3 c0 c1 HO5 HO6
      go_wp2_with fail
      cases heq : pgEq old p with
      | true =>
        rw [heq] at HSn
        simp only [if_true] at HSn
        have HQ := Lib.hid heq
        go_region
        go_wp2_with fail
        go_roundw
        case rel => exact ⟨j + 1, by go_num, by omega, by omega, (HST.out.below ((Below.refl w3.heap.size w3).alloc (Nat.le_refl _) (.cells old.cs 41)) ⟨by omega, by omega, by omega, by omega⟩).drew, (HB5.out.alloc (by omega) _).drew, ho5.out.alloc _, by rw [HSn.out]; exact (ho6.alloc _)⟩
        case measure => simp [intOf]; omega
      | false =>
        rw [heq] at HSn
        have HQ := Lib.hid heq
        go_region
        have hown := (ho6.alloc (.cells old.cs 41)).drew
        clear ho6
        go_wp2_with (at_builtin; refine wpList_append_own _ rfl _ _ 46 rfl w.heap.size 48 i0 _ 17 184 Try.underlying46 hi hz0 hz1 hz2 rfl (by decide) _ _ _ rfl (hown.alloc _) ⟨w3.heap.size + 1, 0, none⟩ 1 1 (imgCs id p).toList rfl rfl ?c1 ?c2 ?c3 ?c4 ?c5 ?_)
        case c1 =>
          have hn := heap_alloc_new (w3.alloc (.cells old.cs 41)) (.cells (imgCs id p) 48)
          rw [World.size_alloc] at hn
          exact World.news_of_block (w := ((w3.alloc (.cells old.cs 41)).alloc (.cells (imgCs id p) 48)).drew) hn
        case c2 => intro u hu; simp [imgCs] at hu; rcases hu with rfl | rfl | rfl | rfl | rfl | rfl | rfl | rfl | rfl | rfl | rfl | rfl | rfl | rfl | rfl | rfl | rfl <;> rfl
        case c3 => simp only [maxLen]; omega
        case c4 => omega
        case c5 => first | omega | (simp; omega)
        intro v' w5 hown' hgrow _
        have B6 : Below w.heap.size w w5 := (((HB5.out.alloc (by omega) (.cells old.cs 41)).alloc (by simp; omega) (.cells (imgCs id p) 48)).drew).grown hgrow (by simp; omega) (fun q hq => (hown.lt q hq).1)
        have K5 : w5.ownsRow (w.heap.size + 1) 3 1 (.slice (some ⟨g, 0, none⟩) L.length vc) L.length (L.map encZ) := by
          refine (((ho5.out.alloc (.cells old.cs 41)).alloc (.cells (imgCs id p) 48)).drew).kept hgrow ?_
          exact own_ne (((ho5.out.alloc (.cells old.cs 41)).alloc (.cells (imgCs id p) 48)).drew) ((hown.alloc (.cells (imgCs id p) 48)).drew) (by decide)
        have H5 := Lib.hid hown'
        have HB6 := Lib.hid B6
        have HK5 := Lib.hid K5
        have HSm := Lib.hid (HS.out.below B6 ⟨l1, l2, l3, l4⟩)
        clear hown hgrow hown' B6 K5
        go_wp2_with fail
        go_roundw
        case rel => exact ⟨j + 1, by go_num, by omega, by omega, HSm.out, HB6.out, HK5.out, by rw [HSn.out]; simp only [Bool.false_eq_true, if_false, List.length_append, List.length_singleton, imgRow_snoc]; exact H5.out⟩
        case measure => simp [intOf]; omega
end Go.Proofs.Ythehglhbgplfhaa
