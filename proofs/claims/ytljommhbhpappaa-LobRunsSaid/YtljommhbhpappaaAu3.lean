/-
  Layer 22 (audit): heap: a chain of pages.
-/
import Derived.Test.YtljommhbhpappaaAu2
namespace Go.Proofs.Ytljommhbhpappaa
open Go.RowKit Go.Joins
set_option linter.unusedVariables false
set_option linter.unusedSimpArgs false

/-- a heap's chain of pages, all but page x as they should be -/
structure HpOk (S : Vol) (st : Int) (C : List Int) (x : Int) : Prop where
  pos : 0 < C.length
  nodup : C.Nodup
  ok : ∀ i (h : i < C.length), C[i] ≠ x → stE S C[i] = 0 ∧ (stPg S C[i]).s = st ∧ (stPg S C[i]).k = 3 ∧ (stPg S C[i]).n = (if h' : i + 1 < C.length then C[i + 1] else 0) ∧ ∀ j, j < 6 → ((stPg S C[i]).d j).size ≤ 32
  ne : ∀ id ∈ C, id ≠ 0
  bad : x ∈ C → ¬ (stPg S x).s = st
def withS (st : Int) (l : List Int) : List (Int × Int) := l.map fun i => (i, st)
theorem withS_keys (st : Int) (l : List Int) : (withS st l).map (·.1) = l := by simp [withS, List.map_map, Function.comp_def]
theorem withS_append (st : Int) (a b : List Int) : withS st (a ++ b) = withS st a ++ withS st b := by simp [withS]

set_option maxHeartbeats 4000000 in
set_option maxRecDepth 100000 in
theorem heap_any {S : Vol} {st x : Int} {C : List Int} (hC : HpOk S st C x) {B : Nat} {w : World} {lb q b mb hb pb : Nat} {seen : List (Int × Int)} {lvs : List Int} (h : AuAt B w lb q b mb hb pb S seen lvs) (hf : ∀ id ∈ C, ¬ id ∈ seen.map (·.1)) (r : Int) (hr : C[0]? = some r) :
    Calls Try.prog 69 #[.pointer (some ⟨lb, 0, none⟩), .int .i64 st, .int .i64 r] w fun e w' => ∃ er, e = .returned (.int .i64 er) ∧ ((x ∈ C ∧ er ≠ 0 ∧ Below B w w') ∨ (¬ x ∈ C ∧ er = 0 ∧ AuAt B w' lb q b mb hb pb S (seen ++ withS st C) lvs ∧ AuK B lb q w w')) := by
  have HP := Lib.hid (fun (w' : World) (sn : List (Int × Int)) (h' : AuAt B w' lb q b mb hb pb S sn lvs) (id : Int) (p : Pg) (hp : stPg S id = p) he hst hk hf => page_ok h' st id 3 p hp he hst hk hf)
  have HB := Lib.hid (fun (w' : World) (sn : List (Int × Int)) (h' : AuAt B w' lb q b mb hb pb S sn lvs) (id : Int) (p : Pg) (hp : stPg S id = p) hbad => page_bad h' st id 3 p hp hbad)
  have H := Lib.hid h
  have HC := Lib.hid hC
  have HF := Lib.hid hf
  have hBw := h.lo.2.2
  have hpos := hC.pos
  have hr0 : C[0]'hpos = r := by rw [List.getElem?_eq_getElem hpos] at hr; exact Option.some.inj hr
  have HR := Lib.hid hr0
  clear h hC hf hr hr0
  go_enter Try.func69, Try.ntmps69
  go_wp2_with fail
  go_loopw [2] (fun v wr => ∃ i, ∃ hi : i < C.length, v = .int .i64 C[i] ∧ (∀ j (hj : j < C.length), j < i → C[j] ≠ x) ∧ AuAt B wr lb q b mb hb pb S (seen ++ withS st (C.take i)) lvs ∧ AuK B lb q w wr) (fun v _ => C.length - C.idxOf (intOf v))
  case atStart => exact ⟨0, hpos, by rw [HR.out], fun j hj h0 => by omega, by simpa [withS] using H.out, AuK.refl _ _ _ _⟩
  case round =>
    obtain ⟨i, hi, rfl, hno, hA, hK⟩ := hrel
    obtain ⟨wo, rfl⟩ : ∃ wo : World, wo = wr := ⟨_, rfl⟩
    obtain ⟨id, hid⟩ : ∃ id, C[i] = id := ⟨_, rfl⟩
    obtain ⟨p, hp⟩ : ∃ p, stPg S id = p := ⟨_, rfl⟩
    have hnew : ¬ id ∈ (seen ++ withS st (C.take i)).map (·.1) := by
      rw [List.map_append, withS_keys, List.mem_append]
      rintro (e | e)
      · exact HF.out id (hid ▸ List.getElem_mem hi) e
      · obtain ⟨j, hj, e⟩ := List.mem_iff_getElem.1 e
        rw [List.length_take] at hj
        rw [List.getElem_take] at e
        have := List.pairwise_iff_getElem.1 HC.out.nodup j i (by omega) hi (by omega)
        exact this (e.trans hid.symm)
    by_cases hx : id = x
    · have hxm : x ∈ C := by rw [← hx, ← hid]; exact List.getElem_mem hi
      have hc := HB.out wo _ hA id p hp (.inr (.inr (.inl (by rw [hp, ← hp, hx]; exact HC.out.bad hxm))))
      rw [hid]
      have KK := Lib.hid hK
      have hsz := hA.lo.2.2
      clear hno hA hnew hp hid hx
      go_wp2_with fail
      with_reducible refine hc.mono ?_; rintro e w1 ⟨er, her, rfl, hb1⟩
      have he1 : (er == 0) = false := by simpa using her
      have BF := Lib.hid (KK.out.below.trans (((hb1.alloc hb1.size (.cells p.cs 112))).mono hsz))
      clear hb1 hc
      go_wp2_with fail
      go_ret
      exact ⟨er, rfl, .inl ⟨hxm, her, BF.out⟩⟩
    · obtain ⟨e1, e2, e3, e4, e5⟩ := HC.out.ok i hi (by rw [hid]; exact hx)
      rw [hid] at e1 e2 e3 e4 e5
      rw [hp] at e2 e3 e4 e5
      have hc := HP.out wo _ hA id p hp e1 e2 e3 hnew
      have hsn : (seen ++ withS st (C.take i)) ++ [(id, st)] = seen ++ withS st (C.take (i + 1)) := by
        rw [List.append_assoc]
        congr 1
        rw [List.take_add_one, List.getElem?_eq_getElem hi, hid, withS_append]
        rfl
      rw [hsn] at hc
      rw [hid]
      have KK := Lib.hid hK
      have HId := Lib.hid hid
      have hno2 : Hid (∀ j (hj : j < C.length), j < i + 1 → C[j] ≠ x) := Lib.hid (fun j hj hji => by
        by_cases e : j = i
        · subst e; rw [hid]; exact hx
        · exact hno j hj (by omega))
      have H5 := Lib.hid e5
      have H4 := Lib.hid e4
      have hsz := hA.lo.2.2
      clear hno hA hnew hp hid e1 e2 e3 e4 e5 hsn hx
      go_wp2_with fail
      with_reducible refine hc.mono ?_; rintro e w1 ⟨rfl, hA1, hK1⟩
      have R1 := rowAt_at w1 p.cs 112 _ rfl
      have BA : Below w1.heap.size w1 (w1.alloc (.cells p.cs 112)) := (Below.refl _ _).alloc (Nat.le_refl _) _
      have A2 := Lib.hid (hA1.step BA)
      have K2 := Lib.hid ((KK.out.trans hK1).trans (AuK.of_below BA hA1.lo.2.2))
      have hs2 : (w1.alloc (.cells p.cs 112)).heap.size = w1.heap.size + 1 := World.size_alloc ..
      clear hA1 hK1 hc BA
      go_wp2_with fail
      have hsz1 : w1.heap.size < (w1.alloc (.cells p.cs 112)).heap.size := by omega
      clear hs2
      generalize hW2 : w1.alloc (.cells p.cs 112) = W2 at *
      generalize w1.heap.size = P at *
      clear hW2
      go_loopw [23] (fun v wr => ∃ k : Nat, k ≤ 6 ∧ v = .int .i64 k ∧ Below W2.heap.size W2 wr) (fun v _ => 6 - (intOf v).toNat)
      case atStart => exact ⟨0, by omega, rfl, Below.refl _ _⟩
      case round =>
        obtain ⟨k, hk, rfl, hb⟩ := hrel
        obtain ⟨wo2, rfl⟩ : ∃ wo2 : World, wo2 = wr := ⟨_, rfl⟩
        have hsz2 := hb.size
        have HBk := Lib.hid hb
        by_cases hlt : k < 6
        · have hidx := index6 p k hlt
          have h32 : decide ((32 : Int) < ((p.d k).size : Int)) = false := by have := H5.out k hlt; simp; omega
          generalize p.d k = dd at *
          generalize p.a k = aa at *
          clear hb
          go_wp2
          go_roundw
          case rel => exact ⟨k + 1, by omega, by go_num, HBk.out.alloc hsz2 _⟩
          case measure => simp [intOf]; omega
        · have hk6 : k = 6 := by omega
          subst hk6
          have R3 := (rowAt_below hb hsz1).trans R1
          have k3 := (cell_row R3 3).trans (show p.cs[3]? = some (.int .i64 p.n) from rfl)
          rw [H4.out] at k3
          have A3 := Lib.hid (A2.out.step hb)
          have K3 := Lib.hid (K2.out.trans (AuK.of_below hb A2.out.lo.2.2))
          clear hb R3
          by_cases hn : i + 1 < C.length
          · rw [dif_pos hn] at k3
            have h0 : (C[i + 1] == 0) = false := by simpa using HC.out.ne _ (List.getElem_mem hn)
            go_wp2
            go_roundw
            case rel => exact ⟨i + 1, hn, rfl, hno2.out, A3.out, K3.out⟩
            case measure =>
              show C.length - C.idxOf C[i + 1] < C.length - C.idxOf id
              rw [← HId.out]
              rw [List.Nodup.idxOf_getElem HC.out.nodup (i + 1) hn, List.Nodup.idxOf_getElem HC.out.nodup i hi]
              omega
          · rw [dif_neg hn] at k3
            go_wp2
            go_ret
            refine ⟨0, rfl, .inr ⟨fun hm => ?_, rfl, ?_, K3.out⟩⟩
            · obtain ⟨j, hj, e⟩ := List.mem_iff_getElem.1 hm
              exact hno2.out j hj (by omega) e
            · have := A3.out
              rwa [List.take_of_length_le (by omega)] at this
end Go.Proofs.Ytljommhbhpappaa
