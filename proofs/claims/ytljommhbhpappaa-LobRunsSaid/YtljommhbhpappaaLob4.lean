/-
  Layer 17 (lob): New and Len; the laws' volume and awake.
-/
import Derived.Test.YtljommhbhpappaaPkIdx
import Derived.Test.YtljommhbhpappaaPkLob
namespace Go.Proofs.Ytljommhbhpappaa
open Go.RowKit Go.Joins
set_option linter.unusedVariables false
set_option linter.unusedSimpArgs false

set_option maxHeartbeats 4000000 in
set_option maxRecDepth 100000 in
/-- the laws' volume -/
theorem volume17 (w : World) :
    Calls Try.prog 17 #[] w fun e w' => ∃ b mb hb pb, e = .returned (.tuple #[.pointer (some ⟨b, 0, none⟩), .bool true]) ∧ One w w' b mb hb pb (I0 1024 1024 3) := by
  have HM := Lib.hid (fun (w' : World) => memory_ok 1024 (by omega) (by omega) w')
  have HN := Lib.hid (fun hb pb w' hB h h2 => new_one hb pb (List.replicate 1024 Pg.zero) w w' hB h h2)
  have HFo := Lib.hid (fun b mb hb pb w' hs => format_start 1024 1024 (by omega) (by omega) b mb hb pb w' hs)
  have HMa := Lib.hid (fun b mb hb pb w' hs => make_start 1024 1024 3 (by omega) (by omega) (by omega) (by omega) b mb hb pb w' hs)
  go_enter Try.func17, Try.ntmps17
  go_wp2_with fail
  refine (HM.out _).mono ?_; rintro e w1 ⟨hb, pb, rfl, hb1, q1, q2, hs1⟩
  have K1 := Lib.hid hb1
  have K2 := Lib.hid hs1
  clear hb1 hs1
  go_wp2_with fail
  refine (HN.out hb pb _ K1.out K2.out q2).mono ?_; rintro e w2 ⟨b, mb, rfl, h2⟩
  have K3 := Lib.hid h2
  clear h2
  go_wp2_with fail
  refine (HFo.out b mb hb pb _ K3.out.st).mono ?_; rintro e w3 ⟨rfl, g3, s3⟩
  have K4 := Lib.hid (K3.out.grow g3 s3)
  clear g3 s3
  go_wp2_with fail
  refine (HMa.out b mb hb pb _ K4.out.st).mono ?_; rintro e w4 ⟨rfl, g4, s4⟩
  have K5 := Lib.hid (K4.out.grow g4 s4)
  clear g4 s4
  go_wp2_with fail
  go_ret2
  exact ⟨b, mb, hb, pb, rfl, K5.out⟩

set_option maxHeartbeats 4000000 in
set_option maxRecDepth 100000 in
/-- a new object, where there is none -/
theorem lnew_none (F : List NC) (bv : Value) (st num : Int) (B : World → Prop)
    (hB : ∀ w, B w → Calls Try.prog 60 #[bv, .int .i64 st, .int .i64 num] w fun e w' => e = .returned (.tuple #[.string (bytesR F num).1, .int .i64 (bytesR F num).2]) ∧ Below w.heap.size w w') (hn : (bytesR F num).2 = 150) (w : World) (hw : B w) :
    Calls Try.prog 18 #[bv, .int .i64 st, .int .i64 num] w fun e w' => ∃ v, e = .returned (.tuple #[v, .int .i64 0]) ∧ Below w.heap.size w w' ∧ w'.ownsRow w.heap.size 47 3 v 1 (stpRow [(13, key4 num 0, ByteArray.empty)]) := by
  have HB := Lib.hid (hB w hw)
  rw [hn] at HB
  generalize (bytesR F num).1 = by1 at *
  have HP := Lib.hid (fun w' => pieces_any ByteArray.empty (by simp) w')
  rw [chunks_small (by simp)] at HP
  have HSt := Lib.hid (fun ta tc w' ht => steps_any num none ta 0 tc [] [ByteArray.empty] w' ⟨by simp, .inl rfl⟩ ht)
  have hst : stepsTo num [] [ByteArray.empty] (max ([] : List ByteArray).length [ByteArray.empty].length) = [(13, key4 num 0, ByteArray.empty)] := by simp [stepsTo, stepAt]
  rw [hst] at HSt
  clear hB hw hn hst
  go_enter Try.func18, Try.ntmps18
  go_wp2_with fail
  refine HB.out.mono ?_; rintro e w1 ⟨rfl, hb1⟩
  have hz1 := hb1.size
  have B1 := Lib.hid hb1
  clear hb1
  go_wp2_with fail
  refine (HP.out _).mono ?_; rintro e w2 ⟨v, rfl, hb2, hown⟩
  have hz2 := hb2.size
  have B2 := Lib.hid (B1.out.trans (hb2.mono hz1))
  obtain ⟨ta, tc, rfl, hta⟩ : ∃ ta tc, v = .slice ta 1 tc ∧ StrAt w2 ta [ByteArray.empty] := by
    rcases ownsRow_forms hown with ⟨rfl, h0⟩ | ⟨g, cap, rfl⟩
    · simp at h0
    · refine ⟨_, _, rfl, by simp, .inr ⟨g, rfl, (hown.lt g rfl).2, fun i hi => ?_⟩⟩
      have := hown.cells (g := g) rfl i (.string ByteArray.empty) (by simp at hi; subst hi; rfl)
      rw [Addr.add_lit] at this
      simpa [show ([ByteArray.empty])[i] = ByteArray.empty from by simp at hi; subst hi; rfl] using this
  have HTa := Lib.hid hta
  clear hb2 hown hta
  go_wp2_with fail
  refine (HSt.out ta tc _ HTa.out).mono ?_; rintro e w3 ⟨v3, rfl, hb3, hown3⟩
  have B3 := Lib.hid (B2.out.trans (hb3.mono (by omega)))
  have HO3 := Lib.hid (ownsRow_le hown3 (by omega : w.heap.size ≤ w2.heap.size))
  clear hb3 hown3
  go_wp2_with fail
  go_ret2
  exact ⟨_, rfl, B3.out, HO3.out⟩
set_option maxHeartbeats 2000000 in
theorem llen_any (F : List NC) (bv : Value) (st num : Int) (w : World)
    (hB : Calls Try.prog 60 #[bv, .int .i64 st, .int .i64 num] w fun e w' => e = .returned (.tuple #[.string (bytesR F num).1, .int .i64 (bytesR F num).2]) ∧ Below w.heap.size w w') :
    Calls Try.prog 22 #[bv, .int .i64 st, .int .i64 num] w fun e w' => e = .returned (.tuple #[.int .i64 (bytesR F num).1.size, .int .i64 (bytesR F num).2]) ∧ Below w.heap.size w w' := by
  have HB := Lib.hid hB
  clear hB
  generalize bytesR F num = r at *
  obtain ⟨by1, en⟩ := r
  simp only at HB ⊢
  go_enter Try.func22, Try.ntmps22
  go_wp2_with fail
  refine HB.out.mono ?_; rintro e w1 ⟨rfl, hb1⟩
  have B1 := Lib.hid hb1
  clear hb1
  go_wp2_with fail
  go_ret2
  exact ⟨rfl, B1.out⟩

set_option maxHeartbeats 4000000 in
set_option maxRecDepth 100000 in
theorem awake17 (w : World) :
    Calls Try.prog 14 #[] w fun e w' => e = .returned (.bool true) ∧ Below w.heap.size w w' := by
  have HV := Lib.hid (fun (w' : World) => volume17 w')
  have hI := I0_ok 1024 1024 3 (.inr rfl) (by omega) (by omega) (by omega)
  have hfl : flat (Tr.leaves 0 ((2, []) : Tr 0)) = [] := rfl
  have HBy := Lib.hid (fun b mb hb pb num w' (hs : StageAt w' b mb hb pb (I0 1024 1024 3)) => lbytes_any hI.tree b mb hb pb 3 (.inr rfl) (fun w2 hs2 => hI.find b mb hb pb w2 hs2) num w' hs)
  rw [hfl] at HBy
  have hr : bytesR [] 3 = (ByteArray.empty, 150) := rfl
  have HNw := Lib.hid (fun b mb hb pb w' (hs : StageAt w' b mb hb pb (I0 1024 1024 3)) => lnew_none [] (.pointer (some ⟨b, 0, none⟩)) 1 3 (fun w2 => StageAt w2 b mb hb pb (I0 1024 1024 3)) (fun w2 hs2 => HBy.out b mb hb pb 3 w2 hs2) (by rw [hr]) w' hs)
  have HLn := Lib.hid (fun b mb hb pb w' (hs : StageAt w' b mb hb pb (I0 1024 1024 3)) => llen_any [] (.pointer (some ⟨b, 0, none⟩)) 1 3 w' (HBy.out b mb hb pb 3 w' hs))
  rw [hr] at HLn
  have hk : key4 3 0 = ⟨#[0, 3, 0, 0]⟩ := rfl
  rw [hk] at HNw
  clear hI hfl hr hk
  go_enter Try.func14, Try.ntmps14
  go_wp2_with fail
  refine (HV.out _).mono ?_; rintro e w1 ⟨b, mb, hb, pb, rfl, h1⟩
  have K1 := Lib.hid h1
  clear h1
  go_wp2_with fail
  refine (HNw.out b mb hb pb _ K1.out.st).mono ?_; rintro e w2 ⟨v, rfl, hb2, hown⟩
  have hz2 := hb2.size
  have K2 := Lib.hid (K1.out.below hb2)
  have HO := Lib.hid hown
  clear hb2 hown
  go_wp2_with fail
  refine (HLn.out b mb hb pb _ K2.out.st).mono ?_; rintro e w3 ⟨rfl, hb3⟩
  have K3 := Lib.hid (K2.out.below hb3)
  have hown3 := own_below1 HO.out hb3
  obtain ⟨g, cap, rfl⟩ : ∃ g cap, v = .slice (some ⟨g, 0, none⟩) 1 cap := by
    rcases ownsRow_forms hown3 with ⟨rfl, h0⟩ | ⟨g, cap, rfl⟩
    · simp [stpRow, stpCs] at h0
    · exact ⟨_, _, rfl⟩
  have c0 := hown3.cells (g := g) rfl 0 (.int .i64 13) rfl
  have c1 := hown3.cells (g := g) rfl 1 (.string ⟨#[0, 3, 0, 0]⟩) rfl
  have c2 := hown3.cells (g := g) rfl 2 (.string ByteArray.empty) rfl
  rw [Addr.add_lit] at c0 c1 c2
  simp only [Nat.zero_add] at c0 c1 c2
  clear hb3 hown3
  go_wp2_with fail
  go_ret
  exact ⟨rfl, K3.out.low⟩
end Go.Proofs.Ytljommhbhpappaa
