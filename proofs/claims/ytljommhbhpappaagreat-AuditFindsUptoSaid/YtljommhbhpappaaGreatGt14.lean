/-
  Layer 16 (tree): Cut and Set.
-/
import Derived.Test.YtljommhbhpappaaGreatPkCh
import Derived.Test.YtljommhbhpappaaGreatGt12
namespace Go.Proofs.YtljommhbhpappaaGreat
open Go.RowKit Go.Joins
set_option linter.unusedVariables false
set_option linter.unusedSimpArgs false

set_option maxHeartbeats 4000000 in
set_option maxRecDepth 100000 in
theorem gcut_any {S : Vol} {d m : Pg} {nn : Nat} {kd st : Int} {N : Nat} {T : Tr N} (h : GxOk S d m nn kd st N T) (key : ByteArray) (hk : KeyOk key) (b mb hb pb : Nat) (w : World) (hs : StageAt w b mb hb pb S) :
    Calls Tryz.prog 26 #[.pointer (some ⟨b, 0, none⟩), .int .i64 st, .string key] w fun e w' => ∃ u er S', e = .returned (.tuple #[u.v, .int .i64 er]) ∧ w.grownBy w' (some mb) ∧ StageAt w' b mb hb pb S' ∧ GChOut st N T key (cutOf key) S u er S' := by
  have hl := hs.lt
  have R9 : rowAt (w.alloc (.cells Un.zero.cs 74)) w.heap.size = some Un.zero.cs := rowAt_at _ _ _ _ rfl
  have B2 : Below w.heap.size w (w.alloc (.cells Un.zero.cs 74)) := (Below.refl _ _).alloc (Nat.le_refl _) _
  have HC := Lib.hid (gchange_any h key hk 57 #[] cfCut (cutOf key) (fun x hx _ => ⟨⟨.inr rfl, hk.1, hk.2, hx.2.2.2⟩, rfl⟩) b mb hb pb _ (hs.below B2 hl)
    (fun x hx hxk _ w' _ => by
      have e : (cutOf key x).d = x.d := by unfold cutOf NC.d; simp only; rw [hxk]
      rw [e]
      exact cut_clo 1 x.d w'))
  have HB2 := Lib.hid B2
  clear h hs hk B2
  go_enter Tryz.func26, Tryz.ntmps26
  go_wp2_with fail
  refine HC.out.mono ?_; rintro e w3 ⟨u, er, S', rfl, hg3, hs3, hch⟩
  have hz3 := hg3.size
  simp only [World.size_alloc] at hz3
  have R3 := (rowAt_grown hg3 (n := w.heap.size) (by go_size) (by omega)).trans R9
  have r7 : row7 (rowAt w3 w.heap.size) = true := by rw [R3]; rfl
  have RF := rowAt_setRow w3 w.heap.size _ u.cs R3
  have HW := Lib.hid (below_setRow (Below.refl w.heap.size w3) u.cs (Nat.le_refl _))
  have HG := Lib.hid ((grown_of_below HB2.out (some mb)).trans hg3)
  have HS := Lib.hid (hs3.below HW.out hl)
  have HCh := Lib.hid hch
  clear hg3 hs3 R9 hch
  go_wp2_with fail
  exact ret_un rfl rfl w.heap.size u rfl RF ⟨u, er, S', rfl, grown_below HG.out HW.out (Nat.le_refl _), HS.out, HCh.out⟩
end Go.Proofs.YtljommhbhpappaaGreat
