/-
  jetty/jettylaw15.HeapBack: for every input the law returns true, and its arguments read as they did. No condition.
-/
import Derived.Test.YthehglhbgplfhaaRows
import Derived.Test.YthehglhbgplfhaaFrame
import Derived.Test.YthehglhbgplfhaaFrame15b
import Derived.Test.YthehglhbgplfhaaHeap22
import Derived.WalkKit
import Derived.ProofKit
import Derived.OpenShut
import Derived.ShutString
import Derived.ChangeOld
import Derived.Below
import Derived.SizedLaws
namespace Go.Proofs.Ythehglhbgplfhaa.heapBack
open Go.ChangeShapes Go.WideShapes Go.ChangeAt Go.RowKit
open Go.ChangeMaps (open_string shut_string)
set_option linter.unusedVariables false

set_option maxRecDepth 100000 in
theorem lifted (os : Os) (started : os.Started) (H : Type) (enc : TypeId × Value → H) :
    ReturnsInHanded {} Try.checked os 9 .any (Rows.heapBackSpec.pre6 enc Try.prog Try.f9 Rows.heapBackRow.domain false) (Rows.heapBackSpec.post enc Try.prog Try.f9 false true false false) := by
  refine returnsInHanded_of_change_sized (C := Try.checked) Try.ownK started (by kernel_rfl) Try.func9
    (ChangeSpec.witness6 (enc := enc) (C := Try.checked) false ⟨#[], #[.int .i64 0, .slice none 0 0, .slice none 0 0], []⟩ 8 (by kernel_rfl) (by kernel_rfl) (by kernel_rfl) (by kernel_rfl)) ?_
  intro W base args ds gs before hval0 hW hcnd hsz0 _
  have hval : ∀ (j : Nat) t v, Try.f9.params[j]? = some t → args[j]? = some v → Value.okWide Try.prog W .any base t v := hval0
  have hW' := hW
  obtain ⟨p, q, hA0, hV, rfl, hfz, hnd⟩ := hW
  have hA : DataW.TrodAll enc Try.prog W 0 (fun _ => true) true Try.f9.params.toList args.toList ds p := hA0
  rw [Try.params9] at hA hval
  have hsz := hsz0
  rw [Try.params9] at hsz
  obtain ⟨v0, vs0, d0, ds0, p0, q0, hargs, rfl, rfl, h0, r0⟩ := trodAll_cons hA
  obtain ⟨v1, vs1, d1, ds1, p1, q1, rfl, rfl, rfl, h1, r1⟩ := trodAll_cons r0
  obtain ⟨v2, vs2, d2, ds2, p2, q2, rfl, rfl, rfl, h2, r2⟩ := trodAll_cons r1
  obtain ⟨rfl, rfl, rfl⟩ := trodAll_nil r2
  obtain rfl : args = #[v0, v1, v2] := by cases args; simp_all
  obtain ⟨rfl, rfl⟩ := trodVars_none hV
  obtain ⟨x0, rfl, rfl, rfl, w0⟩ := open_int Try.underlying3 (hval 0 3 v0 rfl rfl) h0
  obtain ⟨ao1, kn1, kc1, rfl⟩ := okWide_slice Try.underlying74 (hval 1 74 v1 rfl rfl)
  obtain ⟨m1, h1⟩ := h1
  obtain ⟨a1, l1, c1, x1, e1, g1⟩ := cls_form h1
  simp only [Value.slice.injEq] at e1
  obtain ⟨rfl, rfl, rfl⟩ := e1
  obtain ⟨ao2, kn2, kc2, rfl⟩ := okWide_slice Try.underlying74 (hval 2 74 v2 rfl rfl)
  obtain ⟨m2, h2⟩ := h2
  obtain ⟨a2, l2, c2, x2, e2, g2, z2⟩ := cls_sized h2
  simp only [Value.slice.injEq] at e2
  obtain ⟨rfl, rfl, rfl⟩ := e2
  have s2 : kn2 * 240 ≤ 140737488351232 := by
    rcases z2 with hz | ⟨el, sp, hd, hle⟩
    · rw [hz]; omega
    · have hh := sized_slice hsz (j := 2) (t := 74) (e := 79) rfl (show _ = some (DataW.slice el sp) from congrArg some hd) Try.underlying74
      rw [show Try.checked.prog.bytesOf 79 = 240 from bytesCl, show reachBytes = 140737488351232 from rfl] at hh
      have := Nat.mul_le_mul_right 240 hle
      omega
  clear hA0 hval0
  simp only [List.append_nil] at hW'
  refine (back_walk x0 _ _ _ x1 _ _ _ x2 W g1 g2 s2).mono fun e W' ⟨he, hg⟩ => ?_
  subst he
  exact ⟨_, rfl, law_close rfl (by intro t ht; simp only [Try.params9, List.mem_cons, List.not_mem_nil, or_false] at ht; rcases ht with rfl | rfl | rfl <;> exact ⟨by kernel_rfl, of_decide_eq_true (by kernel_rfl)⟩) rfl hW' hg rfl⟩

theorem over : Rows.heapBackRow.holds Try.pinned (OpenSpec.ofChange Rows.heapBackSpec) :=
  OpenClaim.holds_of_wide 9 Try.f9 rfl rfl rfl rfl rfl rfl rfl ⟨rfl, rfl, rfl, rfl, rfl⟩ rfl rfl rfl rfl rfl (by kernel_rfl) Try.func9 (by kernel_rfl)
    (of_decide_eq_true (by kernel_rfl)) (by unfold Func.isWrapper; first | (rw [if_pos (by decide +kernel)]; kernel_rfl) | (rw [if_neg (by decide +kernel)]; exact ⟨rfl, rfl⟩))
    (fun os started H enc _ => lifted os started H enc)

theorem proved : Rows.HeapBackSaid := over
#print axioms proved
end Go.Proofs.Ythehglhbgplfhaa.heapBack
