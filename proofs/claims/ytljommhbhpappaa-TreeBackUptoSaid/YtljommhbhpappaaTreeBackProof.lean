/-
  jetty/jettylaw16.TreeBack: where what the arguments hold is of bulk at most 1048576 (the given second form) the law returns true, and its arguments read as they did.
-/
import Derived.Test.YtljommhbhpappaaRows
import Derived.Test.YtljommhbhpappaaFrame
import Derived.Test.YtljommhbhpappaaFrame16u
import Derived.Test.YtljommhbhpappaaTreeB3
import Derived.WalkKit
import Derived.ProofKit
import Derived.OpenShut
import Derived.ShutString
import Derived.ChangeOld
import Derived.Below
namespace Go.Proofs.Ytljommhbhpappaa.treeBack
open Go.ChangeShapes Go.WideShapes Go.ChangeAt Go.RowKit
open Go.ChangeMaps (open_string shut_string)
set_option linter.unusedVariables false

set_option maxRecDepth 100000 in
theorem contract (H : Type) (enc : TypeId × Value → H) (W : World) (base : Nat) (args : Array Value) (ds gs : List (DataW H)) (before : List MemPlace)
    (hval : ∀ (j : Nat) t v, Try.f11.params[j]? = some t → args[j]? = some v → Value.okWide Try.prog W .any base t v)
    (hW : DataW.Whole enc Try.prog Try.f11.params.toList Rows.treeBackSpec.vars false W args.toList ds gs before) (hk : Rows.uptoSmall H (ds ++ gs) = true) :
    Calls Try.prog 11 args W fun e W' => ∃ v, e = .returned v ∧ Rows.treeBackSpec.post enc Try.prog Try.f11 false true false false W args v W' := by
  have hW' := hW
  obtain ⟨p, q, hA0, hV, rfl, hfz, hnd⟩ := hW
  have hA : DataW.TrodAll enc Try.prog W 0 (fun _ => true) true Try.f11.params.toList args.toList ds p := hA0
  rw [Try.params11] at hA hval
  obtain ⟨v0, vs0, d0, ds0, p0, q0', hargs, rfl, rfl, h0, r0⟩ := trodAll_cons hA
  obtain ⟨v1, vs1, d1, ds1, p1, q1', rfl, rfl, rfl, h1, r1⟩ := trodAll_cons r0
  obtain ⟨rfl, rfl, rfl⟩ := trodAll_nil r1
  obtain rfl : args = #[v0, v1] := by cases args; simp_all
  obtain ⟨rfl, rfl⟩ := trodVars_none hV
  have hk' : Rows.uptoBulkAll [d0, d1] ≤ 1048576 := of_decide_eq_true hk
  clear hA0
  obtain ⟨ao0, kn0, kc0, rfl⟩ := okWide_slice Try.underlying79 (hval 0 79 v0 rfl rfl)
  obtain ⟨m0, h0⟩ := h0
  obtain ⟨a0, l0, c0, x0, e0, g0, z0⟩ := cls_formU h0
  simp only [Value.slice.injEq] at e0
  obtain ⟨rfl, rfl, rfl⟩ := e0
  have q0 : ∀ c ∈ x0, c.kl ≤ 1048576 := fun c hc => by
    have h1 := z0 c hc
    have h2 : Rows.uptoBulk d0 ≤ Rows.uptoBulkAll [d0, d1] := part_le (by simp)
    simp only at h1
    omega
  obtain ⟨ao1, kn1, kc1, rfl⟩ := okWide_slice Try.underlying79 (hval 1 79 v1 rfl rfl)
  obtain ⟨m1, h1⟩ := h1
  obtain ⟨a1, l1, c1, x1, e1, g1, z1⟩ := cls_formU h1
  simp only [Value.slice.injEq] at e1
  obtain ⟨rfl, rfl, rfl⟩ := e1
  have q1 : ∀ c ∈ x1, c.kl ≤ 1048576 := fun c hc => by
    have h1 := z1 c hc
    have h2 : Rows.uptoBulk d1 ≤ Rows.uptoBulkAll [d0, d1] := part_le (by simp)
    simp only at h1
    omega
  simp only [List.append_nil] at hW'
  refine (back_walk _ _ _ x0 _ _ _ x1 W g0 q0 g1 q1).mono fun e W' ⟨he, hg⟩ => ?_
  subst he
  exact ⟨_, rfl, law_close rfl (by intro t ht; simp only [Try.params11, List.mem_cons, List.not_mem_nil, or_false] at ht; rcases ht with rfl | rfl <;> exact ⟨by kernel_rfl, of_decide_eq_true (by kernel_rfl)⟩) rfl hW' hg rfl⟩

set_option maxRecDepth 100000 in
theorem lifted (os : Os) (started : os.Started) (H : Type) (enc : TypeId × Value → H) (F : Stop.Interp) :
    ReturnsInHanded {} Try.checked os 11 .any ((Rows.OpenSpec.upto Rows.treeBackSpec).pre6 enc Try.prog Try.f11 Rows.treeBackUptoRow.domain false) (((Rows.OpenSpec.upto Rows.treeBackSpec).at F).post enc Try.prog Try.f11 false true false false) := by
  refine returnsInHanded_of_cond (C := Try.checked) (s := Rows.OpenSpec.upto Rows.treeBackSpec) (k := Rows.uptoSmall) rfl Try.ownK started (by kernel_rfl) Try.func11
    (OpenSpec.witness (enc := enc) (C := Try.checked) (s := Rows.OpenSpec.upto Rows.treeBackSpec) (k := Rows.uptoSmall) rfl false ⟨#[], #[.slice none 0 0, .slice none 0 0], []⟩ 8 (by kernel_rfl) (by kernel_rfl) (by kernel_rfl)
      (x := ([.nil, .nil], [], [])) (by kernel_rfl) rfl (by kernel_rfl)) ?_
  intro W base args ds gs before hval hW _ hk _
  exact contract H enc W base args ds gs before hval hW hk

theorem proved : Rows.TreeBackUptoSaid :=
  OpenClaim.holds_of_cond 11 Try.f11 rfl rfl rfl rfl rfl rfl rfl ⟨rfl, rfl, rfl, rfl, rfl⟩ rfl rfl rfl rfl rfl (by kernel_rfl) Try.func11 (by kernel_rfl)
    (of_decide_eq_true (by kernel_rfl)) (by unfold Func.isWrapper; first | (rw [if_pos (by decide +kernel)]; kernel_rfl) | (rw [if_neg (by decide +kernel)]; exact ⟨rfl, rfl⟩))
    (fun os started H enc _ F => lifted os started H enc F)
#print axioms proved
end Go.Proofs.Ytljommhbhpappaa.treeBack
