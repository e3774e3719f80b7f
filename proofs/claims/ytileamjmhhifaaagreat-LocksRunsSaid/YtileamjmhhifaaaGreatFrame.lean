/-
  The frame of every law of the seat: a walk that returns true and leaves the memory below as it was gives the law's statement, the first form and the bounded one. Nothing of one law stands here.
-/
import Derived.Test.YtileamjmhhifaaaGreatRows
import Derived.WalkKit
import Derived.ProofKit
import Derived.ChangeOld
import Derived.Below
import Derived.JoinedCond
import Derived.SliceStrings
namespace Go.Proofs.YtileamjmhhifaaaGreat
open Go.ChangeShapes Go.WideShapes Go.ChangeAt Go.RowKit
set_option linter.unusedVariables false

theorem Tryz.ownK : ownKnob Tryz.prog.godebug = none := by kernel_rfl
theorem Tryz.laidOutK : laidOutB Tryz.prog = true := by kernel_rfl

theorem trodAll_below {H : Type} {enc : TypeId × Value → H} {W W' : World} (hb : Below W.heap.size W W') :
    ∀ (ts : List TypeId) (vs : List Value) (ds : List (DataW H)) (ps : List MemPlace), (∀ t ∈ ts, Tryz.prog.readableRec t = true ∧ t < Tryz.prog.types.size) →
      DataW.TrodAll enc Tryz.prog W 0 (fun _ => true) true ts vs ds ps → DataW.TrodAll enc Tryz.prog W' 0 (fun b => decide (b < W.heap.size)) true ts vs ds ps
  | [], [], [], ps, _, h => h
  | t :: ts, v :: vs, d :: ds, ps, hr, ⟨p, q, h1, h2, h3⟩ => by
    have lt1 : ∀ x ∈ p, x.block < W.heap.size := by obtain ⟨m, hm⟩ := h1; exact DataW.trod_lt m _ _ _ hm
    exact ⟨p, q, Below.trod Tryz.laidOutK (hr t (by simp)).1 (hr t (by simp)).2 h1 hb lt1, trodAll_below hb ts vs ds q (fun u hu => hr u (by simp [hu])) h2, h3⟩
  | [], [], _ :: _, _, _, h => h.elim
  | [], _ :: _, _, _, _, h => h.elim
  | _ :: _, [], _, _, _, h => h.elim
  | _ :: _, _ :: _, [], _, _, h => h.elim

/-- the post of a law, out of its walk -/
theorem law_close {H : Type} {enc : TypeId × Value → H} {f : Func} {S : ChangeSpec} {W W' : World} {args : Array Value} {ds gs : List (DataW H)} {before : List MemPlace} (hvars : S.vars = [])
    (hread : ∀ t ∈ f.params.toList, Tryz.prog.readableRec t = true ∧ t < Tryz.prog.types.size) (hres : f.resultTypes = #[4])
    (hW : DataW.Whole enc Tryz.prog f.params.toList S.vars false W args.toList ds gs before) (hb : Below W.heap.size W W')
    (hS : S.fn H (ds ++ gs) = { results := [.lit (.bool true)], args := ds }) : S.post enc Tryz.prog f false true false false W args (.bool true) W' := by
  have hW' := hW
  obtain ⟨p, q, hA, hV, rfl, hfz, hnd⟩ := hW
  refine ⟨ds, gs, p ++ q, [], p, [], hW', ?_, ?_, ?_, hb.frame _, fun h => by cases h⟩
  · rw [hS, hres]
    exact trodAll_mk1 (shut_bool Tryz.underlying4 true)
  · rw [hS]
    exact trodAll_below hb _ _ _ _ hread hA
  · rw [hS, hvars]
    rfl

end Go.Proofs.YtileamjmhhifaaaGreat
