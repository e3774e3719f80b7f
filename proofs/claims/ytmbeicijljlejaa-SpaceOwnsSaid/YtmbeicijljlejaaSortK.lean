/-
  Layer 13 (stage): the keys of the stage's map, sorted: maps.Keys and slices.Sorted by the shelf's contracts.
-/
import Derived.Test.YtmbeicijljlejaaIter
import Derived.Test.YtmbeicijljlejaaStage3
namespace Go.Proofs.Ytmbeicijljlejaa
open Go.RowKit Go.Joins Go.Maps Go.Sort Go.Shelf
open Go.WideElems (Fit rd rg rg_of rd_mk)
set_option linter.unusedVariables false
set_option linter.unusedSimpArgs false

/-- what every element reads as, for a law that asks nothing of elements -/
def R0 (_ : Value) : Option (DataW Unit × List MemPlace) := some (.nil, [])
def keyInt : Value → Int
  | .int _ a => a
  | _ => 0
theorem keyOf_i (a : Int) (h0 : 0 ≤ a) (h1 : a < 1024) : keyOf Try.prog 3 (.int .i64 a) = some (.int .i64 a) := keyOf_int_mk Try.underlying3 (WalkArith.wf_i64 (by omega))

theorem intMap_owns {w : World} {b : Nat} {M : List (Int × Value)} (h : IntMap w b M) (hM : ∀ x ∈ M, 0 ≤ x.1 ∧ x.1 < 1024) (hl : M.length ≤ 1024) :
    ∃ D : DataW Unit, w.ownsMap Try.prog 3 R0 b M.length D ∧ Maps.size D = M.length ∧ (intKeys D).Perm (M.map (·.1)) := by
  obtain ⟨es, clock, hb, hm, hst⟩ := h
  have hsz : es.size = M.length := by
    have := congrArg List.length hm
    simpa using this
  have hkey : ∀ x ∈ es.toList, ∃ a, x.key = .int .i64 a ∧ 0 ≤ a ∧ a < 1024 := by
    intro x hx
    have hmem : (x.key, x.val) ∈ es.toList.map (fun e => (e.key, e.val)) := List.mem_map.2 ⟨x, hx, rfl⟩
    rw [hm] at hmem
    obtain ⟨y, hy, he⟩ := List.mem_map.1 hmem
    exact ⟨y.1, (congrArg (·.1) he).symm, hM y hy⟩
  have hrd : ∀ x ∈ es.toList, rd Try.prog 3 R0 x = some (.int .i64 (keyInt x.key), .nil) := by
    intro x hx
    obtain ⟨a, ha, h0, h1⟩ := hkey x hx
    obtain ⟨key, val, born⟩ := x
    simp only at ha
    subst ha
    exact rd_mk (R := R0) (yv := (.nil, [])) (keyOf_i a h0 h1) rfl
  have F : Fit Try.prog 3 R0 es clock := ⟨by rw [hsz]; simp only [maxLen]; omega, hst, fun x hx => ⟨_, hrd x hx⟩⟩
  refine ⟨_, ⟨es, clock, hb, F, by omega, rfl⟩, ?_, ?_⟩
  · rw [Maps.size_eq, length_sorted]; simp [hsz]
  · have hp := (Go.WideShapes.sorted_perm (es.toList.map (rg Try.prog 3 R0))).map (fun p => Go.intOf p.1)
    refine hp.trans (List.Perm.of_eq ?_)
    rw [List.map_map]
    have e1 : es.toList.map ((fun p : Lit × DataW Unit => Go.intOf p.1) ∘ rg Try.prog 3 R0) = (es.toList.map (fun e => (e.key, e.val))).map (fun p => keyInt p.1) := by
      rw [List.map_map]
      refine List.map_congr_left fun x hx => ?_
      simp only [Function.comp, rg_of (hrd x hx), Go.intOf]
    rw [e1, hm, List.map_map]
    rfl

/-- slices.Sort's two contracts at this dump, at the fence that asks nothing -/
theorem sorts0 (m : Nat) : AnyZI.SortsIn Try.prog Try.sortedA_ren Fence.wide m :=
  ⟨fun blk off cap ss W hH hblk hsz => callsIn_wide.2 (AnyM.slices_Sort_int Try.sortA blk off cap ss W hH hblk hsz),
   fun p cap W => callsIn_wide.2 (AnyM.slices_Sort_int_none Try.sortA p cap W)⟩

theorem keys_plain (mb : Option Nat) (W : World) :
    Calls Try.prog 38 #[.map mb] W fun e w' => e = .returned (.func (.func 41) #[] #[.pointer (some ⟨W.heap.size, 0, none⟩)]) ∧ w' = W.alloc (.cells #[.map mb] 58) :=
  (callsIn_wide (n := 5)).1 (AnyZI.keys_in Try.keysA Fence.wide 5 trivial rfl mb W)

def sortK (M : List (Int × Value)) : List Int := (M.map (·.1)).mergeSort (fun x y => decide (x ≤ y))
theorem sortK_length (M : List (Int × Value)) : (sortK M).length = M.length := by simp [sortK]
theorem sortK_mem (M : List (Int × Value)) (x : Int) : x ∈ sortK M ↔ x ∈ M.map (·.1) := List.mem_mergeSort

theorem sorted_plain (b Bm : Nat) (M : List (Int × Value)) (w : World) (h : IntMap w b M) (hM : ∀ x ∈ M, 0 ≤ x.1 ∧ x.1 < 1024) (hl : M.length ≤ 1024) (hB : Bm < w.heap.size) (hm : w.cell? ⟨Bm, 0, none⟩ = some (.map (some b))) :
    Calls Try.prog 37 #[.func (.func 41) #[] #[.pointer (some ⟨Bm, 0, none⟩)]] w fun e w' => ∃ v, e = .returned v ∧ w'.ownsRow w.heap.size 3 1 v M.length ((sortK M).map encZ) ∧ Below w.heap.size w w' := by
  obtain ⟨D, hown, hsz, hperm⟩ := intMap_owns h hM hl
  have hseq : SeqGives Fence.wide 2 Try.prog 41 #[.pointer (some ⟨Bm, 0, none⟩)] encZ (fun ss => ss.Perm (intKeys D)) (Maps.size D) w :=
    AnyZI.keys_gives (ρ := Try.keysA_ren) { Try.keysA with } Fence.wide _ trivial rfl (by omega) Bm b M.length D _ hB hm hown
  have cS := AnyZI.sorted_in Try.sortedA Fence.wide 5 trivial trivial trivial trivial rfl (by omega) (sorts0 _) (enters_of Try.func40 (by kernel_rfl) rfl) 41 #[.pointer (some ⟨Bm, 0, none⟩)] trivial (enters_of Try.func41 (by kernel_rfl) rfl) _ _ (by rw [hsz]; simp only [maxLen]; omega) (by rw [hsz]; omega) _ hseq
  refine ((callsIn_wide (n := 5)).1 cS).mono ?_
  rintro e w' ⟨v, ss, rfl, hS, hrow, hnil, hb⟩
  have hp := hS.trans hperm
  have hlen : ss.length = M.length := by rw [hp.length_eq]; simp
  have e1 : ss.mergeSort (fun x y => decide (x ≤ y)) = sortK M := mergeSort_of_perm_i hp
  rw [e1, hlen] at hrow
  exact ⟨v, rfl, hrow, hb⟩
end Go.Proofs.Ytmbeicijljlejaa
