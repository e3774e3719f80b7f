/-
  Layer 9 (locks): cmp.Compare, cmp.Or; pairs of transactions, sorted.
-/
import Derived.Test.YtileamjmhhifaaaLk13
import Derived.StillTailTactics
namespace Go.Proofs.Ytileamjmhhifaaa
open Go.RowKit Go.Joins Go.Sort Go.Shelf
set_option linter.unusedVariables false
set_option linter.unusedSimpArgs false

def cmpI (a b : Int) : Int := if a < b then -1 else if b < a then 1 else 0
theorem cmpi_any (a b : Int) (w : World) : Calls Try.prog 33 #[.int .i64 a, .int .i64 b] w fun e w' => e = .returned (.int .i64 (cmpI a b)) ∧ w' = w := by
  unfold cmpI
  by_cases h1 : a < b
  · rw [if_pos h1]
    go_enter Try.func33, Try.ntmps33
    go_wp2
    go_ret
    exact ⟨rfl, rfl⟩
  · rw [if_neg h1]
    by_cases h2 : b < a
    · rw [if_pos h2]
      go_enter Try.func33, Try.ntmps33
      go_wp2
      go_ret
      exact ⟨rfl, rfl⟩
    · rw [if_neg h2]
      go_enter Try.func33, Try.ntmps33
      go_wp2
      go_ret
      exact ⟨rfl, rfl⟩
def orI (x y : Int) : Int := if x ≠ 0 then x else y
/-- the first that is not 0 -/
theorem or_any (b : Nat) (x y : Int) (w : World) (hl : b < w.heap.size) (h0 : w.cell? ⟨b, 0, none⟩ = some (.int .i64 x)) (h1 : w.cell? ⟨b, 1, none⟩ = some (.int .i64 y)) :
    Calls Try.prog 37 #[.slice (some ⟨b, 0, none⟩) 2 2] w fun e w' => e = .returned (.int .i64 (orI x y)) ∧ w' = w := by
  go_enter Try.func37, Try.ntmps37
  go_wp2_with fail
  go_loopw [8] (fun ti wr => ∃ k : Nat, k ≤ 2 ∧ ti = .int .i64 k ∧ (1 ≤ k → x = 0) ∧ (2 ≤ k → y = 0) ∧ wr = w) (fun ti _ => 2 - (intOf ti).toNat)
  case atStart => exact ⟨0, by omega, rfl, fun h => by omega, fun h => by omega, rfl⟩
  case round =>
    obtain ⟨k, hk, rfl, e1, e2, rfl⟩ := hrel
    obtain rfl | rfl | rfl : k = 0 ∨ k = 1 ∨ k = 2 := by omega
    · by_cases hx : x = 0
      · subst hx
        clear e1 e2
        go_wp2_with fail
        go_roundw
        case rel => exact ⟨1, by omega, by go_num, fun _ => (by first | rfl | trivial), fun h => (by first | omega | trivial), by first | rfl | trivial⟩
        case measure => simp [intOf]
      · have hb : (x != 0) = true := by simp [hx]
        clear e1 e2
        go_wp2_with fail
        go_ret
        exact ⟨by first | rfl | (unfold orI; rw [if_pos hx]; rfl), rfl⟩
    · have hx := e1 (by omega)
      subst hx
      by_cases hy : y = 0
      · subst hy
        clear e1 e2
        go_wp2_with fail
        go_roundw
        case rel => exact ⟨2, by omega, by go_num, fun _ => (by first | rfl | trivial), fun _ => (by first | rfl | trivial), by first | rfl | trivial⟩
        case measure => simp [intOf]
      · have hb : (y != 0) = true := by simp [hy]
        clear e1 e2
        go_wp2_with fail
        go_ret
        exact ⟨rfl, rfl⟩
    · have hx := e1 (by omega)
      have hy := e2 (by omega)
      subst hx
      subst hy
      clear e1 e2
      go_wp2_with fail
      go_ret
      exact ⟨rfl, rfl⟩
/-- pairs -/
abbrev Pr := Int × Int
def prL (p : Pr) : List Value := [.int .i64 p.1, .int .i64 p.2]
def arRow (L : List Pr) : List Value := L.flatMap prL
theorem prL_len (p : Pr) : (prL p).length = 2 := rfl
def cmpP (p q : Pr) : Int := orI (cmpI p.1 q.1) (cmpI p.2 q.2)
def ltP (p q : Pr) : Prop := p.1 < q.1 ∨ p.1 = q.1 ∧ p.2 < q.2
theorem cmpI_neg {a b : Int} : cmpI a b < 0 ↔ a < b := by unfold cmpI; split <;> first | (constructor <;> omega) | (split <;> constructor <;> omega)
theorem cmpI_zero {a b : Int} : cmpI a b = 0 ↔ a = b := by unfold cmpI; split <;> first | (constructor <;> omega) | (split <;> constructor <;> omega)
theorem ltOf_P (p q : Pr) : ltOf cmpP p q = true ↔ ltP p q := by
  unfold ltOf cmpP ltP orI
  rw [decide_eq_true_iff]
  by_cases h : p.1 = q.1
  · rw [if_neg (by rw [ne_eq, Classical.not_not]; exact cmpI_zero.2 h), cmpI_neg]
    constructor
    · intro h2; exact .inr ⟨h, h2⟩
    · rintro (h2 | h2)
      · omega
      · exact h2.2
  · rw [if_pos (fun e => h (cmpI_zero.1 e)), cmpI_neg]
    constructor
    · exact .inl
    · rintro (h2 | h2)
      · exact h2
      · exact absurd h2.1 h
theorem ltOf_Pf (p q : Pr) : ltOf cmpP p q = false ↔ ¬ ltP p q := by
  rw [← ltOf_P]; simp
theorem swoP : SWO (ltOf cmpP) where
  irrefl x := by rw [ltOf_Pf]; unfold ltP; omega
  trans x y z h1 h2 := by rw [ltOf_P] at *; unfold ltP at *; omega
  ntrans x y z h1 h2 := by rw [ltOf_Pf] at *; unfold ltP at *; omega

theorem or_new (x y : Int) (W : World) (ty : TypeId) : Calls Try.prog 37 #[.slice (some ⟨W.heap.size, 0, none⟩) 2 2] (W.alloc (.cells #[.int .i64 x, .int .i64 y] ty)) fun e w' => e = .returned (.int .i64 (orI x y)) ∧ w' = W.alloc (.cells #[.int .i64 x, .int .i64 y] ty) :=
  or_any _ x y _ (by simp) ((World.cell?_alloc_mark W _ _ (0, 0) 0).trans rfl) ((World.cell?_alloc_mark W _ _ (0, 0) 1).trans rfl)
theorem or_newd (x y : Int) (W : World) (ty : TypeId) : Calls Try.prog 37 #[.slice (some ⟨W.heap.size, 0, none⟩) 2 2] (W.alloc (.cells #[.int .i64 x, .int .i64 y] ty)).drew fun e w' => e = .returned (.int .i64 (orI x y)) ∧ w' = (W.alloc (.cells #[.int .i64 x, .int .i64 y] ty)).drew :=
  or_new x y W.drew ty

set_option maxHeartbeats 1000000 in
set_option maxRecDepth 100000 in
theorem clo_arcs (p q : Pr) (W : World) : Calls Try.prog 36 #[.agg (prL p).toArray, .agg (prL q).toArray] W fun e w' => e = .returned (.int .i64 (cmpP p q)) ∧ Gr W w' := by
  obtain ⟨a, b⟩ := p
  obtain ⟨c, d⟩ := q
  have mixed : Try.prog.follows Departure.mixedOrders = true := by kernel_rfl
  show Calls _ _ #[.agg #[.int .i64 a, .int .i64 b], .agg #[.int .i64 c, .int .i64 d]] W _
  have hB1 : Gr W ((W.alloc (.cells #[.int .i64 a, .int .i64 b] 48)).alloc (.cells #[.int .i64 c, .int .i64 d] 48)) := ((Gr.refl W).alloc _).alloc _
  have k1 : ((W.alloc (.cells #[.int .i64 a, .int .i64 b] 48)).alloc (.cells #[.int .i64 c, .int .i64 d] 48)).cell? ⟨W.heap.size, 0, none⟩ = some (.int .i64 a) := (cell_of_block ((Below.heap_alloc _ _ _ (by simp)).trans (heap_alloc_new W _)) 0).trans rfl
  have k2 : ((W.alloc (.cells #[.int .i64 a, .int .i64 b] 48)).alloc (.cells #[.int .i64 c, .int .i64 d] 48)).cell? ⟨W.heap.size, 1, none⟩ = some (.int .i64 b) := (cell_of_block ((Below.heap_alloc _ _ _ (by simp)).trans (heap_alloc_new W _)) 1).trans rfl
  have hn := heap_alloc_new (W.alloc (.cells #[.int .i64 a, .int .i64 b] 48)) (.cells #[.int .i64 c, .int .i64 d] 48)
  rw [World.size_alloc] at hn
  have k3 := (cell_of_block hn 0).trans rfl
  have k4 := (cell_of_block hn 1).trans rfl
  have hs : ((W.alloc (.cells #[.int .i64 a, .int .i64 b] 48)).alloc (.cells #[.int .i64 c, .int .i64 d] 48)).heap.size = W.heap.size + 2 := by simp
  clear hn
  go_enter Try.func36, Try.ntmps36
  go_wp2_with fail
  generalize (W.alloc (.cells #[.int .i64 a, .int .i64 b] 48)).alloc (.cells #[.int .i64 c, .int .i64 d] 48) = WA at *
  have HG := Lib.hid hB1
  clear hB1
  obtain ⟨WD, hWD⟩ : ∃ WD : World, WD = { WA with drawn := WA.drawn + 1 } := ⟨_, rfl⟩
  have HG3 : Hid (Gr W WD) := Lib.hid (by rw [hWD]; exact HG.out.drewN 1)
  have k1' : WD.cell? ⟨W.heap.size, 0, none⟩ = some (.int .i64 a) := by rw [hWD]; exact k1
  have k2' : WD.cell? ⟨W.heap.size, 1, none⟩ = some (.int .i64 b) := by rw [hWD]; exact k2
  have k3' : WD.cell? ⟨W.heap.size + 1, 0, none⟩ = some (.int .i64 c) := by rw [hWD]; exact k3
  have k4' : WD.cell? ⟨W.heap.size + 1, 1, none⟩ = some (.int .i64 d) := by rw [hWD]; exact k4
  refine wp_region_still_tail 10 mixed (by kernel_rfl) ?_
  simp only [List.take_succ_cons, List.take_zero, List.drop_succ_cons, List.drop_zero]
  rw [← hWD]
  clear k1 k2 k3 k4 hs HG hWD
  iterate 4 still_step
  still_call (cmpi_any a c WD)
  iterate 4 still_step
  still_call (cmpi_any b d WD)
  refine wpStill_nil ?_
  clear k1' k2' k3' k4'
  go_wp2_with fail
  refine (or_new _ _ WD _).mono ?_; rintro e w1 ⟨rfl, rfl⟩
  go_wp2_with fail
  go_ret
  exact ⟨rfl, HG3.out.alloc _⟩
end Go.Proofs.Ytileamjmhhifaaa
