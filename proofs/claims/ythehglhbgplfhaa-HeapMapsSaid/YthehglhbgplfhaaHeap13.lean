/-
  Layer 15 (heap): the visit that lists a page's records.
-/
import Derived.Test.YthehglhbgplfhaaHeap11
import Derived.Deep.AppendLies
import Derived.Deep.RegionLaw
namespace Go.Proofs.Ythehglhbgplfhaa
open Go.RowKit Go.Joins
set_option linter.unusedVariables false
set_option linter.unusedSimpArgs false

/-- a pair, as List makes them -/
def prCs (x : Int × ByteArray) : Array Value := #[.string ⟨#[]⟩, .int .i64 x.1, .string x.2]
def prV (x : Int × ByteArray) : Value := .agg (prCs x)
@[go_sem] theorem prCs_size (x : Int × ByteArray) : (prCs x).size = 3 := rfl
@[go_sem] theorem prV_cells (x : Int × ByteArray) : (prV x).cells = prCs x := rfl
def prRow (l : List (Int × ByteArray)) : List Value := l.flatMap fun x => (prCs x).toList
theorem prRow_len (l : List (Int × ByteArray)) : (prRow l).length = l.length * 3 := by
  induction l with
  | nil => rfl
  | cons x r ih =>
    have e : prRow (x :: r) = (prCs x).toList ++ prRow r := rfl
    rw [e, List.length_append, ih, List.length_cons]
    have : (prCs x).toList.length = 3 := rfl
    omega
theorem prRow_snoc (l : List (Int × ByteArray)) (x : Int × ByteArray) : prRow (l ++ [x]) = prRow l ++ (prCs x).toList := by simp [prRow]
def buildPr (parts : Array (Nat × Value)) : Sem Value := Instr.build 90 parts
@[go_sem ↓] theorem buildPr_eq (parts : Array (Nat × Value)) : Instr.build 90 parts = buildPr parts := rfl
@[go_sem] theorem run_buildPr (w : World) (id : Int) (d : ByteArray) : (buildPr #[(1, .int .i64 id), (2, .string d)]).run Try.prog w = .ok (prV (id, d)) w := by kernel_rfl
def rowPr (parts : Array (Nat × Value)) : Sem Value := Instr.buildSlice 86 1 parts
@[go_sem ↓] theorem rowPr_eq (parts : Array (Nat × Value)) : Instr.buildSlice 86 1 parts = rowPr parts := rfl
@[go_sem] theorem run_rowPr (w : World) (x : Int × ByteArray) : (rowPr #[(0, prV x)]).run Try.prog w = .ok (.slice (some ⟨w.heap.size, 0, none⟩) 1 1) (w.alloc (.cells (prCs x) 90)) := by kernel_rfl
theorem infoPr : (Try.prog.info? 90).map (fun i => (i.zero, i.size, i.bytes)) = some (some (prV (0, ⟨#[]⟩)), 3, 40) := by kernel_rfl

/-- the records among the first cells of a page -/
def recsTo (a : Nat) (p : Pg) (k : Nat) : List (Int × ByteArray) := (List.range k).filterMap fun i => if p.a i = 1 then some (((a * 8 + i : Nat) : Int), p.d i) else none
theorem recsTo_succ (a : Nat) (p : Pg) (k : Nat) : recsTo a p (k + 1) = recsTo a p k ++ if p.a k = 1 then [(((a * 8 + k : Nat) : Int), p.d k)] else [] := by
  unfold recsTo
  rw [List.range_succ, List.filterMap_append]
  by_cases h : p.a k = 1
  · simp [h]
  · simp [h]
theorem recsTo_six (a : Nat) (p : Pg) : recsTo a p 6 = pgRecs a p := rfl
theorem recsTo_len (a : Nat) (p : Pg) (k : Nat) : (recsTo a p k).length ≤ k := by
  unfold recsTo
  have h := List.length_filterMap_le (fun i => if p.a i = 1 then some (((a * 8 + i : Nat) : Int), p.d i) else none) (List.range k)
  simpa using h

theorem grown_set15 (w : World) (b i : Nat) (v : Value) : w.grownBy (w.setCell ⟨b, i, none⟩ v) (some b) :=
  ⟨rfl, rfl, rfl, by simp [World.setCell], fun k hk hne => heap_setCell_far w ⟨b, i, none⟩ v k (fun e => hne (by rw [← e]))⟩
theorem own_ne_blk {w : World} {B n s g : Nat} {e t : TypeId} {v : Value} {xs : List Value} {c : Array Value} (h : w.ownsRow B e s v n xs) (hg : w.heap[g]? = some (.cells c t)) (ht : e ≠ t) : v.ownBlock = none ∨ v.ownBlock ≠ some g := by
  rcases h.2 with ⟨rfl, _⟩ | ⟨g', cap, cur, rfl, _, hg', _⟩
  · exact .inl rfl
  · refine .inr fun e => ?_
    simp only [Value.ownBlock, Option.some.injEq] at e
    subst e
    rw [hg] at hg'
    simp only [Option.some.injEq, Obj.cells.injEq] at hg'
    exact ht hg'.2.1.symm
/-- where List stands: what it has so far lies in a row of its own -/
structure ListMem (B c : Nat) (w0 w : World) (R : List (Int × ByteArray)) : Prop where
  low : Below B w0 w
  own : ∃ v, w.heap[c]? = some (.cells #[v] 86) ∧ w.ownsRow B 90 3 v R.length (prRow R)
theorem ListMem.below {B c : Nat} {w0 w w' : World} {R : List (Int × ByteArray)} (h : ListMem B c w0 w R) (hb : Below w.heap.size w w') (hB : B ≤ w.heap.size) : ListMem B c w0 w' R := by
  obtain ⟨v, h1, h2⟩ := h.own
  exact ⟨h.low.trans (hb.mono hB), v, (hb.block _ (Array.getElem?_eq_some_iff.1 h1).1).trans h1, own_low h2 hb⟩

/-- one record more in the list -/
theorem list_step {B c : Nat} {w0 wr W2 w7 : World} {v : Value} {xs : List Value} {n : Nat} {gg cap : Nat} {news : List Value} (hBc : B ≤ c) (hv2 : wr.ownsRow B 90 3 v n xs) (hv1 : wr.heap[c]? = some (.cells #[v] 86)) (hlow : Below B w0 wr) (hBr : B ≤ wr.heap.size)
    (hB2 : Below wr.heap.size wr W2) (hown2 : W2.ownsRow B 90 3 v n xs) (hcW2 : W2.heap[c]? = some (.cells #[v] 86)) (hgrow : W2.grownBy w7 v.ownBlock) (hown7 : w7.ownsRow B 90 3 (.slice (some ⟨gg, 0, none⟩) (n + 1) cap) (n + 1) (xs ++ news)) (hc7 : w7.heap[c]? = some (.cells #[v] 86)) (hcl : c < W2.heap.size) (hz : wr.heap.size ≤ W2.heap.size) :
    Below B w0 (w7.setCell ⟨c, 0, none⟩ (.slice (some ⟨gg, 0, none⟩) (n + 1) cap)) ∧
    (∃ v9, (w7.setCell ⟨c, 0, none⟩ (.slice (some ⟨gg, 0, none⟩) (n + 1) cap)).heap[c]? = some (.cells #[v9] 86) ∧ (w7.setCell ⟨c, 0, none⟩ (.slice (some ⟨gg, 0, none⟩) (n + 1) cap)).ownsRow B 90 3 v9 (n + 1) (xs ++ news)) ∧
    ∀ (q : Nat) (cs : Array Value), wr.heap[q]? = some (.cells cs 41) → (w7.setCell ⟨c, 0, none⟩ (.slice (some ⟨gg, 0, none⟩) (n + 1) cap)).heap[q]? = some (.cells cs 41) := by
  refine ⟨?_, ?_, ?_⟩
  · have h1 : Below B w0 W2 := hlow.trans (hB2.mono hBr)
    exact below_setCell (h1.grown hgrow (by omega) (fun q hq => (hown2.lt q hq).1)) _ _ hBc
  · refine ⟨_, setCell_block hc7 0 _, hown7.kept (grown_set15 w7 c 0 _) (own_ne_blk hown7 hc7 (by decide))⟩
  · intro q cs hq
    have hq2 := (hB2.block q (Array.getElem?_eq_some_iff.1 hq).1).trans hq
    have hne := own_ne_blk hown2 hq2 (by decide)
    have hq7 := (hgrow.block q (Array.getElem?_eq_some_iff.1 hq2).1 (by rcases hne with h | h <;> first | exact Ne.symm h | (rw [h]; simp))).trans hq2
    exact (heap_setCell_far _ _ _ _ (blk_ne hc7 hq7 (by decide))).trans hq7

set_option maxHeartbeats 4000000 in
set_option maxRecDepth 100000 in
theorem visit_list (a : Nat) (p : Pg) (B c : Nat) (hBc : B ≤ c) (R : List (Int × ByteArray)) (hR : R.length ≤ 100000) (ha : a < 1024) (w0 w : World) (hw : B ≤ w0.heap.size) (h : ListMem B c w0 w R) :
    Calls Try.prog 56 #[.int .i64 (a : Int), p.v, .pointer (some ⟨c, 0, none⟩)] w fun e w' =>
      e = .returned (.bool false) ∧ ListMem B c w0 w' (R ++ pgRecs a p) ∧ w.heap.size ≤ w'.heap.size ∧ ∀ (q : Nat) (cs : Array Value), w.heap[q]? = some (.cells cs 41) → w'.heap[q]? = some (.cells cs 41) := by
  obtain ⟨i0, hi, hz0, hz1, hz2⟩ := info_parts infoPr
  have hsz0 : B ≤ w.heap.size := Nat.le_trans hw h.low.size
  have HId := Lib.hid (fun (k : Nat) (hk : k < 6) (w' : World) => id_any (a : Int) (k : Int) w' (by omega) (by omega) (by omega) (by omega))
  have H0 := Lib.hid h
  clear h
  go_enter Try.func56, Try.ntmps56
  go_wp2_with fail
  go_loopw [10] (fun i wr => ∃ k : Nat, k ≤ 6 ∧ i = .int .i64 k ∧ ListMem B c w0 wr (R ++ recsTo a p k) ∧ w.heap.size ≤ wr.heap.size ∧ ∀ (q : Nat) (cs : Array Value), w.heap[q]? = some (.cells cs 41) → wr.heap[q]? = some (.cells cs 41)) (fun i _ => 6 - (intOf i).toNat)
  case atStart =>
    refine ⟨0, by omega, rfl, ?_, by simp, fun q cs hq => (Below.heap_alloc _ _ _ (Array.getElem?_eq_some_iff.1 hq).1).trans hq⟩
    have e : R ++ recsTo a p 0 = R := by simp [recsTo]
    rw [e]
    exact H0.out.below ((Below.refl _ _).alloc (Nat.le_refl _) _) hsz0
  case round =>
    obtain ⟨k, hk, rfl, hL, hz, hpg⟩ := hrel
    have HL := Lib.hid hL
    have HPg := Lib.hid hpg
    clear hL hpg
    by_cases hlt : k < 6
    · have hidx := index6 p k hlt
      have hsucc := recsTo_succ a p k
      have hlen := recsTo_len a p k
      have hk8 : (k : Int) < 8 := by omega
      obtain ⟨x, hx⟩ : ∃ x, p.a k = x := ⟨_, rfl⟩
      obtain ⟨d, hd⟩ : ∃ d, p.d k = d := ⟨_, rfl⟩
      rw [hx, hd] at hidx hsucc
      by_cases h1 : x = 1
      · subst h1
        rw [if_pos rfl] at hsucc
        obtain ⟨v, hv1, hv2⟩ := HL.out.own
        have hcl := (Array.getElem?_eq_some_iff.1 hv1).1
        have hz0' := HL.out.low.size
        have B1 : Below wr.heap.size wr (wr.alloc (.cells #[.int .i64 1, .string d] 34)).drew := ((Below.refl _ _).alloc (Nat.le_refl _) _).drew
        have cc1 : (wr.alloc (.cells #[.int .i64 1, .string d] 34)).drew.cell? ⟨c, 0, none⟩ = some v := (cell_of_block ((B1.block c hcl).trans hv1) 0).trans rfl
        have cc2 : ((wr.alloc (.cells #[.int .i64 1, .string d] 34)).alloc (.cells (prCs ((a : Int) * 8 + (k : Int), d)) 90)).drew.cell? ⟨c, 0, none⟩ = some v := (cell_of_block ((Below.heap_alloc _ _ _ (by simp; omega)).trans ((B1.block c hcl).trans hv1)) 0).trans rfl
        have dd1 : (wr.alloc (.cells #[.int .i64 1, .string d] 34)).drew.cell? ⟨wr.heap.size, 1, none⟩ = some (.string d) := (cell_of_block (heap_alloc_new wr _) 1).trans rfl
        have HS := Lib.hid hsucc
        clear hsucc hx hd
        have hown2 := ((hv2.alloc (.cells #[.int .i64 1, .string d] 34)).alloc (.cells (prCs ((a : Int) * 8 + (k : Int), d)) 90)).drew
        have hnew : ((wr.alloc (.cells #[.int .i64 1, .string d] 34)).alloc (.cells (prCs ((a : Int) * 8 + (k : Int), d)) 90)).drew.heap[wr.heap.size + 1]? = some (.cells (prCs ((a : Int) * 8 + (k : Int), d)) 90) := by
          have := heap_alloc_new (wr.alloc (.cells #[.int .i64 1, .string d] 34)) (.cells (prCs ((a : Int) * 8 + (k : Int), d)) 90)
          rw [World.size_alloc] at this
          exact this
        have hB2 : Below wr.heap.size wr ((wr.alloc (.cells #[.int .i64 1, .string d] 34)).alloc (.cells (prCs ((a : Int) * 8 + (k : Int), d)) 90)).drew := (((Below.refl _ _).alloc (Nat.le_refl _) _).alloc (by simp) _).drew
        have dd2 : ((wr.alloc (.cells #[.int .i64 1, .string d] 34)).alloc (.cells (prCs ((a : Int) * 8 + (k : Int), d)) 90)).drew.cell? ⟨wr.heap.size, 1, none⟩ = some (.string d) := (cell_of_block ((Below.heap_alloc _ _ _ (by simp)).trans (heap_alloc_new wr _)) 1).trans rfl
        have hcW2 := (hB2.block c hcl).trans hv1
        have hne := own_ne_blk hown2 hcW2 (by decide)
        have hdW2 : ((wr.alloc (.cells #[.int .i64 1, .string d] 34)).alloc (.cells (prCs ((a : Int) * 8 + (k : Int), d)) 90)).drew.heap[wr.heap.size]? = some (.cells #[.int .i64 1, .string d] 34) := (Below.heap_alloc _ _ _ (by simp)).trans (heap_alloc_new wr _)
        have hned := own_ne_blk hown2 hdW2 (by decide)
        have hln : (R ++ recsTo a p k).length ≤ 100006 := by rw [List.length_append]; omega
        have hone : ∀ u ∈ (prCs ((a : Int) * 8 + (k : Int), d)).toList, u.oneCell' = true := by
          intro u hu; simp [prCs] at hu; rcases hu with rfl | rfl | rfl <;> rfl
        have hszW2 : ((wr.alloc (.cells #[.int .i64 1, .string d] 34)).alloc (.cells (prCs ((a : Int) * 8 + (k : Int), d)) 90)).drew.heap.size = wr.heap.size + 2 := by simp
        have HB2 := Lib.hid hB2
        clear hB2
        go_wp2_with fail
        have hcW2' : c < ((wr.alloc (.cells #[.int .i64 1, .string d] 34)).alloc (.cells (prCs ((a : Int) * 8 + (k : Int), d)) 90)).drew.heap.size := by rw [hszW2]; omega
        have hne' : some c ≠ v.ownBlock := by rcases hne with h | h <;> first | exact Ne.symm h | (rw [h]; simp)
        go_region_law (first
            | ((rw [if_pos (by rfl)]; go_simp; go_at_call 19; refine (HId.out k hlt _).mono ?_; rintro e w4 ⟨rfl, rfl⟩; dsimp only))
            | ((refine step_append_lies _ (by rfl) _ _ _ (by rfl) B 90 i0 _ 3 40 Try.underlying86 hi hz0 hz1 hz2 rfl (by omega) _ (R ++ recsTo a p k).length _ (by rfl) hown2 ⟨wr.heap.size + 1, 0, none⟩ 1 1 (prCs ((a : Int) * 8 + (k : Int), d)).toList (by rfl) (by rfl) (World.news_of_block hnew) hone (by omega) (by simp only [maxLen]; omega) (by omega) (by rw [hszW2]; omega) (wr.heap.size + 2) hszW2 ?_; intro gg cap w7 hown7 hgrow hat hltg; have hc7 := (hgrow.block c hcW2' hne').trans hcW2; have cc7 := (cell_of_block hc7 0).trans rfl; have ff7 : w7.frozen? ⟨c, 0, none⟩ = false := by simp [World.frozen?, hc7])))
        all_goals
          have hfin := list_step hBc hv2 hv1 (w0 := w0) HL.out.low (by omega) HB2.out hown2 hcW2 hgrow hown7 hc7 hcW2' (by rw [hszW2]; omega)
          rw [List.length_append] at hfin
          obtain ⟨F1, F2, F3⟩ := hfin
          have HF1 := Lib.hid F1
          have HF2 := Lib.hid F2
          have HF3 := Lib.hid F3
          have hz7 := hgrow.size
          rw [hszW2] at hz7
          have hz9 : (w7.setCell ⟨c, 0, none⟩ (.slice (some ⟨gg, 0, none⟩) (R.length + (recsTo a p k).length + 1) cap)).heap.size = w7.heap.size := by simp
          clear F1 F2 F3 hgrow hown7 hown2 hc7 hcW2 cc7 ff7 cc1 cc2 dd1 dd2 hnew hne hne' hdW2 hned hv2 B1
          generalize w7.setCell ⟨c, 0, none⟩ (.slice (some ⟨gg, 0, none⟩) (R.length + (recsTo a p k).length + 1) cap) = W9 at *
          go_wp2_with fail
          go_roundw
          case rel =>
            refine ⟨k + 1, by omega, by go_num, ⟨HF1.out, ?_⟩, by omega, fun q cs hq => HF3.out q cs (HPg.out q cs hq)⟩
            rw [HS.out, ← List.append_assoc, prRow_snoc]
            obtain ⟨v9, g1, g2⟩ := HF2.out
            exact ⟨v9, g1, by rw [List.length_append, List.length_append]; exact g2⟩
          case measure => simp [intOf]; omega
      · rw [if_neg h1, List.append_nil] at hsucc
        have e1 : (x == 1) = false := by simp [h1]
        have HS := Lib.hid hsucc
        clear hsucc hx hd
        go_wp2_with fail
        go_roundw
        case rel => exact ⟨k + 1, by omega, by go_num, by rw [HS.out]; exact HL.out.below ((Below.refl _ _).alloc (Nat.le_refl _) _) (by omega), by simp; omega, fun q cs hq => (Below.heap_alloc _ _ _ (Array.getElem?_eq_some_iff.1 (HPg.out q cs hq)).1).trans (HPg.out q cs hq)⟩
        case measure => simp [intOf]; omega
    · have hk6 : k = 6 := by omega
      subst hk6
      go_wp2_with fail
      go_ret
      exact ⟨rfl, HL.out, hz, HPg.out⟩
end Go.Proofs.Ythehglhbgplfhaa
