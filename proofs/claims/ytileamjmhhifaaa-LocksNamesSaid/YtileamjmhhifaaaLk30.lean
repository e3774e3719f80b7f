/-
  Layer 9 (locks): two tables beside one another, and blocks of the law's own.
-/
import Derived.Test.YtileamjmhhifaaaLp5
import Derived.Test.YtileamjmhhifaaaLk25
namespace Go.Proofs.Ytileamjmhhifaaa
open Go.RowKit Go.Joins Go.Sort Go.Shelf
set_option linter.unusedVariables false
set_option linter.unusedSimpArgs false

/-- what Ask answers, and what it makes of the table -/
def badA (m : Int) : Prop := m ≤ 0 ∨ 6 < m
instance (m : Int) : Decidable (badA m) := by unfold badA; infer_instance
def askR (S : LS) (x : Int) (n : Nm) (m : Int) : Bool × Int := if badA m then (false, 1) else if S.wt x = true then (false, 211) else ((askQ (S.q n) x m S.turn).2.1, 0)
def askT (S : LS) (x : Int) (n : Nm) (m : Int) : LS := if badA m then S else if S.wt x = true then S else askS S x n m
theorem la_res {w0 w : World} {t : Nat} {O : Nat → Prop} {S : LS} {N : Nat} (h : LA w0 w t O S N) (hN : N ≤ 1000) (x m : Int) (n : Nm) : Calls Try.prog 11 #[.pointer (some ⟨t, 0, none⟩), .int .i64 x, .agg #[.int .i64 n.s, .string n.i], .int .i64 m] w fun e w' => e = .returned (.tuple #[.bool (askR S x n m).1, .int .i64 (askR S x n m).2]) ∧ ∃ O', LA w0 w' t O' (askT S x n m) (N + 1) ∧ Kept O O' w w' := by
  have hkb : ∀ {w' : World}, Below w.heap.size w w' → Kept O O w w' := fun hb => ⟨.of_below hb, fun i hi => .inl hi⟩
  by_cases hm : badA m
  · have e1 : askR S x n m = (false, 1) := if_pos hm
    have e2 : askT S x n m = S := if_pos hm
    rw [e1, e2]
    refine (ask_bad t x m n w hm).mono ?_
    rintro e w' ⟨rfl, hb⟩
    exact ⟨rfl, O, ⟨(h.below hb).lt.mono (by omega), (h.below hb).low⟩, hkb hb⟩
  · cases hx : S.wt x with
    | true =>
      have e1 : askR S x n m = (false, 211) := by unfold askR; rw [if_neg hm, if_pos hx]
      have e2 : askT S x n m = S := by unfold askT; rw [if_neg hm, if_pos hx]
      rw [e1, e2]
      unfold badA at hm
      refine (lt_busy h.lt x m n (by omega) (by omega) hx).mono ?_
      rintro e w' ⟨rfl, hb⟩
      exact ⟨rfl, O, ⟨(h.below hb).lt.mono (by omega), (h.below hb).low⟩, hkb hb⟩
    | false =>
      have hx2 : ¬ S.wt x = true := by rw [hx]; exact Bool.noConfusion
      have e1 : askR S x n m = ((askQ (S.q n) x m S.turn).2.1, 0) := by unfold askR; rw [if_neg hm, if_neg hx2]
      have e2 : askT S x n m = askS S x n m := by unfold askT; rw [if_neg hm, if_neg hx2]
      rw [e1, e2]
      unfold badA at hm
      exact la_ask h hN x m n (by omega) (by omega) hx
theorem NR.askO {mine : Int → Prop} {n : Nm} {A C : LS} (h : NR mine n A C) {x m : Int} {k : Nm} (hk : k ≠ n) (hx : ¬ mine x) : NR mine n (askT A x k m) C := by
  unfold askT
  split
  · exact h
  · rename_i hm
    split
    · exact h
    · rename_i hw
      refine h.other hk hx (by simpa using hw) ?_
      unfold badA at hm
      exact ⟨by omega, by omega⟩
theorem NR.askB {mine : Int → Prop} {n : Nm} {A C : LS} (h : NR mine n A C) {x m : Int} (hx : mine x) : NR mine n (askT A x n m) (askT C x n m) ∧ askR A x n m = askR C x n m := by
  have hw := h.waits hx
  unfold askT askR
  by_cases hm : badA m
  · rw [if_pos hm, if_pos hm, if_pos hm, if_pos hm]; exact ⟨h, rfl⟩
  · rw [if_neg hm, if_neg hm, if_neg hm, if_neg hm, ← hw]
    cases ha : A.wt x with
    | true => rw [if_pos rfl, if_pos rfl, if_pos rfl, if_pos rfl]; exact ⟨h, rfl⟩
    | false =>
      have hne : ¬ false = true := Bool.noConfusion
      rw [if_neg hne, if_neg hne, if_neg hne, if_neg hne]
      unfold badA at hm
      obtain ⟨h1, h2⟩ := h.both (m := m) ha (by rw [← hw]; exact ha) ⟨by omega, by omega⟩
      exact ⟨h1, by rw [h2]⟩

/-- two tables and some blocks -/
def ST (w0 w : World) (tA tB : Nat) (SA SB : LS) (N : Nat) (G : List (Nat × Obj)) : Prop :=
  ∃ OA OB, LA w0 w tA OA SA N ∧ LA w0 w tB OB SB N ∧ (∀ i, OA i → ¬ OB i) ∧ ∀ g ∈ G, w.heap[g.1]? = some g.2 ∧ ¬ OA g.1 ∧ ¬ OB g.1
section
variable {w0 w w' : World} {tA tB : Nat} {SA SB : LS} {N : Nat} {G : List (Nat × Obj)}
theorem ST.low (h : ST w0 w tA tB SA SB N G) : Below w0.heap.size w0 w := by obtain ⟨OA, OB, h1, -⟩ := h; exact h1.low
theorem ST.blk (h : ST w0 w tA tB SA SB N G) {g : Nat × Obj} (hg : g ∈ G) : w.heap[g.1]? = some g.2 := by obtain ⟨OA, OB, -, -, -, h1⟩ := h; exact (h1 g hg).1
theorem ST.mono (h : ST w0 w tA tB SA SB N G) {N' : Nat} (hN : N ≤ N') : ST w0 w tA tB SA SB N' G := by
  obtain ⟨OA, OB, h1, h2, h3, h4⟩ := h
  exact ⟨OA, OB, ⟨h1.lt.mono hN, h1.low⟩, ⟨h2.lt.mono hN, h2.low⟩, h3, h4⟩
theorem ST.sub (h : ST w0 w tA tB SA SB N G) {G' : List (Nat × Obj)} (hG : ∀ g ∈ G', g ∈ G) : ST w0 w tA tB SA SB N G' := by
  obtain ⟨OA, OB, h1, h2, h3, h4⟩ := h
  exact ⟨OA, OB, h1, h2, h3, fun g hg => h4 g (hG g hg)⟩
theorem ST.below (h : ST w0 w tA tB SA SB N G) (hb : Below w.heap.size w w') : ST w0 w' tA tB SA SB N G := by
  obtain ⟨OA, OB, h1, h2, h3, h4⟩ := h
  refine ⟨OA, OB, h1.below hb, h2.below hb, h3, fun g hg => ?_⟩
  obtain ⟨k1, k2, k3⟩ := h4 g hg
  exact ⟨(hb.block _ (Array.getElem?_eq_some_iff.1 k1).1).trans k1, k2, k3⟩
theorem ST.alloc (h : ST w0 w tA tB SA SB N G) (o : Obj) : ST w0 (w.alloc o) tA tB SA SB N ((w.heap.size, o) :: G) := by
  obtain ⟨OA, OB, h1, h2, h3, h4⟩ := h
  refine ⟨OA, OB, h1.alloc o, h2.alloc o, h3, fun g hg => ?_⟩
  rcases List.mem_cons.1 hg with rfl | hg
  · exact ⟨heap_alloc_new w o, fun hi => absurd (h1.lt.lt hi).2 (Nat.lt_irrefl _), fun hi => absurd (h2.lt.lt hi).2 (Nat.lt_irrefl _)⟩
  · obtain ⟨k1, k2, k3⟩ := h4 g hg
    exact ⟨(((Below.refl _ w).alloc (Nat.le_refl _) o).block _ (Array.getElem?_eq_some_iff.1 k1).1).trans k1, k2, k3⟩
theorem ST.keptA {OA OB : Nat → Prop} (h1 : LA w0 w tA OA SA N) (h2 : LA w0 w tB OB SB N) (h3 : ∀ i, OA i → ¬ OB i) (h4 : ∀ g ∈ G, w.heap[g.1]? = some g.2 ∧ ¬ OA g.1 ∧ ¬ OB g.1) {OA' : Nat → Prop} {SA' : LS} {N' : Nat} (hN : N ≤ N') (ha : LA w0 w' tA OA' SA' N') (hk : Kept OA OA' w w') : ST w0 w' tA tB SA' SB N' G := by
  refine ⟨OA', OB, ha, ⟨(h2.lt.keep fun i hi => hk.block (h2.lt.lt hi).2 fun hi2 => h3 i hi2 hi).mono hN, ha.low⟩, fun i hi hi2 => ?_, fun g hg => ?_⟩
  · rcases hk.2 i hi with h | h
    · exact h3 i h hi2
    · have := (h2.lt.lt hi2).2; omega
  · obtain ⟨k1, k2, k3⟩ := h4 g hg
    have hl := (Array.getElem?_eq_some_iff.1 k1).1
    exact ⟨(hk.block hl k2).trans k1, hk.not hl k2, k3⟩
theorem ST.swap (h : ST w0 w tA tB SA SB N G) : ST w0 w tB tA SB SA N G := by
  obtain ⟨OA, OB, h1, h2, h3, h4⟩ := h
  exact ⟨OB, OA, h2, h1, fun i hi hj => h3 i hj hi, fun g hg => ⟨(h4 g hg).1, (h4 g hg).2.2, (h4 g hg).2.1⟩⟩
theorem ST.ask (h : ST w0 w tA tB SA SB N G) (hN : N ≤ 1000) (x m : Int) (n : Nm) : Calls Try.prog 11 #[.pointer (some ⟨tA, 0, none⟩), .int .i64 x, .agg #[.int .i64 n.s, .string n.i], .int .i64 m] w fun e w' => e = .returned (.tuple #[.bool (askR SA x n m).1, .int .i64 (askR SA x n m).2]) ∧ ST w0 w' tA tB (askT SA x n m) SB (N + 1) G := by
  obtain ⟨OA, OB, h1, h2, h3, h4⟩ := h
  refine (la_res h1 hN x m n).mono ?_
  rintro e w' ⟨rfl, O', k1, k2⟩
  exact ⟨rfl, ST.keptA h1 h2 h3 h4 (Nat.le_succ _) k1 k2⟩
theorem ST.release (h : ST w0 w tA tB SA SB N G) (hN : N ≤ 1000) (x : Int) : Calls Try.prog 12 #[.pointer (some ⟨tA, 0, none⟩), .int .i64 x] w fun e w' => e = .returned (.tuple #[]) ∧ ∃ SA', RelS x SA SA' ∧ ST w0 w' tA tB SA' SB N G := by
  obtain ⟨OA, OB, h1, h2, h3, h4⟩ := h
  refine (la_release h1 hN x).mono ?_
  rintro e w' ⟨rfl, S', O', k0, k1, k2⟩
  exact ⟨rfl, S', k0, ST.keptA h1 h2 h3 h4 (Nat.le_refl _) k1 k2⟩
theorem ST.modeG (h : ST w0 w tA tB SA SB N G) (x : Int) (n : Nm) : Calls Try.prog 13 #[.pointer (some ⟨tA, 0, none⟩), .int .i64 x, .agg #[.int .i64 n.s, .string n.i]] w fun e w' => e = .returned (.int .i64 (modeL x (SA.q n).H)) ∧ Gr w w' := by
  obtain ⟨OA, OB, h1, h2, h3, h4⟩ := h
  exact lt_modeG h1.lt x n
theorem ST.waitingG (h : ST w0 w tA tB SA SB N G) (x : Int) : Calls Try.prog 14 #[.pointer (some ⟨tA, 0, none⟩), .int .i64 x] w fun e w' => e = .returned (.bool (SA.wt x)) ∧ Gr w w' := by
  obtain ⟨OA, OB, h1, h2, h3, h4⟩ := h
  exact lt_waitingG h1.lt x
/-- a block of the law's own is set -/
theorem ST.poke (h : ST w0 w tA tB SA SB N G) {b : Nat} {o : Obj} (hb : (b, o) ∈ G) (hlo : w0.heap.size ≤ b) (o' : Obj) {G' : List (Nat × Obj)} (hG : ∀ g ∈ G', g ∈ G ∧ g.1 ≠ b) : ST w0 (ChangeMaps.setBlock w b o') tA tB SA SB N ((b, o') :: G') := by
  obtain ⟨OA, OB, h1, h2, h3, h4⟩ := h
  obtain ⟨k1, k2, k3⟩ := h4 _ hb
  have hl := (Array.getElem?_eq_some_iff.1 k1).1
  have hfar : ∀ i, i ≠ b → (ChangeMaps.setBlock w b o').heap[i]? = w.heap[i]? := fun i hi => by
    simp [ChangeMaps.setBlock, Array.getElem?_setIfInBounds, Ne.symm hi]
  have hsz : (ChangeMaps.setBlock w b o').heap.size = w.heap.size := by simp [ChangeMaps.setBlock]
  have hlow : Below w0.heap.size w0 (ChangeMaps.setBlock w b o') := ⟨h1.low.os, h1.low.tape, h1.low.output, by rw [hsz]; exact h1.low.size, fun i hi => (hfar i (by omega)).trans (h1.low.block i hi)⟩
  refine ⟨OA, OB, ⟨h1.lt.keep fun i hi => hfar i fun e => k2 (e ▸ hi), hlow⟩, ⟨h2.lt.keep fun i hi => hfar i fun e => k3 (e ▸ hi), hlow⟩, h3, fun g hg => ?_⟩
  rcases List.mem_cons.1 hg with rfl | hg
  · refine ⟨?_, k2, k3⟩
    show (ChangeMaps.setBlock w b o').heap[b]? = some o'
    have hl2 : b < w.heap.size := hl
    simp [ChangeMaps.setBlock, Array.getElem?_setIfInBounds, hl2]
  · obtain ⟨g1, g2⟩ := hG g hg
    obtain ⟨l1, l2, l3⟩ := h4 g g1
    exact ⟨(hfar _ g2).trans l1, l2, l3⟩
end
/-- two new tables -/
theorem st_new {w0 w : World} (h : Below w0.heap.size w0 w) : Calls Try.prog 10 #[] w fun e w' => ∃ t O, e = .returned (.pointer (some ⟨t, 0, none⟩)) ∧ LA w0 w' t O LS.empty 0 ∧ Below w.heap.size w w' ∧ ∀ i, O i → w.heap.size ≤ i := la_new h
theorem st_new2 {w0 w : World} {tA : Nat} {OA : Nat → Prop} (h : LA w0 w tA OA LS.empty 0) {b : Nat} {o : Obj} (hb : w.heap[b]? = some o) (hO : ¬ OA b) : Calls Try.prog 10 #[] w fun e w' => ∃ tB, e = .returned (.pointer (some ⟨tB, 0, none⟩)) ∧ ST w0 w' tA tB LS.empty LS.empty 0 [(b, o)] := by
  refine (la_new h.low).mono ?_
  rintro e w' ⟨t, O, rfl, h1, h2, h3⟩
  refine ⟨t, rfl, OA, O, h.below h2, h1, fun i hi hi2 => ?_, fun g hg => ?_⟩
  · have := h3 i hi2
    have := (h.lt.lt hi).2
    omega
  · rw [List.mem_singleton.1 hg]
    have hl := (Array.getElem?_eq_some_iff.1 hb).1
    exact ⟨(h2.block b hl).trans hb, hO, fun hi => by have h4 := h3 b hi; omega⟩

/-! ## the map of those that are ours -/
def kvI (k : Int) : Value := .int .i64 k
/-- an object that is a map with these keys, all true -/
def MapO (o : Obj) (M : List (Int × Value)) : Prop := (∀ (W : World) b, W.heap[b]? = some o → KMap (fun k : Int => Value.int .i64 k) W b M) ∧ ∀ y ∈ M, y.2 = .bool true
theorem MapO.nil : MapO (.map #[] 0) [] := ⟨fun W b hb => kmap_nil _ hb, fun y hy => (by cases hy)⟩
theorem run_newT9 (w : World) : (Instr.makeMap 28 none).run Try.prog w = .ok (.map (some w.heap.size)) (w.alloc (.map #[] 0)) := by kernel_rfl
theorem MapO.look {o : Obj} {M : List (Int × Value)} (h : MapO o M) {W : World} {b : Nat} (hb : W.heap[b]? = some o) (x : Int) : (Instr.lookup 28 (.map (some b)) (.int .i64 x) false).run Try.prog W = .ok (.bool (decide (x ∈ keysM M))) W := by
  have := run_lookup1_k (P := Try.prog) Try.underlying28 (keyLaw_int Try.underlying3) (.bool false) b M x W (by kernel_rfl) (h.1 W b hb)
  rw [this]
  by_cases hn : x ∈ keysM M
  · obtain ⟨j, v, h1, h2⟩ := findK_key (i := 0) hn
    rw [h1]
    have := h.2 _ h2
    simp only at this
    simp [this, hn]
  · rw [findK_nokey hn]
    simp [hn]
theorem MapO.put {o : Obj} {M : List (Int × Value)} (h : MapO o M) {W : World} {b : Nat} (hb : W.heap[b]? = some o) (x : Int) : ∃ o', (Instr.mapUpdate 28 (.map (some b)) (.int .i64 x) (.bool true)).run Try.prog W = .ok () (ChangeMaps.setBlock W b o') ∧ MapO o' (updK x (.bool true) M) := by
  obtain ⟨es, clk, hm1, hm2, hm3⟩ := h.1 W b hb
  obtain ⟨od, hod⟩ := run_mapUpdate_k (P := Try.prog) Try.underlying28 (keyLaw_int Try.underlying3) (.bool true) b M x es clk hm2 hm3
  refine ⟨od, (hod W hm1).1, fun W2 b2 hb2 => ?_, fun y hy => ?_⟩
  · have hk := (hod W hm1).2
    have hl := (Array.getElem?_eq_some_iff.1 hb).1
    obtain ⟨es2, clk2, e1, e2, e3⟩ := hk
    have : (ChangeMaps.setBlock W b od).heap[b]? = some od := by simp [ChangeMaps.setBlock, Array.getElem?_setIfInBounds, hl]
    rw [this] at e1
    exact ⟨es2, clk2, by rw [hb2]; exact e1, e2, e3⟩
  · rcases mem_upd hy with rfl | hy
    · rfl
    · exact h.2 y hy
end Go.Proofs.Ytileamjmhhifaaa
