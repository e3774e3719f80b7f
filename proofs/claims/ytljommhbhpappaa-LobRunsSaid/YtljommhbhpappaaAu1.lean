/-
  Layer 22 (audit): what a look keeps in memory; a page that nobody has had yet.
-/
import Derived.Test.YtljommhbhpappaaPkTree
namespace Go.Proofs.Ytljommhbhpappaa
open Go.RowKit Go.Joins
set_option linter.unusedVariables false
set_option linter.unusedSimpArgs false

def seenM (seen : List (Int × Int)) : List (Int × Value) := seen.map fun x => (x.1, .int .i64 x.2)
def intRow (l : List Int) : List Value := l.map (Value.int .i64)
theorem zeroInt22 (w : World) : (zeroValue 3).run Try.prog w = .ok (.int .i64 0) w := by kernel_rfl
theorem findI_seen (seen : List (Int × Int)) (id : Int) (i : Nat) : (findI id (seenM seen) i = none ↔ ¬ id ∈ seen.map (·.1)) := by
  induction seen generalizing i with
  | nil => simp [seenM, findI]
  | cons x r ih =>
    simp only [seenM, List.map_cons, findI, List.mem_cons] at ih ⊢
    by_cases h : id = x.1
    · simp [h]
    · rw [if_neg h, ih]
      simp [h]
theorem lookup_new {w : World} {q : Nat} {seen : List (Int × Int)} (h : IntMap w q (seenM seen)) {id : Int} (hf : ¬ id ∈ seen.map (·.1)) :
    (Instr.lookup 128 (.map (some q)) (.int .i64 id) true).run Try.prog w = .ok (.tuple #[.int .i64 0, .bool false]) w := by
  rw [run_lookup_int Try.underlying128 Try.underlying3 _ q _ id _ (zeroInt22 _) h, (findI_seen seen id 0).2 hf]
theorem lookup_had {w : World} {q : Nat} {seen : List (Int × Int)} (h : IntMap w q (seenM seen)) {id : Int} (hf : id ∈ seen.map (·.1)) :
    ∃ v, (Instr.lookup 128 (.map (some q)) (.int .i64 id) true).run Try.prog w = .ok (.tuple #[.int .i64 v, .bool true]) w := by
  rw [run_lookup_int Try.underlying128 Try.underlying3 _ q _ id _ (zeroInt22 _) h]
  cases he : findI id (seenM seen) 0 with
  | none => exact absurd hf ((findI_seen seen id 0).1 he)
  | some x =>
    obtain ⟨-, -, h3, -⟩ := findI_lt he
    unfold seenM at h3
    rw [List.getElem?_map] at h3
    cases hx : seen[x.1 - 0]? with
    | none => rw [hx] at h3; cases h3
    | some y =>
      rw [hx] at h3
      simp only [Option.map_some, Option.some.injEq, Prod.mk.injEq] at h3
      exact ⟨y.2, by show Result.ok (Value.tuple #[x.2, Value.bool true]) w = _; rw [← h3.2]⟩
theorem updI_seen {seen : List (Int × Int)} {id st : Int} (hf : ¬ id ∈ seen.map (·.1)) : updI id (.int .i64 st) (seenM seen) = seenM (seen ++ [(id, st)]) := by
  rw [updI_none ((findI_seen seen id 0).2 hf)]
  simp [seenM]

/-- blocks that are no row of integers -/
def NotInt (w : World) (k : Nat) : Prop := ∀ c, w.heap[k]? ≠ some (.cells c 3)
/-- what a look changes: its own block, its map, its row of leaves -/
structure AuK (B lb q : Nat) (w w' : World) : Prop where
  os : w'.os = w.os
  tape : w'.tape = w.tape
  output : w'.output = w.output
  size : w.heap.size ≤ w'.heap.size
  low : ∀ k, k < B → w'.heap[k]? = w.heap[k]?
  blk : ∀ k, k < w.heap.size → k ≠ lb → k ≠ q → NotInt w k → w'.heap[k]? = w.heap[k]?
theorem AuK.refl (B lb q : Nat) (w : World) : AuK B lb q w w := ⟨rfl, rfl, rfl, Nat.le_refl _, fun _ _ => rfl, fun _ _ _ _ _ => rfl⟩
theorem AuK.trans {B lb q : Nat} {w w1 w2 : World} (h : AuK B lb q w w1) (k : AuK B lb q w1 w2) : AuK B lb q w w2 :=
  ⟨k.os.trans h.os, k.tape.trans h.tape, k.output.trans h.output, Nat.le_trans h.size k.size, fun i hi => (k.low i hi).trans (h.low i hi), fun i hi h1 h2 h3 => by
    have e := h.blk i hi h1 h2 h3
    refine (k.blk i (Nat.lt_of_lt_of_le hi h.size) h1 h2 (fun c hc => h3 c (e.symm.trans hc))).trans e⟩
theorem AuK.of_below {B lb q : Nat} {w w' : World} (h : Below w.heap.size w w') (hB : B ≤ w.heap.size) : AuK B lb q w w' := ⟨h.os, h.tape, h.output, h.size, fun k hk => h.block k (by omega), fun k hk _ _ _ => h.block k hk⟩
theorem AuK.below {B lb q : Nat} {w w' : World} (h : AuK B lb q w w') : Below B w w' := ⟨h.os, h.tape, h.output, h.size, fun k hk => h.low k hk⟩
theorem AuK.row {B lb q n : Nat} {w w' : World} (h : AuK B lb q w w') {c : Array Value} {t : TypeId} (hn : w.heap[n]? = some (.cells c t)) (ht : t ≠ 3) (h1 : n ≠ lb) : w'.heap[n]? = some (.cells c t) ∨ n = q := by
  by_cases e : n = q
  · exact .inr e
  · exact .inl ((h.blk n (Array.getElem?_eq_some_iff.1 hn).1 h1 e (fun c' hc => by rw [hn] at hc; cases hc; exact ht rfl)).trans hn)

/-- a look in memory: the stage that it looks at, whose each page is, the leaves -/
structure AuAt (B : Nat) (w : World) (lb q b mb hb pb : Nat) (S : Vol) (seen : List (Int × Int)) (lvs : List Int) : Prop where
  st : StageAt w b mb hb pb S
  slt : b < B ∧ mb < B ∧ hb < B ∧ pb < B
  lo : B ≤ lb ∧ B ≤ q ∧ B ≤ w.heap.size
  map : IntMap w q (seenM seen)
  blk : ∃ lv, w.heap[lb]? = some (.cells #[.pointer (some ⟨b, 0, none⟩), .map (some q), lv] 130) ∧ w.ownsRow B 3 1 lv lvs.length (intRow lvs)
theorem IntMap.lt {w : World} {q : Nat} {M : List (Int × Value)} (h : IntMap w q M) : q < w.heap.size := by
  obtain ⟨es, c, h1, -⟩ := h
  exact (Array.getElem?_eq_some_iff.1 h1).1
theorem IntMap.below {w w' : World} {q : Nat} {M : List (Int × Value)} (h : IntMap w q M) (hb : Below w.heap.size w w') : IntMap w' q M := by
  obtain ⟨es, c, h1, h2⟩ := h
  exact ⟨es, c, (hb.block q (Array.getElem?_eq_some_iff.1 h1).1).trans h1, h2⟩
theorem own_low22 {w w' : World} {base n : Nat} {e : TypeId} {v : Value} {xs : List Value} {s : Nat} (h : w.ownsRow base e s v n xs) (hb : Below w.heap.size w w') : w'.ownsRow base e s v n xs := h.kept (row := none) ⟨hb.os, hb.tape, hb.output, hb.size, fun i hi _ => hb.block i hi⟩ (by cases v.ownBlock <;> simp)
theorem AuAt.step {B : Nat} {w w' : World} {lb q b mb hb pb : Nat} {S : Vol} {seen : List (Int × Int)} {lvs : List Int} (h : AuAt B w lb q b mb hb pb S seen lvs) (hb' : Below w.heap.size w w') : AuAt B w' lb q b mb hb pb S seen lvs := by
  obtain ⟨h1, h2, h3, h4, lv, h5, h6⟩ := h
  exact ⟨h1.below hb' h1.lt, h2, ⟨h3.1, h3.2.1, Nat.le_trans h3.2.2 hb'.size⟩, h4.below hb', lv, (hb'.block lb (Array.getElem?_eq_some_iff.1 h5).1).trans h5, own_low22 h6 hb'⟩
theorem AuAt.lt {B : Nat} {w : World} {lb q b mb hb pb : Nat} {S : Vol} {seen : List (Int × Int)} {lvs : List Int} (h : AuAt B w lb q b mb hb pb S seen lvs) : lb < w.heap.size ∧ q < w.heap.size ∧ lb ≠ q := by
  obtain ⟨h1, h2, h3, h4, lv, h5, h6⟩ := h
  refine ⟨(Array.getElem?_eq_some_iff.1 h5).1, h4.lt, fun e => ?_⟩
  obtain ⟨es, c, h7, -⟩ := h4
  rw [e, h7] at h5; cases h5
theorem AuAt.cells {B : Nat} {w : World} {lb q b mb hb pb : Nat} {S : Vol} {seen : List (Int × Int)} {lvs : List Int} (h : AuAt B w lb q b mb hb pb S seen lvs) : w.cell? ⟨lb, 0, none⟩ = some (.pointer (some ⟨b, 0, none⟩)) ∧ w.cell? ⟨lb, 1, none⟩ = some (.map (some q)) := by
  obtain ⟨h1, h2, h3, h4, lv, h5, h6⟩ := h
  exact ⟨(cell_of_block h5 0).trans rfl, (cell_of_block h5 1).trans rfl⟩
/-- a page more that is somebody's -/
theorem AuAt.seen {B : Nat} {w : World} {lb q b mb hb pb : Nat} {S : Vol} {seen seen' : List (Int × Int)} {lvs : List Int} (h : AuAt B w lb q b mb hb pb S seen lvs) {o : Obj} (hm : IntMap (ChangeMaps.setBlock w q o) q (seenM seen')) : AuAt B (ChangeMaps.setBlock w q o) lb q b mb hb pb S seen' lvs ∧ AuK B lb q w (ChangeMaps.setBlock w q o) := by
  have hl := h.lt
  obtain ⟨h1, h2, h3, h4, lv, h5, h6⟩ := h
  have hsame : ∀ k, k ≠ q → (ChangeMaps.setBlock w q o).heap[k]? = w.heap[k]? := fun k hk => by
    simp [ChangeMaps.setBlock, Array.getElem?_setIfInBounds, Ne.symm hk]
  have hsz : (ChangeMaps.setBlock w q o).heap.size = w.heap.size := by simp [ChangeMaps.setBlock]
  have hB : Below B w (ChangeMaps.setBlock w q o) := ⟨rfl, rfl, rfl, by omega, fun k hk => hsame k (by omega)⟩
  have hg : w.grownBy (ChangeMaps.setBlock w q o) (some q) := ⟨rfl, rfl, rfl, by omega, fun k hk hne => hsame k (fun e => hne (by rw [e]))⟩
  refine ⟨⟨h1.below hB h2, h2, ⟨h3.1, h3.2.1, by omega⟩, hm, lv, (hsame lb hl.2.2).trans h5, h6.kept (row := some q) hg ?_⟩, ⟨rfl, rfl, rfl, by omega, fun k hk => hsame k (by omega), fun k hk _ h2 _ => hsame k h2⟩⟩
  · obtain ⟨es, c, h7, -⟩ := h4
    rcases h6.2 with ⟨e, -⟩ | ⟨g, cap, cur, rfl, hb', hg', -⟩
    · rw [e]; simp [Value.ownBlock]
    · right
      intro e
      have e2 : g = q := by simpa [Value.ownBlock, eq_comm] using e
      rw [e2, h7] at hg'; cases hg'
theorem AuK.past {B lb q : Nat} {w w1 w2 : World} (h : AuK B lb q w w1) (hb : Below w.heap.size w1 w2) (hB : B ≤ w.heap.size) : AuK B lb q w w2 :=
  ⟨hb.os.trans h.os, hb.tape.trans h.tape, hb.output.trans h.output, Nat.le_trans h.size hb.size, fun k hk => (hb.block k (by omega)).trans (h.low k hk), fun k hk h1 h2 h3 => (hb.block k hk).trans (h.blk k hk h1 h2 h3)⟩
/-- a page of one's own, or a cell, is stored -/
theorem AuAt.poke {B : Nat} {w w' : World} {lb q b mb hb pb : Nat} {S : Vol} {seen : List (Int × Int)} {lvs : List Int} (h : AuAt B w lb q b mb hb pb S seen lvs) {n : Nat} {c : Array Value} {t : TypeId} (hn : w.heap[n]? = some (.cells c t)) (h1 : t ≠ 3) (h2 : t ≠ 130) (hB : B ≤ n) (hg : w.grownBy w' (some n)) : AuAt B w' lb q b mb hb pb S seen lvs := by
  have hl := h.lt
  obtain ⟨g1, g2, g3, g4, lv, g5, g6⟩ := h
  have e1 : lb ≠ n := fun e => by rw [e, hn] at g5; cases g5; exact h2 rfl
  have e2 : q ≠ n := fun e => by
    obtain ⟨es, cl, h7, -⟩ := g4
    rw [e, hn] at h7; cases h7
  have hBl : Below B w w' := ⟨hg.os, hg.tape, hg.output, hg.size, fun k hk => hg.block k (by omega) (fun e => by cases e; omega)⟩
  have hs : ∀ k, k < w.heap.size → k ≠ n → w'.heap[k]? = w.heap[k]? := fun k hk hne => hg.block k hk (fun e => hne (by cases e; rfl))
  refine ⟨g1.below hBl g2, g2, ⟨g3.1, g3.2.1, Nat.le_trans g3.2.2 hg.size⟩, ?_, lv, (hs lb hl.1 e1).trans g5, g6.kept (row := some n) hg ?_⟩
  · obtain ⟨es, cl, h7, h8⟩ := g4
    exact ⟨es, cl, (hs q hl.2.1 e2).trans h7, h8⟩
  · rcases g6.2 with ⟨e, -⟩ | ⟨g, cap, cur, rfl, hb', hg', -⟩
    · rw [e]; simp [Value.ownBlock]
    · right
      intro e
      have e3 : g = n := by simpa [Value.ownBlock, eq_comm] using e
      rw [e3, hn] at hg'; cases hg'; exact h1 rfl
theorem grown_setRow22 (w : World) (n : Nat) (c : Array Value) : w.grownBy (w.setRow n c) (some n) :=
  ⟨rfl, rfl, rfl, by simp [World.setRow], fun i hi hne => setRow_other w n i c (by intro e; subst e; exact hne rfl)⟩
end Go.Proofs.Ytljommhbhpappaa
