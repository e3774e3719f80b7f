/-
  Layer 22 (audit): rows beside a look; a leaf more; cells copied.
-/
import Derived.Test.YtljommhbhpappaaAu3
import Derived.Test.YtljommhbhpappaaPkUndo
namespace Go.Proofs.Ytljommhbhpappaa
open Go.RowKit Go.Joins
set_option linter.unusedVariables false
set_option linter.unusedSimpArgs false

theorem AuAt.kept {B : Nat} {w w' : World} {lb q b mb hb pb : Nat} {S : Vol} {seen : List (Int × Int)} {lvs : List Int} (h : AuAt B w lb q b mb hb pb S seen lvs) (hk : AuK B lb q w w') {n : Nat} {c : Array Value} {t : TypeId} (hn : w.heap[n]? = some (.cells c t)) (h1 : t ≠ 3) (h2 : t ≠ 130) : w'.heap[n]? = some (.cells c t) := by
  obtain ⟨g1, g2, g3, ⟨es, cl, g4, -⟩, lv, g5, g6⟩ := h
  refine (hk.row hn h1 (fun e => ?_)).resolve_right (fun e => ?_)
  · rw [e, g5] at hn; cases hn; exact h2 rfl
  · rw [e, g4] at hn; cases hn
theorem AuAt.keptRow {B : Nat} {w w' : World} {lb q b mb hb pb : Nat} {S : Vol} {seen : List (Int × Int)} {lvs : List Int} (h : AuAt B w lb q b mb hb pb S seen lvs) (hk : AuK B lb q w w') {n : Nat} {c : Array Value} {t : TypeId} (hn : w.heap[n]? = some (.cells c t)) (h1 : t ≠ 3) (h2 : t ≠ 130) : rowAt w' n = some c :=
  rowAt_of (h.kept hk hn h1 h2)
theorem AuAt.own {B : Nat} {w w' : World} {lb q b mb hb pb : Nat} {S : Vol} {seen : List (Int × Int)} {lvs : List Int} (h : AuAt B w lb q b mb hb pb S seen lvs) (hk : AuK B lb q w w') {base s n : Nat} {e : TypeId} {v : Value} {xs : List Value} (ho : w.ownsRow base e s v n xs) (h1 : e ≠ 3) (h2 : e ≠ 130) : w'.ownsRow base e s v n xs := by
  refine ⟨ho.1, ?_⟩
  rcases ho.2 with ⟨e1, e2⟩ | ⟨g, cap, cur, e1, e2, e3, e4⟩
  · exact .inl ⟨e1, e2⟩
  · exact .inr ⟨g, cap, cur, e1, e2, h.kept hk e3 h1 h2, e4⟩
/-- a leaf more -/
theorem AuAt.leaf {B : Nat} {w w3 : World} {lb q b mb hb pb : Nat} {S : Vol} {seen : List (Int × Int)} {lvs lvs' : List Int} (h : AuAt B w lb q b mb hb pb S seen lvs) {lv lv' : Value} (hlv : w.heap[lb]? = some (.cells #[.pointer (some ⟨b, 0, none⟩), .map (some q), lv] 130)) (hown : w.ownsRow B 3 1 lv lvs.length (intRow lvs))
    (hg : w.grownBy w3 lv.ownBlock) (hown' : w3.ownsRow B 3 1 lv' lvs'.length (intRow lvs')) : AuAt B (w3.setCell ⟨lb, 2, none⟩ lv') lb q b mb hb pb S seen lvs' ∧ AuK B lb q w (w3.setCell ⟨lb, 2, none⟩ lv') := by
  have hl := h.lt
  obtain ⟨g1, g2, g3, g4, -⟩ := h
  have hob : ∀ k, lv.ownBlock = some k → B ≤ k ∧ ∃ c, w.heap[k]? = some (.cells c 3) := fun k hk => by
    rcases hown.2 with ⟨e1, e2⟩ | ⟨g, cap, cur, e1, e2, e3, e4⟩
    · rw [e1] at hk; cases hk
    · rw [e1] at hk; cases hk; exact ⟨e2, cur, e3⟩
  have hs : ∀ k, k < w.heap.size → NotInt w k → w3.heap[k]? = w.heap[k]? := fun k hk hn => hg.block k hk (fun e => by
    obtain ⟨-, c, hc⟩ := hob k e.symm
    exact hn c hc)
  have hlow : ∀ k, k < B → w3.heap[k]? = w.heap[k]? := fun k hk => hg.block k (by omega) (fun e => by have := (hob k e.symm).1; omega)
  have hlb3 : w3.heap[lb]? = some (.cells #[.pointer (some ⟨b, 0, none⟩), .map (some q), lv] 130) := (hs lb hl.1 (fun c hc => by rw [hlv] at hc; cases hc)).trans hlv
  have hlt3 := (Array.getElem?_eq_some_iff.1 hlb3).1
  have hset : ∀ k, k ≠ lb → (w3.setCell ⟨lb, 2, none⟩ lv').heap[k]? = w3.heap[k]? := fun k hk => Below.heap_setCell _ _ _ _ hk
  have hB : Below B w (w3.setCell ⟨lb, 2, none⟩ lv') := ⟨hg.os, hg.tape, hg.output, by rw [World.size_setCell]; exact hg.size, fun k hk => (hset k (by omega)).trans (hlow k hk)⟩
  refine ⟨⟨g1.below hB g2, g2, ⟨g3.1, g3.2.1, Nat.le_trans g3.2.2 (by rw [World.size_setCell]; exact hg.size)⟩, ?_, lv', ?_, ?_⟩, ⟨hB.os, hB.tape, hB.output, hB.size, hB.block, fun k hk h1 h2 h3 => (hset k h1).trans (hs k hk h3)⟩⟩
  · obtain ⟨es, cl, h7, h8⟩ := g4
    exact ⟨es, cl, (hset q hl.2.2.symm).trans ((hs q hl.2.1 (fun c hc => by rw [h7] at hc; cases hc)).trans h7), h8⟩
  · have := setCell_block hlb3 2 lv'
    simpa using this
  · refine ⟨hown'.1, ?_⟩
    rcases hown'.2 with ⟨e1, e2⟩ | ⟨g, cap, cur, e1, e2, e3, e4⟩
    · exact .inl ⟨e1, e2⟩
    · refine .inr ⟨g, cap, cur, e1, e2, (hset g (fun e => ?_)).trans e3, e4⟩
      rw [e, hlb3] at e3; cases e3

theorem infoInt22 : (Try.prog.info? 3).map (fun i => (i.zero, i.size, i.bytes)) = some (some (.int .i64 0), 1, 8) := by kernel_rfl
theorem infoCell22 : (Try.prog.info? 84).map (fun i => (i.zero, i.size, i.bytes)) = some (some (.agg #[.int .i64 0, .string ⟨#[]⟩]), 2, 24) := by kernel_rfl
@[go_sem] theorem run_some_cells (a : Addr) (l c : Nat) (w : World) : (binOp .eql 169 (.slice (some a) l c) (.slice none 0 0)).run Try.prog w = .ok (.bool false) w := by kernel_rfl
/-- the cells of a node, one behind the other -/
def cellVals (L : List NC) : List Value := L.flatMap fun c => [.int .i64 c.st, .string c.d]
theorem cellVals_len (L : List NC) : (cellVals L).length = L.length * 2 := by
  induction L with
  | nil => rfl
  | cons c r ih => simp only [cellVals, List.flatMap_cons, List.length_append, List.length_cons, List.length_nil] at ih ⊢; omega
theorem cellVals_get : ∀ (L : List NC) (i : Nat) (h : i < L.length), (cellVals L)[i * 2]? = some (.int .i64 L[i].st) ∧ (cellVals L)[i * 2 + 1]? = some (.string L[i].d)
  | c :: r, 0, h => ⟨rfl, rfl⟩
  | c :: r, i + 1, h => by
    have := cellVals_get r i (by simpa using h)
    have e1 : (i + 1) * 2 = i * 2 + 1 + 1 := by omega
    rw [e1]
    exact this
theorem cellVals_one (L : List NC) : ∀ u ∈ cellVals L, u.oneCell' = true := by
  intro u hu
  obtain ⟨c, -, hc⟩ := List.mem_flatMap.1 hu
  rcases List.mem_cons.1 hc with rfl | hc
  · rfl
  · obtain rfl : u = .string c.d := by simpa using hc
    simp [Value.oneCell']
theorem nd_vals {lv st nx : Int} {L : List NC} (h6 : L.length ≤ 6) {w : World} {n : Nat} (hr : rowAt w n = some (ndPg lv st nx L).cs) : ∀ (j : Nat) (u : Value), (cellVals L)[j]? = some u → w.cell? ⟨n, 4 + j, none⟩ = some u := by
  intro j u hj
  have hl : j < (cellVals L).length := (List.getElem?_eq_some_iff.1 hj).1
  rw [cellVals_len] at hl
  have hi : j / 2 < L.length := by omega
  have hi6 : j / 2 < 6 := by omega
  have hg := cellVals_get L (j / 2) hi
  rcases Nat.mod_two_eq_zero_or_one j with e | e
  · have ej : j = j / 2 * 2 := by omega
    rw [ej] at hj ⊢
    rw [hg.1] at hj
    cases hj
    have := (cell_row hr (4 + j / 2 * 2)).trans (cs_a _ _ hi6)
    rw [nd_a _ _ _ _ _ hi6, stL_get hi] at this
    exact this
  · have ej : j = j / 2 * 2 + 1 := by omega
    rw [ej] at hj ⊢
    rw [hg.2] at hj
    cases hj
    have := (cell_row hr (4 + j / 2 * 2 + 1)).trans (cs_d _ _ hi6)
    rw [nd_d _ _ _ _ _ hi6, dL_get hi] at this
    exact this
set_option maxHeartbeats 2000000 in
set_option maxRecDepth 100000 in
theorem cclone_any (g off n cap : Nat) (vals : List Value) (hn : n ≤ 6) (hl : vals.length = n * 2) (h1 : ∀ u ∈ vals, u.oneCell' = true) (w : World) (hg : g < w.heap.size) (h : ∀ (j : Nat) (u : Value), vals[j]? = some u → w.cell? ⟨g, off + j, none⟩ = some u) :
    Calls Try.prog 114 #[.slice (some ⟨g, off, none⟩) n cap] w fun e w' => ∃ v, e = .returned v ∧ w'.ownsRow w.heap.size 84 2 v n vals ∧ Below w.heap.size w w' := by
  obtain ⟨i0, hi, hz0, hz1, hz2⟩ := info_parts infoCell22
  have HN := Lib.hid (show ∀ (j : Nat) (u : Value), vals[j]? = some u → (w.alloc (.cells #[] 84)).cell? ((⟨g, off, none⟩ : Addr).add j) = some u from fun j u hj => by
    rw [Addr.add_lit]
    exact (((Below.refl w.heap.size w).alloc (Nat.le_refl _) _).cell (p := ⟨g, off + j, none⟩) hg).trans (h j u hj))
  have B0 : Hid (Below w.heap.size w (w.alloc (.cells #[] 84))) := Lib.hid ((Below.refl _ _).alloc (Nat.le_refl _) _)
  have HL := Lib.hid hl
  have H1 := Lib.hid h1
  clear h hl h1
  go_enter Try.func114, Try.ntmps114
  go_wp2_with (at_builtin; refine wpList_append_own _ rfl _ _ 169 rfl w.heap.size 84 i0 _ 2 24 Try.underlying169 hi hz0 hz1 hz2 rfl (by decide) _ 0 [] rfl (World.ownsRow_made w #[] 0 (Nat.le_refl _) (by simp [maxLen]) rfl) ⟨g, off, none⟩ n cap vals rfl HL.out HN.out H1.out ?c3 ?c4 ?c5 ?_)
  case c3 => simp only [maxLen]; omega
  case c4 => omega
  case c5 => first | omega | (simp; omega) | simp
  intro v' w5 hown' hgrow _
  have hb5 : Below w.heap.size w w5 := B0.out.grown hgrow (by simp) (fun q hq => by simp [Value.ownBlock] at hq; omega)
  go_wp2_with fail
  go_ret
  exact ⟨v', rfl, by simpa using hown', hb5⟩
end Go.Proofs.Ytljommhbhpappaa
