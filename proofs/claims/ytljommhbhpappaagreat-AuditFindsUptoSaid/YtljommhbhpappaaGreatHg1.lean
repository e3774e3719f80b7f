/-
  Layer 15 (heap), for any chain of pages: a page's first place; the visit that looks for one.
-/
import Derived.Test.YtljommhbhpappaaGreatPkUndo
import Derived.Test.YtljommhbhpappaaGreatPkSpaceB
import Derived.OneCell
namespace Go.Proofs.YtljommhbhpappaaGreat
open Go.RowKit Go.Joins
set_option linter.unusedVariables false
set_option linter.unusedSimpArgs false

/-- a slice of integers that came in: its elements -/
def RowOk (w : World) (a : Option Addr) (len : Nat) (zs : List Int) : Prop :=
  len ≤ 9223372036854775807 ∧ (len = 0 ∨ ∃ b off, a = some ⟨b, off, none⟩ ∧ b < w.heap.size ∧ ∀ i, i < len → w.cell? ⟨b, off + i, none⟩ = some (.int .i64 (zs.getD i 0)))
theorem RowOk.below {w w' : World} {a : Option Addr} {len : Nat} {zs : List Int} (h : RowOk w a len zs) (hb : Below w.heap.size w w') : RowOk w' a len zs := by
  refine ⟨h.1, ?_⟩
  rcases h.2 with h0 | ⟨b, off, rfl, h1, h2⟩
  · exact .inl h0
  · exact .inr ⟨b, off, rfl, Nat.lt_of_lt_of_le h1 hb.size, fun i hi => (hb.cell (p := ⟨b, off + i, none⟩) h1).trans (h2 i hi)⟩
set_option maxHeartbeats 1000000 in
theorem id_any (a b : Int) (w : World) (h0 : 0 ≤ a) (h1 : a < 1024) (h2 : 0 ≤ b) (h3 : b < 8) :
    Calls Tryz.prog 45 #[.int .i64 a, .int .i64 b] w fun e w' => e = .returned (.int .i64 (a * 8 + b)) ∧ w = w' := by
  go_enter Tryz.func45, Tryz.ntmps45
  go_wp2_with fail
  go_ret
  exact ⟨rfl, rfl⟩
/-- is a number among the first of a row? -/
def inRow (zs : List Int) (len : Nat) (x : Int) : Bool := (List.range len).any fun i => decide (zs.getD i 0 = x)
theorem inRow_iff (zs : List Int) (len : Nat) (x : Int) : inRow zs len x = true ↔ ∃ i, i < len ∧ zs.getD i 0 = x := by
  simp only [inRow, List.any_eq_true, List.mem_range, decide_eq_true_eq]
set_option maxHeartbeats 2000000 in
set_option maxRecDepth 100000 in
theorem index_any (vp : Option Addr) (len cap : Nat) (zs : List Int) (x : Int) (w : World) (hR : RowOk w vp len zs) :
    Calls Tryz.prog 96 #[.slice vp len cap, .int .i64 x] w fun e w' => ∃ r : Int, e = .returned (.int .i64 r) ∧ decide (0 ≤ r) = inRow zs len x ∧ w = w' := by
  have hl := hR.1
  go_enter Tryz.func96, Tryz.ntmps96
  go_wp2_with fail
  go_loopw [8] (fun i wr => ∃ k : Nat, k ≤ len ∧ i = .int .i64 k ∧ wr = w ∧ ∀ j, j < k → zs.getD j 0 ≠ x) (fun i _ => len - (intOf i).toNat)
  case atStart =>
    refine ⟨0, by omega, ?_, ?_, ?_⟩
    all_goals first | trivial | rfl | (intro j hj; omega)
  case round =>
    obtain ⟨k, hk, rfl, rfl, hno⟩ := hrel
    by_cases hlt : k < len
    · obtain ⟨b, off, hv, hb, hrow⟩ := hR.2.resolve_left (by omega)
      subst hv
      have hc := hrow k hlt
      obtain ⟨y, hy⟩ : ∃ y, zs.getD k 0 = y := ⟨_, rfl⟩
      rw [hy] at hc
      by_cases he : x = y
      · have hin : decide ((0 : Int) ≤ (k : Int)) = inRow zs len x := by
          rw [(inRow_iff zs len x).2 ⟨k, hlt, hy.trans he.symm⟩]
          simp
        subst he
        have HIn := Lib.hid hin
        clear hno hrow hin hy
        go_wp2
        go_ret
        exact ⟨_, rfl, HIn.out, rfl⟩
      · have e1 : (x == y) = false := by simp [he]
        have hno2 : Hid (∀ j, j < k + 1 → zs.getD j 0 ≠ x) := Lib.hid fun j hj => by
          by_cases hjk : j = k
          · subst hjk; rw [hy]; exact fun h => he h.symm
          · exact hno j (by omega)
        have e2 : decide (x = y) = false := by simp [he]
        clear hno hrow hy
        go_wp2
        go_roundw
        case rel => exact ⟨k + 1, by omega, by go_num, by first | rfl | trivial, hno2.out⟩
        case measure => simp [intOf]; omega
    · have hke : k = len := by omega
      subst hke
      have hin : decide ((0 : Int) ≤ (-1 : Int)) = inRow zs k x := by
        cases h : inRow zs k x with
        | false => rfl
        | true =>
          obtain ⟨j, hj, e⟩ := (inRow_iff zs k x).1 h
          exact absurd e (hno j hj)
      have HIn := Lib.hid hin
      clear hno hin
      go_wp2
      go_ret
      exact ⟨_, rfl, HIn.out, rfl⟩
theorem contains_any (vp : Option Addr) (len cap : Nat) (zs : List Int) (x : Int) (w : World) (hR : RowOk w vp len zs) :
    Calls Tryz.prog 69 #[.slice vp len cap, .int .i64 x] w fun e w' => e = .returned (.bool (inRow zs len x)) ∧ w = w' := by
  have HC := Lib.hid (index_any vp len cap zs x w hR)
  clear hR
  go_enter Tryz.func69, Tryz.ntmps69
  go_wp2_with fail
  refine HC.out.mono ?_; rintro e w1 ⟨r, rfl, hr, rfl⟩
  have HrH := Lib.hid hr
  clear hr
  go_wp2_with fail
  go_ret
  exact ⟨congrArg (fun z : Bool => Ending.returned (.bool z)) HrH.out, rfl⟩
/-- may a record be put into a cell? -/
def freeAt (zs : List Int) (len : Nat) (id : Int) (p : Pg) (i : Nat) : Bool := !decide (p.a i = 1) && !inRow zs len (id * 8 + (i : Int))
/-- the first place of a page, or -1 -/
def placeI (zs : List Int) (len : Nat) (id : Int) (p : Pg) : Int := match (List.range 6).find? (freeAt zs len id p) with | some i => (i : Int) | none => -1
theorem placeI_at {zs : List Int} {len : Nat} {id : Int} {p : Pg} (i : Nat) (hi : i < 6) (hf : freeAt zs len id p i = true) (hno : ∀ j, j < i → freeAt zs len id p j = false) : placeI zs len id p = (i : Int) := by
  have h : (List.range 6).find? (freeAt zs len id p) = some i := by
    rw [List.find?_eq_some_iff_append]
    refine ⟨hf, List.range i, (List.range' (i + 1) (5 - i)), ?_, fun j hj => by simpa using hno j (by simpa using hj)⟩
    have h6 : i = 0 ∨ i = 1 ∨ i = 2 ∨ i = 3 ∨ i = 4 ∨ i = 5 := by omega
    rcases h6 with rfl | rfl | rfl | rfl | rfl | rfl <;> rfl
  rw [placeI, h]
theorem placeI_none {zs : List Int} {len : Nat} {id : Int} {p : Pg} (hno : ∀ j, j < 6 → freeAt zs len id p j = false) : placeI zs len id p = -1 := by
  have h : (List.range 6).find? (freeAt zs len id p) = none := by
    rw [List.find?_eq_none]
    intro j hj
    simpa using hno j (by simpa using hj)
  rw [placeI, h]
theorem placeI_cases (zs : List Int) (len : Nat) (id : Int) (p : Pg) : (placeI zs len id p = -1 ∧ ∀ j, j < 6 → freeAt zs len id p j = false) ∨ ∃ i : Nat, i < 6 ∧ placeI zs len id p = (i : Int) ∧ freeAt zs len id p i = true ∧ ∀ j, j < i → freeAt zs len id p j = false := by
  cases h : (List.range 6).find? (freeAt zs len id p) with
  | none =>
    rw [List.find?_eq_none] at h
    exact .inl ⟨placeI_none fun j hj => by simpa using h j (by simpa using hj), fun j hj => by simpa using h j (by simpa using hj)⟩
  | some i =>
    have h1 : freeAt zs len id p i = true := by simpa using List.find?_some h
    have h2 : i < 6 := by simpa using List.mem_of_find?_eq_some h
    refine .inr ⟨i, h2, by rw [placeI, h], h1, fun j hj => ?_⟩
    cases hq : freeAt zs len id p j with
    | false => rfl
    | true =>
      rw [List.find?_eq_some_iff_append] at h
      obtain ⟨-, xs, ys, e, hno⟩ := h
      have hj2 : j ∈ xs := by
        have hlen : xs.length = i := by
          have h3 : (List.range 6)[xs.length]? = some i := by rw [e]; simp
          rw [List.getElem?_range (by
            by_cases hh : xs.length < 6
            · exact hh
            · rw [List.getElem?_eq_none (by simp; omega)] at h3; cases h3)] at h3
          exact Option.some.inj h3
        have h4 : (List.range 6)[j]? = some j := List.getElem?_range (by omega)
        rw [e, List.getElem?_append_left (by omega)] at h4
        exact List.mem_of_getElem? h4
      have := hno j hj2
      rw [hq] at this; cases this
set_option maxHeartbeats 4000000 in
set_option maxRecDepth 100000 in
theorem place_any (id : Int) (p : Pg) (vp : Option Addr) (len cap : Nat) (zs : List Int) (w : World) (h0 : 0 ≤ id) (h1 : id < 1024) (hR : RowOk w vp len zs) :
    Calls Tryz.prog 43 #[.int .i64 id, p.v, .slice vp len cap] w fun e w' => e = .returned (.int .i64 (placeI zs len id p)) ∧ Below w.heap.size w w' := by
  have HI := Lib.hid (fun (b : Int) (w' : World) (h2 : 0 ≤ b) (h3 : b < 8) => id_any id b w' h0 h1 h2 h3)
  have HC := Lib.hid (fun (x : Int) (w' : World) (h : RowOk w' vp len zs) => contains_any vp len cap zs x w' h)
  have HR := Lib.hid hR
  clear hR
  go_enter Tryz.func43, Tryz.ntmps43
  go_wp2_with fail
  go_loopw [11] (fun i wr => ∃ k : Nat, k ≤ 6 ∧ i = .int .i64 k ∧ (∀ j, j < k → freeAt zs len id p j = false) ∧ Below w.heap.size w wr) (fun i _ => 6 - (intOf i).toNat)
  case atStart => exact ⟨0, by omega, rfl, fun j hj => by omega, (Below.refl _ _).alloc (Nat.le_refl _) _⟩
  case round =>
    obtain ⟨k, hk, rfl, hno, hb⟩ := hrel
    have hsz := hb.size
    have HNo := Lib.hid hno
    have HB := Lib.hid hb
    clear hno hb
    by_cases hlt : k < 6
    · have hidx := index6 p k hlt
      obtain ⟨a, ha⟩ : ∃ a, p.a k = a := ⟨_, rfl⟩
      obtain ⟨d, hd⟩ : ∃ d, p.d k = d := ⟨_, rfl⟩
      rw [ha, hd] at hidx
      by_cases h1 : a = 1
      · have hf : Hid (freeAt zs len id p k = false) := Lib.hid (by rw [freeAt, ha, h1]; simp)
        subst h1
        clear ha hd
        go_wp2
        go_roundw
        case rel => exact ⟨k + 1, by omega, by go_num, fun j hj => by
          by_cases e : j = k
          · subst e; exact hf.out
          · exact HNo.out j (by omega), HB.out.alloc hsz _⟩
        case measure => simp [intOf]; omega
      · have e1 : (a == 1) = false := by simp [h1]
        have e2 : decide (a = 1) = false := by simp [h1]
        have hk2 : (k : Int) < 8 := by omega
        have hk3 : (0 : Int) ≤ (k : Int) := by omega
        have K1 : Hid (freeAt zs len id p k = !inRow zs len (id * 8 + (k : Int))) := Lib.hid (by rw [freeAt, ha]; simp [h1])
        cases hq : inRow zs len (id * 8 + (k : Int)) with
        | true =>
          rw [hq] at K1
          have HQ := Lib.hid hq
          clear ha hd hq
          go_wp2_with fail
          refine (HI.out _ _ hk3 hk2).mono ?_; rintro e w1 ⟨rfl, rfl⟩
          go_wp2_with fail
          refine (HC.out _ _ (HR.out.below ((HB.out.alloc hsz _).mono (Nat.le_refl _)))).mono ?_; rintro e w1 ⟨rfl, rfl⟩
          rw [HQ.out]
          go_wp2_with fail
          go_roundw
          case rel => exact ⟨k + 1, by omega, by go_num, fun j hj => by
            by_cases e : j = k
            · subst e; exact K1.out
            · exact HNo.out j (by omega), HB.out.alloc hsz _⟩
          case measure => simp [intOf]; omega
        | false =>
          rw [hq] at K1
          have HQ := Lib.hid hq
          clear ha hd hq
          go_wp2_with fail
          refine (HI.out _ _ hk3 hk2).mono ?_; rintro e w1 ⟨rfl, rfl⟩
          go_wp2_with fail
          refine (HC.out _ _ (HR.out.below ((HB.out.alloc hsz _).mono (Nat.le_refl _)))).mono ?_; rintro e w1 ⟨rfl, rfl⟩
          rw [HQ.out]
          go_wp2_with fail
          go_ret
          exact ⟨congrArg (fun z : Int => Ending.returned (.int .i64 z)) (placeI_at k hlt K1.out HNo.out).symm, HB.out.alloc hsz _⟩
    · have hk6 : k = 6 := by omega
      subst hk6
      go_wp2
      go_ret
      exact ⟨congrArg (fun z : Int => Ending.returned (.int .i64 z)) (placeI_none HNo.out).symm, HB.out⟩
/-- some blocks are written, new ones are laid, all else is as it was -/
structure Poked (cs : List Nat) (w w' : World) : Prop where
  os : w'.os = w.os
  tape : w'.tape = w.tape
  output : w'.output = w.output
  size : w.heap.size ≤ w'.heap.size
  block : ∀ q, q < w.heap.size → q ∉ cs → w'.heap[q]? = w.heap[q]?
theorem Poked.of_below {cs : List Nat} {w w' : World} (h : Below w.heap.size w w') : Poked cs w w' := ⟨h.os, h.tape, h.output, h.size, fun q hq _ => h.block q hq⟩
theorem Poked.trans {cs : List Nat} {w w' w2 : World} (h : Poked cs w w') (k : Poked cs w' w2) : Poked cs w w2 :=
  ⟨k.os.trans h.os, k.tape.trans h.tape, k.output.trans h.output, Nat.le_trans h.size k.size, fun q hq hc => (k.block q (Nat.lt_of_lt_of_le hq h.size) hc).trans (h.block q hq hc)⟩
theorem Poked.keep {cs : List Nat} {w w' : World} (h : Poked cs w w') {P : Nat → Prop} (hd : ∀ k, P k → k < w.heap.size) (hc : ∀ q ∈ cs, ¬ P q) : Keep P w w' :=
  ⟨h.os, h.tape, h.output, h.size, fun k hk => h.block k (hd k hk) fun hm => hc k hm hk⟩
theorem Lay.poked {P : Nat → Prop} {w0 w w' : World} {b hb : Nat} {S : Vol} {cs : List Nat} (L : Lay P w0 w b hb S) (h : Poked cs w w') (hc : ∀ q ∈ cs, P q) : Lay P w' w' b hb S := by
  obtain ⟨h1, h2, mb, pb, h3, h4⟩ := L
  obtain ⟨q1, q2, q3, q4⟩ := h3.lt
  obtain ⟨t1, ⟨es', c', t2, t3⟩, ⟨t4, t5, t6⟩, t7⟩ := h3
  have hb1 : b ∉ cs := fun hm => h4.1 (hc _ hm)
  have hb2 : mb ∉ cs := fun hm => h4.2.1 (hc _ hm)
  have hb3 : hb ∉ cs := fun hm => h4.2.2.1 (hc _ hm)
  have hb4 : pb ∉ cs := fun hm => h4.2.2.2 (hc _ hm)
  exact ⟨Keep.refl _ _, fun k hk => Nat.lt_of_lt_of_le (h2 k hk) (Nat.le_trans h1.size h.size), mb, pb, ⟨(h.block b q1 hb1).trans t1, ⟨es', c', (h.block mb q2 hb2).trans t2, t3⟩, ⟨(h.block hb q3 hb3).trans t4, (h.block pb q4 hb4).trans t5, t6⟩, t7⟩, h4⟩
theorem Lay.weak {P Q : Nat → Prop} {w0 w1 w : World} {b hb : Nat} {S : Vol} (L : Lay Q w1 w b hb S) (hK : Keep P w0 w) (hd : ∀ k, P k → k < w0.heap.size) (hPQ : ∀ k, P k → Q k) : Lay P w0 w b hb S := by
  obtain ⟨h1, h2, mb, pb, h3, h4⟩ := L
  exact ⟨hK, hd, mb, pb, h3, fun h => h4.1 (hPQ _ h), fun h => h4.2.1 (hPQ _ h), fun h => h4.2.2.1 (hPQ _ h), fun h => h4.2.2.2 (hPQ _ h)⟩
theorem blk_ne {w : World} {a b : Nat} {ca cb : Array Value} {ta tb : TypeId} (ha : w.heap[a]? = some (.cells ca ta)) (hb : w.heap[b]? = some (.cells cb tb)) (ht : ta ≠ tb) : a ≠ b := by
  rintro rfl
  rw [ha] at hb
  simp only [Option.some.injEq, Obj.cells.injEq] at hb
  exact ht hb.2.1
theorem heap_setCell_far (W : World) (a : Addr) (v : Value) (k : Nat) (h : a.block ≠ k) : (W.setCell a v).heap[k]? = W.heap[k]? := by
  simp only [World.setCell, Array.getElem?_modify, h, if_false]
theorem heap_setRow_far (W : World) (n k : Nat) (c : Array Value) (h : n ≠ k) : (W.setRow n c).heap[k]? = W.heap[k]? := by
  simp only [World.setRow, Array.getElem?_modify, h, if_false]
theorem Poked.setCell {cs : List Nat} {w w' : World} (h : Poked cs w w') (a : Addr) (v : Value) (ha : a.block ∈ cs) : Poked cs w (w'.setCell a v) :=
  ⟨h.os, h.tape, h.output, by simpa [World.setCell] using h.size, fun q hq hc => (heap_setCell_far w' a v q (fun e => hc (by rw [← e]; exact ha))).trans (h.block q hq hc)⟩
theorem Poked.setRow {cs : List Nat} {w w' : World} (h : Poked cs w w') (n : Nat) (c : Array Value) (ha : n ∈ cs) : Poked cs w (w'.setRow n c) :=
  ⟨h.os, h.tape, h.output, by simpa [World.setRow] using h.size, fun q hq hc => (heap_setRow_far w' n q c (fun e => hc (by rw [← e]; exact ha))).trans (h.block q hq hc)⟩
@[go_sem] theorem run_buildUn (w : World) (k a s st : Int) (d : ByteArray) : (buildUn #[(0, .int .i64 k), (2, .int .i64 a), (3, .int .i64 s), (5, .agg #[.int .i64 st, .string d])]).run Tryz.prog w = .ok (Un.v { kind := k, page := a, slot := s, st := st, d := d }) w := by kernel_rfl
set_option maxHeartbeats 4000000 in
set_option maxRecDepth 100000 in
theorem visit_ins (id : Int) (p : Pg) (c7 c11 c12 c13 : Nat) (vp : Option Addr) (len cap : Nat) (zs : List Int) (w : World) (h0 : 0 ≤ id) (h1 : id < 1024) (hR : RowOk w vp len zs)
    (k7 : w.heap[c7]? = some (.cells #[.slice vp len cap] 45)) (x11 x12 : Value) (q13 : Pg) (k11 : w.heap[c11]? = some (.cells #[x11] 3)) (k12 : w.heap[c12]? = some (.cells #[x12] 3)) (k13 : w.heap[c13]? = some (.cells q13.cs 38)) (hne : c11 ≠ c12) :
    Calls Tryz.prog 42 #[.int .i64 id, p.v, .pointer (some ⟨c7, 0, none⟩), .pointer (some ⟨c11, 0, none⟩), .pointer (some ⟨c12, 0, none⟩), .pointer (some ⟨c13, 0, none⟩)] w fun e w' =>
      e = .returned (.bool (decide (0 ≤ placeI zs len id p))) ∧ Poked [c11, c12, c13] w w' ∧ w'.heap[c11]? = some (.cells #[.int .i64 id] 3) ∧ w'.heap[c12]? = some (.cells #[.int .i64 (placeI zs len id p)] 3) ∧ w'.heap[c13]? = some (.cells p.cs 38) := by
  have HC := Lib.hid (fun (w' : World) (h : RowOk w' vp len zs) => place_any id p vp len cap zs w' h0 h1 h)
  go_enter Tryz.func42, Tryz.ntmps42
  have l7 := (Array.getElem?_eq_some_iff.1 k7).1
  have l11 := (Array.getElem?_eq_some_iff.1 k11).1
  have l12 := (Array.getElem?_eq_some_iff.1 k12).1
  have l13 := (Array.getElem?_eq_some_iff.1 k13).1
  have B0 : Below w.heap.size w (w.alloc (.cells p.cs 38)).drew := ((Below.refl _ _).alloc (Nat.le_refl _) _).drew
  have mkS : ∀ W, Below w.heap.size w W → rowAt W w.heap.size = some p.cs →
      W.cell? ⟨c7, 0, none⟩ = some (.slice vp len cap) ∧ (loadPg (.pointer (some ⟨w.heap.size, 0, none⟩))).run Tryz.prog W = .ok p.v W ∧ W.cell? ⟨c11, 0, none⟩ = some x11 ∧ W.frozen? ⟨c11, 0, none⟩ = false ∧ W.cell? ⟨c12, 0, none⟩ = some x12 ∧ W.frozen? ⟨c12, 0, none⟩ = false ∧ rowAt W c13 = some q13.cs := by
    intro W hW hr
    have t7 := (hW.block c7 l7).trans k7
    have t11 := (hW.block c11 l11).trans k11
    have t12 := (hW.block c12 l12).trans k12
    have t13 := (hW.block c13 l13).trans k13
    exact ⟨(cell_of_block t7 0).trans rfl, by rw [run_loadPg W _ (by rw [hr]; rfl), hr]; rfl, (cell_of_block t11 0).trans rfl, by simp [World.frozen?, t11], (cell_of_block t12 0).trans rfl, by simp [World.frozen?, t12], rowAt_of t13⟩
  have R0 : rowAt (w.alloc (.cells p.cs 38)).drew w.heap.size = some p.cs := rowAt_at w _ _ _ rfl
  have S0 := mkS _ B0 R0
  have HM := Lib.hid mkS
  have HR0 := Lib.hid (hR.below B0)
  clear mkS
  go_wp2_with fail
  have n1 : c11 ≠ c7 := blk_ne k11 k7 (by decide)
  have n2 : c12 ≠ c7 := blk_ne k12 k7 (by decide)
  have n3 : c13 ≠ c7 := blk_ne k13 k7 (by decide)
  have n4 : c11 ≠ c13 := blk_ne k11 k13 (by decide)
  have n5 : c12 ≠ c13 := blk_ne k12 k13 (by decide)
  have hS : ∀ (W : World) (a : Addr) (x : Value), a.block ≠ c7 → a.block ≠ w.heap.size → (W.cell? ⟨c7, 0, none⟩ = some (.slice vp len cap) ∧ rowAt W w.heap.size = some p.cs) → ((W.setCell a x).cell? ⟨c7, 0, none⟩ = some (.slice vp len cap) ∧ rowAt (W.setCell a x) w.heap.size = some p.cs) := fun W a x h1 h2 h =>
    ⟨(World.cell?_setCell_other _ _ _ _ (fun e => h1 (congrArg Addr.block e))).trans h.1, (rowAt_setCell_far _ _ _ _ h2).trans h.2⟩
  have hS2 : ∀ (W : World) (x : Array Value), (W.cell? ⟨c7, 0, none⟩ = some (.slice vp len cap) ∧ rowAt W w.heap.size = some p.cs) → ((W.setRow c13 x).cell? ⟨c7, 0, none⟩ = some (.slice vp len cap) ∧ rowAt (W.setRow c13 x) w.heap.size = some p.cs) := fun W x h =>
    ⟨(cell?_setRow_far _ _ _ _ n3).trans h.1, (rowAt_setRow_far _ _ _ _ (by omega)).trans h.2⟩
  have U0 := And.intro S0.1 R0
  have hF : ∀ W, Below w.heap.size w W → (((W.setCell ⟨c11, 0, none⟩ (.int .i64 id)).setCell ⟨c12, 0, none⟩ (.int .i64 (placeI zs len id p))).setRow c13 p.cs).cell? ⟨c12, 0, none⟩ = some (.int .i64 (placeI zs len id p)) ∧
      Poked [c11, c12, c13] w (((W.setCell ⟨c11, 0, none⟩ (.int .i64 id)).setCell ⟨c12, 0, none⟩ (.int .i64 (placeI zs len id p))).setRow c13 p.cs) ∧
      (((W.setCell ⟨c11, 0, none⟩ (.int .i64 id)).setCell ⟨c12, 0, none⟩ (.int .i64 (placeI zs len id p))).setRow c13 p.cs).heap[c11]? = some (.cells #[.int .i64 id] 3) ∧
      (((W.setCell ⟨c11, 0, none⟩ (.int .i64 id)).setCell ⟨c12, 0, none⟩ (.int .i64 (placeI zs len id p))).setRow c13 p.cs).heap[c12]? = some (.cells #[.int .i64 (placeI zs len id p)] 3) ∧
      (((W.setCell ⟨c11, 0, none⟩ (.int .i64 id)).setCell ⟨c12, 0, none⟩ (.int .i64 (placeI zs len id p))).setRow c13 p.cs).heap[c13]? = some (.cells p.cs 38) := by
    intro W hW
    have t11 := (hW.block c11 l11).trans k11
    have t12 := (hW.block c12 l12).trans k12
    have t13 := (hW.block c13 l13).trans k13
    have g11 : (((W.setCell ⟨c11, 0, none⟩ (.int .i64 id)).setCell ⟨c12, 0, none⟩ (.int .i64 (placeI zs len id p))).setRow c13 p.cs).heap[c11]? = some (.cells #[.int .i64 id] 3) :=
      (heap_setRow_far _ _ _ _ (Ne.symm n4)).trans ((heap_setCell_far _ _ _ _ (Ne.symm hne)).trans (setCell_block t11 0 _))
    have g12 : (((W.setCell ⟨c11, 0, none⟩ (.int .i64 id)).setCell ⟨c12, 0, none⟩ (.int .i64 (placeI zs len id p))).setRow c13 p.cs).heap[c12]? = some (.cells #[.int .i64 (placeI zs len id p)] 3) :=
      (heap_setRow_far _ _ _ _ (Ne.symm n5)).trans (setCell_block ((heap_setCell_far _ _ _ _ hne).trans t12) 0 _)
    have g13 : (((W.setCell ⟨c11, 0, none⟩ (.int .i64 id)).setCell ⟨c12, 0, none⟩ (.int .i64 (placeI zs len id p))).setRow c13 p.cs).heap[c13]? = some (.cells p.cs 38) :=
      setRow_heap _ _ _ _ _ _ ((heap_setCell_far _ _ _ _ n5).trans ((heap_setCell_far _ _ _ _ n4).trans t13))
    exact ⟨(cell_of_block g12 0).trans rfl, (((Poked.of_below hW).setCell _ _ (by simp)).setCell _ _ (by simp)).setRow _ _ (by simp), g11, g12, g13⟩
  have HF := Lib.hid hF
  clear hF
  have HS1 := Lib.hid hS
  have HS2 := Lib.hid hS2
  clear hS hS2
  go_region_held3 (fun W => W.cell? ⟨c7, 0, none⟩ = some (.slice vp len cap) ∧ rowAt W w.heap.size = some p.cs)
    (first
      | exact U0
      | exact U1
      | exact HS1.out _ _ _ n1 (by simp; omega) U1
      | exact HS1.out _ _ _ n2 (by simp; omega) (HS1.out _ _ _ n1 (by simp; omega) U1)
      | exact HS2.out _ _ (HS1.out _ _ _ n2 (by simp; omega) (HS1.out _ _ _ n1 (by simp; omega) U1)))
    (first
      | ((go_at_call 43; refine (HC.out _ HR0.out).mono ?_; rintro e w1 ⟨rfl, hb1⟩; have B1 : Below w.heap.size w w1 := B0.trans (hb1.mono (by simp)); have R1 : rowAt w1 w.heap.size = some p.cs := (rowAt_below hb1 (by simp)).trans R0; have S1 := HM.out _ B1 R1; obtain ⟨s1, s2, s3, s4, s5, s6, s7⟩ := S1; have U1 := And.intro s1 R1; have R13 := (rowAt_setCell_far (w1.setCell ⟨c11, 0, none⟩ (.int .i64 id)) ⟨c12, 0, none⟩ (.int .i64 (placeI zs len id p)) c13 n5).trans ((rowAt_setCell_far w1 ⟨c11, 0, none⟩ (.int .i64 id) c13 n4).trans s7))))
  all_goals
    obtain ⟨f1, f2, f3, f4, f5⟩ := HF.out _ B1
    clear B0 hb1 B1 R1 U1 R13 s1 s2 s3 s4 s5 s6 s7 S0 R0 U0
    generalize ((w1.setCell ⟨c11, 0, none⟩ (.int .i64 id)).setCell ⟨c12, 0, none⟩ (.int .i64 (placeI zs len id p))).setRow c13 p.cs = W at *
    go_wp2
    go_ret
    exact ⟨rfl, f2, f3, f4, f5⟩
end Go.Proofs.YtljommhbhpappaaGreat
