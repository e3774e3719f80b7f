/-
  Layer 15 (heap): an id out of page and cell; is a number in a slice; the first place of a page.
-/
import Derived.Test.YthehglhbgplfhaaHeap1
namespace Go.Proofs.Ythehglhbgplfhaa
open Go.RowKit Go.Joins
set_option linter.unusedVariables false
set_option linter.unusedSimpArgs false

/-- a slice of integers that came in: its elements -/
def RowOk (w : World) (a : Option Addr) (len : Nat) (zs : List Int) : Prop :=
  len ≤ 9223372036854775807 ∧ (len = 0 ∨ ∃ b off, a = some ⟨b, off, none⟩ ∧ b < w.heap.size ∧ ∀ i, i < len → w.cell? ⟨b, off + i, none⟩ = some (.int .i64 (zs.getD i 0)))
theorem rowOk_of {w : World} {a : Option Addr} {len cap : Nat} {zs : List Int} (h : (a = none ∧ len = 0 ∧ cap = 0 ∧ zs = []) ∨
    ∃ x, a = some x ∧ len ≤ cap ∧ cap ≤ maxLen ∧ zs.length = cap ∧ (∀ i, i < zs.length → w.cell? (x.add i) = some (.int .i64 (zs.getD i 0))) ∧ ∀ n ∈ zs, (Lit.int .i64 n).wf = true) : RowOk w a len zs := by
  rcases h with ⟨rfl, rfl, rfl, rfl⟩ | ⟨x, rfl, h1, h2, h3, h4, h5⟩
  · exact ⟨by omega, .inl rfl⟩
  · refine ⟨by simp only [maxLen] at h2; omega, ?_⟩
    by_cases h0 : len = 0
    · exact .inl h0
    · right
      have hc0 := h4 0 (by omega)
      obtain ⟨b, off, spot⟩ := x
      have hspot : spot = none := by simpa [Addr.add] using World.cell?_spot hc0
      subst hspot
      refine ⟨b, off, rfl, World.block_lt_of_cell? w _ (by simpa [Addr.add] using hc0), fun i hi => ?_⟩
      have := h4 i (by omega)
      rwa [Addr.add_lit] at this
theorem RowOk.below {w w' : World} {a : Option Addr} {len : Nat} {zs : List Int} (h : RowOk w a len zs) (hb : Below w.heap.size w w') : RowOk w' a len zs := by
  refine ⟨h.1, ?_⟩
  rcases h.2 with h0 | ⟨b, off, rfl, h1, h2⟩
  · exact .inl h0
  · exact .inr ⟨b, off, rfl, Nat.lt_of_lt_of_le h1 hb.size, fun i hi => (hb.cell (p := ⟨b, off + i, none⟩) h1).trans (h2 i hi)⟩


set_option maxHeartbeats 1000000 in
theorem id_any (a b : Int) (w : World) (h0 : 0 ≤ a) (h1 : a < 1024) (h2 : 0 ≤ b) (h3 : b < 8) :
    Calls Try.prog 19 #[.int .i64 a, .int .i64 b] w fun e w' => e = .returned (.int .i64 (a * 8 + b)) ∧ w = w' := by
  go_enter Try.func19, Try.ntmps19
  go_wp2_with fail
  go_ret
  exact ⟨rfl, rfl⟩

/-- is a number among the first of a row? -/
def inRow (zs : List Int) (len : Nat) (x : Int) : Bool := (List.range len).any fun i => decide (zs.getD i 0 = x)
theorem inRow_iff (zs : List Int) (len : Nat) (x : Int) : inRow zs len x = true ↔ ∃ i, i < len ∧ zs.getD i 0 = x := by
  simp only [inRow, List.any_eq_true, List.mem_range, decide_eq_true_eq]

set_option maxHeartbeats 2000000 in
set_option maxRecDepth 100000 in
theorem index_any (vp : Option Addr) (len cap : Nat) (zs : List Int) (x : Int) (w : World) (hR : RowOk w vp len zs) :
    Calls Try.prog 71 #[.slice vp len cap, .int .i64 x] w fun e w' => ∃ r : Int, e = .returned (.int .i64 r) ∧ decide (0 ≤ r) = inRow zs len x ∧ w = w' := by
  have hl := hR.1
  go_enter Try.func71, Try.ntmps71
  go_wp2_with fail
  go_loopw [8] (fun i wr => ∃ k : Nat, k ≤ len ∧ i = .int .i64 k ∧ wr = w ∧ ∀ j, j < k → zs.getD j 0 ≠ x) (fun i _ => len - (intOf i).toNat)
  case atStart =>
    refine ⟨0, by omega, ?_, ?_, ?_⟩
    all_goals first | trivial | rfl | (intro j hj; omega)
  case round =>
    obtain ⟨k, hk, rfl, rfl, hno⟩ := hrel
    by_cases hlt : k < len
    · obtain ⟨b, off, hv, hb, hrow⟩ := hR.2.resolve_left (by omega)
      subst hv
      have hc := hrow k hlt
      obtain ⟨y, hy⟩ : ∃ y, zs.getD k 0 = y := ⟨_, rfl⟩
      rw [hy] at hc
      by_cases he : x = y
      · have hin : decide ((0 : Int) ≤ (k : Int)) = inRow zs len x := by
          rw [(inRow_iff zs len x).2 ⟨k, hlt, hy.trans he.symm⟩]
          simp
        subst he
        have HIn := Lib.hid hin
        clear hno hrow hin hy
        go_wp2
        go_ret
        exact ⟨_, rfl, HIn.out, rfl⟩
      · have e1 : (x == y) = false := by simp [he]
        have hno2 : Hid (∀ j, j < k + 1 → zs.getD j 0 ≠ x) := Lib.hid fun j hj => by
          by_cases hjk : j = k
          · subst hjk; rw [hy]; exact fun h => he h.symm
          · exact hno j (by omega)
        have e2 : decide (x = y) = false := by simp [he]
        clear hno hrow hy
        go_wp2
        go_roundw
        case rel => exact ⟨k + 1, by omega, by go_num, by first | rfl | trivial, hno2.out⟩
        case measure => simp [intOf]; omega
    · have hke : k = len := by omega
      subst hke
      have hin : decide ((0 : Int) ≤ (-1 : Int)) = inRow zs k x := by
        cases h : inRow zs k x with
        | false => rfl
        | true =>
          obtain ⟨j, hj, e⟩ := (inRow_iff zs k x).1 h
          exact absurd e (hno j hj)
      have HIn := Lib.hid hin
      clear hno hin
      go_wp2
      go_ret
      exact ⟨_, rfl, HIn.out, rfl⟩

theorem contains_any (vp : Option Addr) (len cap : Nat) (zs : List Int) (x : Int) (w : World) (hR : RowOk w vp len zs) :
    Calls Try.prog 63 #[.slice vp len cap, .int .i64 x] w fun e w' => e = .returned (.bool (inRow zs len x)) ∧ w = w' := by
  have HC := Lib.hid (index_any vp len cap zs x w hR)
  clear hR
  go_enter Try.func63, Try.ntmps63
  go_wp2_with fail
  refine HC.out.mono ?_; rintro e w1 ⟨r, rfl, hr, rfl⟩
  have HrH := Lib.hid hr
  clear hr
  go_wp2_with fail
  go_ret
  exact ⟨congrArg (fun z : Bool => Ending.returned (.bool z)) HrH.out, rfl⟩

/-- may a record be put into a cell? -/
def freeAt (zs : List Int) (len : Nat) (id : Int) (p : Pg) (i : Nat) : Bool := !decide (p.a i = 1) && !inRow zs len (id * 8 + (i : Int))
/-- the first place of a page, or -1 -/
def placeI (zs : List Int) (len : Nat) (id : Int) (p : Pg) : Int := match (List.range 6).find? (freeAt zs len id p) with | some i => (i : Int) | none => -1
theorem placeI_at {zs : List Int} {len : Nat} {id : Int} {p : Pg} (i : Nat) (hi : i < 6) (hf : freeAt zs len id p i = true) (hno : ∀ j, j < i → freeAt zs len id p j = false) : placeI zs len id p = (i : Int) := by
  have h : (List.range 6).find? (freeAt zs len id p) = some i := by
    rw [List.find?_eq_some_iff_append]
    refine ⟨hf, List.range i, (List.range' (i + 1) (5 - i)), ?_, fun j hj => by simpa using hno j (by simpa using hj)⟩
    have h6 : i = 0 ∨ i = 1 ∨ i = 2 ∨ i = 3 ∨ i = 4 ∨ i = 5 := by omega
    rcases h6 with rfl | rfl | rfl | rfl | rfl | rfl <;> rfl
  rw [placeI, h]
theorem placeI_none {zs : List Int} {len : Nat} {id : Int} {p : Pg} (hno : ∀ j, j < 6 → freeAt zs len id p j = false) : placeI zs len id p = -1 := by
  have h : (List.range 6).find? (freeAt zs len id p) = none := by
    rw [List.find?_eq_none]
    intro j hj
    simpa using hno j (by simpa using hj)
  rw [placeI, h]
theorem placeI_cases (zs : List Int) (len : Nat) (id : Int) (p : Pg) : (placeI zs len id p = -1 ∧ ∀ j, j < 6 → freeAt zs len id p j = false) ∨ ∃ i : Nat, i < 6 ∧ placeI zs len id p = (i : Int) ∧ freeAt zs len id p i = true ∧ ∀ j, j < i → freeAt zs len id p j = false := by
  cases h : (List.range 6).find? (freeAt zs len id p) with
  | none =>
    rw [List.find?_eq_none] at h
    exact .inl ⟨placeI_none fun j hj => by simpa using h j (by simpa using hj), fun j hj => by simpa using h j (by simpa using hj)⟩
  | some i =>
    have h1 : freeAt zs len id p i = true := by simpa using List.find?_some h
    have h2 : i < 6 := by simpa using List.mem_of_find?_eq_some h
    refine .inr ⟨i, h2, by rw [placeI, h], h1, fun j hj => ?_⟩
    cases hq : freeAt zs len id p j with
    | false => rfl
    | true =>
      rw [List.find?_eq_some_iff_append] at h
      obtain ⟨-, xs, ys, e, hno⟩ := h
      have hj2 : j ∈ xs := by
        have hlen : xs.length = i := by
          have h3 : (List.range 6)[xs.length]? = some i := by rw [e]; simp
          rw [List.getElem?_range (by
            by_cases hh : xs.length < 6
            · exact hh
            · rw [List.getElem?_eq_none (by simp; omega)] at h3; cases h3)] at h3
          exact Option.some.inj h3
        have h4 : (List.range 6)[j]? = some j := List.getElem?_range (by omega)
        rw [e, List.getElem?_append_left (by omega)] at h4
        exact List.mem_of_getElem? h4
      have := hno j hj2
      rw [hq] at this; cases this

set_option maxHeartbeats 4000000 in
set_option maxRecDepth 100000 in
theorem place_any (id : Int) (p : Pg) (vp : Option Addr) (len cap : Nat) (zs : List Int) (w : World) (h0 : 0 ≤ id) (h1 : id < 1024) (hR : RowOk w vp len zs) :
    Calls Try.prog 46 #[.int .i64 id, p.v, .slice vp len cap] w fun e w' => e = .returned (.int .i64 (placeI zs len id p)) ∧ Below w.heap.size w w' := by
  have HI := Lib.hid (fun (b : Int) (w' : World) (h2 : 0 ≤ b) (h3 : b < 8) => id_any id b w' h0 h1 h2 h3)
  have HC := Lib.hid (fun (x : Int) (w' : World) (h : RowOk w' vp len zs) => contains_any vp len cap zs x w' h)
  have HR := Lib.hid hR
  clear hR
  go_enter Try.func46, Try.ntmps46
  go_wp2_with fail
  go_loopw [11] (fun i wr => ∃ k : Nat, k ≤ 6 ∧ i = .int .i64 k ∧ (∀ j, j < k → freeAt zs len id p j = false) ∧ Below w.heap.size w wr) (fun i _ => 6 - (intOf i).toNat)
  case atStart => exact ⟨0, by omega, rfl, fun j hj => by omega, (Below.refl _ _).alloc (Nat.le_refl _) _⟩
  case round =>
    obtain ⟨k, hk, rfl, hno, hb⟩ := hrel
    have hsz := hb.size
    have HNo := Lib.hid hno
    have HB := Lib.hid hb
    clear hno hb
    by_cases hlt : k < 6
    · have hidx := index6 p k hlt
      obtain ⟨a, ha⟩ : ∃ a, p.a k = a := ⟨_, rfl⟩
      obtain ⟨d, hd⟩ : ∃ d, p.d k = d := ⟨_, rfl⟩
      rw [ha, hd] at hidx
      by_cases h1 : a = 1
      · have hf : Hid (freeAt zs len id p k = false) := Lib.hid (by rw [freeAt, ha, h1]; simp)
        subst h1
        clear ha hd
        go_wp2
        go_roundw
        case rel => exact ⟨k + 1, by omega, by go_num, fun j hj => by
          by_cases e : j = k
          · subst e; exact hf.out
          · exact HNo.out j (by omega), HB.out.alloc hsz _⟩
        case measure => simp [intOf]; omega
      · have e1 : (a == 1) = false := by simp [h1]
        have e2 : decide (a = 1) = false := by simp [h1]
        have hk2 : (k : Int) < 8 := by omega
        have hk3 : (0 : Int) ≤ (k : Int) := by omega
        have K1 : Hid (freeAt zs len id p k = !inRow zs len (id * 8 + (k : Int))) := Lib.hid (by rw [freeAt, ha]; simp [h1])
        cases hq : inRow zs len (id * 8 + (k : Int)) with
        | true =>
          rw [hq] at K1
          have HQ := Lib.hid hq
          clear ha hd hq
          go_wp2_with fail
          refine (HI.out _ _ hk3 hk2).mono ?_; rintro e w1 ⟨rfl, rfl⟩
          go_wp2_with fail
          refine (HC.out _ _ (HR.out.below ((HB.out.alloc hsz _).mono (Nat.le_refl _)))).mono ?_; rintro e w1 ⟨rfl, rfl⟩
          rw [HQ.out]
          go_wp2_with fail
          go_roundw
          case rel => exact ⟨k + 1, by omega, by go_num, fun j hj => by
            by_cases e : j = k
            · subst e; exact K1.out
            · exact HNo.out j (by omega), HB.out.alloc hsz _⟩
          case measure => simp [intOf]; omega
        | false =>
          rw [hq] at K1
          have HQ := Lib.hid hq
          clear ha hd hq
          go_wp2_with fail
          refine (HI.out _ _ hk3 hk2).mono ?_; rintro e w1 ⟨rfl, rfl⟩
          go_wp2_with fail
          refine (HC.out _ _ (HR.out.below ((HB.out.alloc hsz _).mono (Nat.le_refl _)))).mono ?_; rintro e w1 ⟨rfl, rfl⟩
          rw [HQ.out]
          go_wp2_with fail
          go_ret
          exact ⟨congrArg (fun z : Int => Ending.returned (.int .i64 z)) (placeI_at k hlt K1.out HNo.out).symm, HB.out.alloc hsz _⟩
    · have hk6 : k = 6 := by omega
      subst hk6
      go_wp2
      go_ret
      exact ⟨congrArg (fun z : Int => Ending.returned (.int .i64 z)) (placeI_none HNo.out).symm, HB.out⟩
end Go.Proofs.Ythehglhbgplfhaa
