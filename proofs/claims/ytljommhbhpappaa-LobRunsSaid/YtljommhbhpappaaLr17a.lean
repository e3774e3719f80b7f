/-
  Layer 17 (lob): the document's objects in memory: keys, look-up.
-/
import Derived.Test.YtljommhbhpappaaAu5
import Derived.Test.YtljommhbhpappaaPkLob
namespace Go.Proofs.Ytljommhbhpappaa
open Go.RowKit Go.Joins
set_option linter.unusedVariables false
set_option linter.unusedSimpArgs false

/-- the document's objects: a block with two slices, numbers and bytes -/
def ObjsIn (w : World) (B ob : Nat) (L : List (Int × ByteArray)) : Prop :=
  B ≤ ob ∧ L.length ≤ 2000 ∧ ∃ nv bv, w.heap[ob]? = some (.cells #[nv, bv] 53) ∧ w.ownsRow B 3 1 nv L.length (L.map fun x => .int .i64 x.1) ∧ w.ownsRow B 9 1 bv L.length (L.map fun x => .string x.2)
theorem ObjsIn.below {w w' : World} {B ob : Nat} {L : List (Int × ByteArray)} (h : ObjsIn w B ob L) (hb : Below w.heap.size w w') : ObjsIn w' B ob L := by
  obtain ⟨h1, h2, nv, bv, h3, h4, h5⟩ := h
  exact ⟨h1, h2, nv, bv, (hb.block ob (Array.getElem?_eq_some_iff.1 h3).1).trans h3, own_low22 h4 hb, own_low22 h5 hb⟩
/-- where an object stands -/
def atL (L : List (Int × ByteArray)) (num : Int) : Int := match L.findIdx? (fun x => decide (x.1 = num)) with | some i => (i : Int) | none => -1
set_option maxHeartbeats 4000000 in
set_option maxRecDepth 100000 in
theorem ofind_any {w : World} {B ob : Nat} {L : List (Int × ByteArray)} (h : ObjsIn w B ob L) (num : Int) :
    Calls Try.prog 66 #[.pointer (some ⟨ob, 0, none⟩), .int .i64 num] w fun e w' => e = .returned (.int .i64 (atL L num)) ∧ w = w' := by
  obtain ⟨h1, h2, nv, bv, h3, h4, -⟩ := h
  obtain ⟨na, nc, rfl, hna⟩ := own_form22 h4
  have c0 := (cell_of_block h3 0).trans rfl
  have HR := Lib.hid h4
  have HNa := Lib.hid hna
  clear h4 hna h3
  go_enter Try.func66, Try.ntmps66
  go_wp2_with fail
  go_loopw [5] (fun v wr => ∃ i, i ≤ L.length ∧ v = .int .i64 i ∧ wr = w ∧ ∀ j, j < i → ∀ h : j < L.length, L[j].1 ≠ num) (fun v _ => L.length - (intOf v).toNat)
  case atStart => exact ⟨0, by omega, rfl, rfl, fun j hj => by omega⟩
  case round =>
    obtain ⟨i, hi, rfl, rfl, hno⟩ := hrel
    by_cases hlt : i < L.length
    · obtain ⟨G, rfl, -⟩ := HNa.out (by omega)
      have ci := own_cell22 HR.out i (.int .i64 L[i].1) (by simp [hlt])
      by_cases he : L[i].1 = num
      · have hat : Hid (atL L num = (i : Int)) := Lib.hid (by
          have : L.findIdx? (fun x => decide (x.1 = num)) = some i := by
            rw [List.findIdx?_eq_some_iff_getElem]
            exact ⟨hlt, by simpa using he, fun j hj => by simpa using hno j hj (by omega)⟩
          unfold atL
          rw [this])
        rw [he] at ci
        clear hno he
        go_wp2_with fail
        go_ret
        exact ⟨by rw [hat.out]; rfl, rfl⟩
      · have he1 : (L[i].1 == num) = false := by simpa using he
        have hno2 : Hid (∀ j, j < i + 1 → ∀ h : j < L.length, L[j].1 ≠ num) := Lib.hid fun j hj h => by
          by_cases e : j = i
          · subst e; exact he
          · exact hno j (by omega) h
        generalize L[i].1 = x at *
        clear hno he
        go_wp2_with fail
        go_roundw
        case rel => exact ⟨i + 1, by omega, by go_num, by first | rfl | trivial, hno2.out⟩
        case measure => simp [intOf]; omega
    · have hie : i = L.length := by omega
      have hat : Hid (atL L num = -1) := Lib.hid (by
        have : L.findIdx? (fun x => decide (x.1 = num)) = none := by
          rw [List.findIdx?_eq_none_iff]
          intro x hx
          obtain ⟨j, hj, rfl⟩ := List.mem_iff_getElem.1 hx
          simpa using hno j (by omega) hj
        unfold atL
        rw [this])
      subst hie
      clear hno
      go_wp2_with fail
      go_ret
      exact ⟨by rw [hat.out]; rfl, rfl⟩
theorem atL_cases (L : List (Int × ByteArray)) (num : Int) : (atL L num = -1 ∧ ∀ x ∈ L, x.1 ≠ num) ∨ ∃ i, ∃ h : i < L.length, atL L num = (i : Int) ∧ L[i].1 = num := by
  unfold atL
  cases hf : L.findIdx? (fun x => decide (x.1 = num)) with
  | none =>
    rw [List.findIdx?_eq_none_iff] at hf
    exact .inl ⟨rfl, fun x hx => by simpa using hf x hx⟩
  | some i =>
    rw [List.findIdx?_eq_some_iff_getElem] at hf
    obtain ⟨h1, h2, -⟩ := hf
    exact .inr ⟨i, h1, rfl, by simpa using h2⟩
/-- the objects as a function -/
def mo (L : List (Int × ByteArray)) (num : Int) : Option ByteArray := (L.find? fun x => decide (x.1 = num)).map (·.2)
theorem mo_at (L : List (Int × ByteArray)) (num : Int) : (atL L num = -1 ∧ mo L num = none) ∨ ∃ i, ∃ h : i < L.length, atL L num = (i : Int) ∧ L[i].1 = num ∧ mo L num = some L[i].2 := by
  unfold atL mo
  cases hf : L.findIdx? (fun x => decide (x.1 = num)) with
  | none =>
    rw [List.findIdx?_eq_none_iff] at hf
    refine .inl ⟨rfl, ?_⟩
    rw [List.find?_eq_none.2 (fun x hx => by simpa using hf x hx)]
    rfl
  | some i =>
    rw [List.findIdx?_eq_some_iff_getElem] at hf
    obtain ⟨h1, h2, h3⟩ := hf
    refine .inr ⟨i, h1, rfl, by simpa using h2, ?_⟩
    have : L.find? (fun x => decide (x.1 = num)) = some L[i] := by
      rw [List.find?_eq_some_iff_getElem]
      exact ⟨h2, i, h1, rfl, fun j hj => by simpa using h3 j hj⟩
    rw [this]
    rfl
/-- what the document says of an object -/
def getR (L : List (Int × ByteArray)) (num : Int) : ByteArray × Int := if num < 0 ∨ 1000 ≤ num then (ByteArray.empty, 1) else match mo L num with | some b => (b, 0) | none => (ByteArray.empty, 150)
set_option maxHeartbeats 4000000 in
set_option maxRecDepth 100000 in
theorem oget_any {w : World} {B ob : Nat} {L : List (Int × ByteArray)} (h : ObjsIn w B ob L) (num : Int) :
    Calls Try.prog 24 #[.pointer (some ⟨ob, 0, none⟩), .int .i64 num] w fun e w' => e = .returned (.tuple #[.string (getR L num).1, .int .i64 (getR L num).2]) ∧ w = w' := by
  have HF := Lib.hid (ofind_any h num)
  obtain ⟨h1, h2, nv, bv, h3, -, h5⟩ := h
  obtain ⟨ba, bc, rfl, hba⟩ := own_form22 h5
  have c1 := (cell_of_block h3 1).trans rfl
  unfold getR
  by_cases q1 : num < 0
  · rw [if_pos (.inl q1)]
    clear h3 h5 hba
    go_enter Try.func24, Try.ntmps24
    go_wp2_with fail
    go_ret2
    exact ⟨rfl, rfl⟩
  by_cases q2 : 999 < num
  · rw [if_pos (.inr (by omega))]
    clear h3 h5 hba
    go_enter Try.func24, Try.ntmps24
    go_wp2_with fail
    go_ret2
    exact ⟨rfl, rfl⟩
  rw [if_neg (by omega)]
  have q3 : decide (num < 0) = false := by simpa using q1
  have q4 : decide (999 < num) = false := by simpa using q2
  rcases mo_at L num with ⟨e, hno⟩ | ⟨i, hi, e, hin, hm⟩
  · rw [e] at HF
    rw [hno]
    clear h3 h5 hba e hno
    go_enter Try.func24, Try.ntmps24
    go_wp2_with fail
    with_reducible refine HF.out.mono ?_; rintro e w1 ⟨rfl, rfl⟩
    go_wp2_with fail
    go_ret2
    exact ⟨rfl, rfl⟩
  · rw [e] at HF
    obtain ⟨G, rfl, -⟩ := hba (by omega)
    have ci := own_cell22 h5 i (.string L[i].2) (by simp [hi])
    rw [hm]
    generalize L[i].2 = b at *
    clear h3 h5 e hin hm
    go_enter Try.func24, Try.ntmps24
    go_wp2_with fail
    with_reducible refine HF.out.mono ?_; rintro e w1 ⟨rfl, rfl⟩
    go_wp2_with fail
    go_ret2
    exact ⟨rfl, rfl⟩
end Go.Proofs.Ytljommhbhpappaa
