/-
  Layer 5 (node): pages as lists of cells; Count, Find, Down.
-/
import Derived.Test.YtljommhbhpappaaNode1
import Derived.Test.YtljommhbhpappaaNode3
namespace Go.Proofs.Ytljommhbhpappaa
open Go.RowKit Go.Joins
set_option linter.unusedVariables false
set_option linter.unusedSimpArgs false

/-- a node's cell -/
structure NC where
  key : ByteArray
  st : Int
  rest : ByteArray
deriving DecidableEq
def NC.d (c : NC) : ByteArray := tx c.key ++ c.rest
def stL (L : List NC) (i : Nat) : Int := match L[i]? with | some c => c.st | none => 0
def dL (L : List NC) (i : Nat) : ByteArray := match L[i]? with | some c => c.d | none => ByteArray.empty
/-- a node's page -/
def ndPg (lv st nx : Int) (L : List NC) : Pg :=
  { k := 4, l := lv, s := st, n := nx, a0 := stL L 0, d0 := dL L 0, a1 := stL L 1, d1 := dL L 1, a2 := stL L 2, d2 := dL L 2, a3 := stL L 3, d3 := dL L 3, a4 := stL L 4, d4 := dL L 4, a5 := stL L 5, d5 := dL L 5 }
theorem six {P : Nat → Prop} (h0 : P 0) (h1 : P 1) (h2 : P 2) (h3 : P 3) (h4 : P 4) (h5 : P 5) (i : Nat) (hi : i < 6) : P i := by
  rcases i with _ | _ | _ | _ | _ | _ | i
  · exact h0
  · exact h1
  · exact h2
  · exact h3
  · exact h4
  · exact h5
  · omega
theorem nd_a (lv st nx : Int) (L : List NC) (i : Nat) (hi : i < 6) : (ndPg lv st nx L).a i = stL L i :=
  six (P := fun i => (ndPg lv st nx L).a i = stL L i) rfl rfl rfl rfl rfl rfl i hi
theorem nd_d (lv st nx : Int) (L : List NC) (i : Nat) (hi : i < 6) : (ndPg lv st nx L).d i = dL L i :=
  six (P := fun i => (ndPg lv st nx L).d i = dL L i) rfl rfl rfl rfl rfl rfl i hi
theorem stL_get {L : List NC} {i : Nat} (h : i < L.length) : stL L i = L[i].st := by simp [stL, h]
theorem dL_get {L : List NC} {i : Nat} (h : i < L.length) : dL L i = L[i].d := by simp [dL, h]
theorem stL_out {L : List NC} {i : Nat} (h : L.length ≤ i) : stL L i = 0 := by simp [stL, h]
theorem dL_out {L : List NC} {i : Nat} (h : L.length ≤ i) : dL L i = ByteArray.empty := by simp [dL, h]
/-- a cell that may stand in a node -/
def NC.ok (c : NC) : Prop := c.st ≠ 0 ∧ c.key.size ≤ 8 ∧ c.rest.size ≤ 25

theorem ncount_nd (lv st nx : Int) (L : List NC) (h6 : L.length ≤ 6) (hok : ∀ c ∈ L, c.ok) (w : World) :
    Calls Try.prog 88 #[(ndPg lv st nx L).v] w fun e w' => e = .returned (.int .i64 L.length) ∧ Below w.heap.size w w' := by
  refine ncount_any _ L.length h6 (fun j hj => ?_) (fun h => ?_) w
  · rw [nd_a _ _ _ _ _ (by omega), stL_get hj]
    exact (hok _ (List.getElem_mem hj)).1
  · rw [nd_a _ _ _ _ _ h, stL_out (Nat.le_refl _)]

/-- the place of a key, or where it would stand; is it there? -/
def findL (key : ByteArray) : List NC → Nat → Nat × Bool
  | [], i => (i, false)
  | c :: r, i => if KLt c.key key then findL key r (i + 1) else (i, decide (c.key = key))
theorem findL_le (key : ByteArray) : ∀ (L : List NC) (i : Nat), i ≤ (findL key L i).1 ∧ (findL key L i).1 ≤ i + L.length
  | [], i => by simp [findL]
  | c :: r, i => by
    have := findL_le key r (i + 1)
    simp only [findL]
    split
    · simp only [List.length_cons]; omega
    · simp

set_option maxHeartbeats 2000000 in
set_option maxRecDepth 100000 in
theorem nfind_any (lv st nx : Int) (L : List NC) (h6 : L.length ≤ 6) (hok : ∀ c ∈ L, c.ok) (key : ByteArray) (w : World) :
    Calls Try.prog 82 #[(ndPg lv st nx L).v, .string key] w fun e w' => e = .returned (.tuple #[.int .i64 (findL key L 0).1, .bool (findL key L 0).2]) ∧ Below w.heap.size w w' := by
  have HC := Lib.hid (fun w' => ncount_nd lv st nx L h6 hok w')
  have HK := Lib.hid (fun i (hi : i < L.length) w' => key_ok L[i].st L[i].key L[i].rest (hok _ (List.getElem_mem hi)).1 (hok _ (List.getElem_mem hi)).2.1 (by have := (hok _ (List.getElem_mem hi)).2.2; omega) w')
  have HA := Lib.hid (fun i (hi : i < L.length) => (nd_a lv st nx L i (by omega)).trans (stL_get hi))
  have HD := Lib.hid (fun i (hi : i < L.length) => (nd_d lv st nx L i (by omega)).trans (dL_get hi))
  generalize ndPg lv st nx L = p at *
  go_enter Try.func82, Try.ntmps82
  go_wp2_with fail
  refine (HC.out _).mono ?_; rintro e w1 ⟨rfl, hb1⟩
  have hz := hb1.size
  rw [World.size_alloc] at hz
  have HB := Lib.hid (((Below.refl w.heap.size w).alloc (Nat.le_refl _) (.cells p.cs 112)).trans (hb1.mono (by go_size)))
  have R1 := (rowAt_below hb1 (by simp)).trans (rowAt_at w p.cs 112 _ rfl)
  have HR := Lib.hid R1
  clear hb1
  have hn6 : ((L.length : Nat) : Int) ≤ 6 := by omega
  go_wp2_with fail
  go_loopw [18] (fun i wr => ∃ k : Nat, k ≤ L.length ∧ i = .int .i64 k ∧ Below w1.heap.size w1 wr ∧ findL key L 0 = findL key (L.drop k) k) (fun i _ => L.length - (intOf i).toNat)
  case atStart => exact ⟨0, by omega, rfl, Below.refl _ _, rfl⟩
  case round =>
    obtain ⟨k, hk, rfl, hb, hf⟩ := hrel
    have hsz := hb.size
    have KB := Lib.hid hb
    have RR := (rowAt_below hb (n := w.heap.size) (by omega)).trans HR.out
    by_cases hlt : k < L.length
    · have hk6 : k < 6 := by omega
      have cA := (cell_row RR (4 + k * 2)).trans (cs_a p k hk6)
      have cD := (cell_row RR (4 + k * 2 + 1)).trans (cs_d p k hk6)
      rw [HA.out k hlt] at cA
      rw [HD.out k hlt] at cD
      rw [List.drop_eq_getElem_cons hlt] at hf
      have HKk := Lib.hid (HK.out k hlt)
      have hd : L[k].d = tx L[k].key ++ L[k].rest := rfl
      rw [hd] at cD
      generalize L[k] = c at *
      obtain ⟨ck, cs, cr⟩ := c
      simp only at cA cD HKk hf hd
      generalize hdd : tx ck ++ cr = dd at *
      clear hd hdd hb
      go_wp2_with fail
      refine (HKk.out _).mono ?_; rintro e w3 ⟨rfl, hb3⟩
      have hz3 := hb3.size
      rw [World.size_alloc] at hz3
      have B3 : Hid (Below w1.heap.size w1 w3) := Lib.hid ((KB.out.alloc hsz _).trans (hb3.mono (by go_size)))
      clear hb3
      have HBo := blt_eq ck key
      have HEq := beq_eq ck key
      by_cases hl : KLt ck key
      · have hg : (!(Op.bytesLess ck.toList key.toList)) = false := by rw [HBo]; simp [hl]
        simp only [findL, hl, if_true] at hf
        go_wp2_with fail
        go_roundw
        case rel => exact ⟨k + 1, by omega, by go_num, B3.out, hf⟩
        case measure => simp [intOf]; omega
      · have hg : (!(Op.bytesLess ck.toList key.toList)) = true := by rw [HBo]; simp [hl]
        simp only [findL, hl, if_false] at hf
        go_wp2_with fail
        go_ret2
        refine ⟨?_, HB.out.trans (B3.out.mono (by omega))⟩
        rw [hf, ← HEq]
        rfl
    · have hke : k = L.length := by omega
      subst hke
      rw [List.drop_length] at hf
      go_wp2_with fail
      go_ret2
      refine ⟨?_, HB.out.trans (KB.out.mono (by omega))⟩
      rw [hf]
      rfl

/-- the cell whose child a key belongs to -/
def downL (key : ByteArray) (L : List NC) : Nat := if (findL key L 0).2 = true ∨ (findL key L 0).1 = 0 then (findL key L 0).1 else (findL key L 0).1 - 1
set_option maxHeartbeats 2000000 in
theorem ndown_any (lv st nx : Int) (L : List NC) (h6 : L.length ≤ 6) (hok : ∀ c ∈ L, c.ok) (key : ByteArray) (w : World) :
    Calls Try.prog 105 #[(ndPg lv st nx L).v, .string key] w fun e w' => e = .returned (.int .i64 (downL key L)) ∧ Below w.heap.size w w' := by
  have HF := Lib.hid (fun w' => nfind_any lv st nx L h6 hok key w')
  have hle := (findL_le key L 0).2
  unfold downL
  generalize ndPg lv st nx L = p at *
  generalize findL key L 0 = r at *
  obtain ⟨i, b⟩ := r
  simp only at hle HF ⊢
  generalize hx : (if b = true ∨ i = 0 then i else i - 1) = x
  go_enter Try.func105, Try.ntmps105
  go_wp2_with fail
  refine (HF.out _).mono ?_; rintro e w1 ⟨rfl, hb1⟩
  have HB := Lib.hid (((Below.refl w.heap.size w).alloc (Nat.le_refl _) (.cells p.cs 112)).trans (hb1.mono (by go_size)))
  clear hb1
  cases b with
  | true =>
    have e1 : i = x := by rw [← hx, if_pos (Or.inl rfl)]
    subst e1
    clear hx
    go_wp2_with fail
    go_ret
    exact ⟨rfl, HB.out⟩
  | false =>
    by_cases h0 : i = 0
    · have e1 : i = x := by rw [← hx, if_pos (Or.inr h0)]
      subst e1
      clear hx
      subst h0
      go_wp2_with fail
      go_ret
      exact ⟨rfl, HB.out⟩
    · have hi0 : ((i : Int) == 0) = false := by simp; omega
      have e1 : ((i : Int) - 1) = (x : Int) := by rw [← hx, if_neg (by simp [h0])]; omega
      clear hx
      go_wp2_with fail
      go_ret
      exact ⟨by rw [← e1]; rfl, HB.out⟩
end Go.Proofs.Ytljommhbhpappaa
