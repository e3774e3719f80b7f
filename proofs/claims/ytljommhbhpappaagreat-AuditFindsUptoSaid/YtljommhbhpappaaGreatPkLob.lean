/-
  Several texts in one: Key17, Lob1, Lob2, Lob3.
-/
import Derived.Test.YtljommhbhpappaaGreatPkStage
import Derived.Sort.Walk0
import Derived.Test.YtljommhbhpappaaGreatPkTree
namespace Go.Proofs.YtljommhbhpappaaGreat
/-!
  Layer 17 (lob): keys of pieces as bytes (plain law): they rise with the objects' numbers, then with the pieces'.
-/
section
open Go.RowKit Go.Joins
set_option linter.unusedVariables false
set_option linter.unusedSimpArgs false

def b8 (x : Int) : UInt8 := UInt8.ofNat x.toNat
/-- the key of a piece -/
def key4 (n p : Int) : ByteArray := ⟨#[b8 (n / 256 % 256), b8 (n % 256), b8 (p / 256 % 256), b8 (p % 256)]⟩
theorem key4_list (n p : Int) : (key4 n p).toList = [b8 (n / 256 % 256), b8 (n % 256), b8 (p / 256 % 256), b8 (p % 256)] := by
  rw [ByteArray.toList_eq]; rfl
theorem key4_size (n p : Int) : (key4 n p).size = 4 := rfl
theorem b8_lt {x y : Int} (hx : 0 ≤ x ∧ x < 256) (hy : 0 ≤ y ∧ y < 256) : decide (b8 x < b8 y) = decide (x < y) := by
  have h1 : (b8 x).toNat = x.toNat := by simp only [b8, UInt8.toNat_ofNat']; omega
  have h2 : (b8 y).toNat = y.toNat := by simp only [b8, UInt8.toNat_ofNat']; omega
  rw [decide_eq_decide, UInt8.lt_iff_toNat_lt, h1, h2]
  omega
theorem b8_eq {x y : Int} (hx : 0 ≤ x ∧ x < 256) (hy : 0 ≤ y ∧ y < 256) : (b8 x == b8 y) = decide (x = y) := by
  have h1 : (b8 x).toNat = x.toNat := by simp only [b8, UInt8.toNat_ofNat']; omega
  have h2 : (b8 y).toNat = y.toNat := by simp only [b8, UInt8.toNat_ofNat']; omega
  by_cases e : x = y
  · subst e; simp
  · have : b8 x ≠ b8 y := fun h => by
      have := congrArg UInt8.toNat h
      rw [h1, h2] at this; omega
    simp [e, this]
theorem key4_less (a i b k : Int) (ha : 0 ≤ a ∧ a ≤ 65535) (hi : 0 ≤ i ∧ i ≤ 65535) (hb : 0 ≤ b ∧ b ≤ 65535) (hk : 0 ≤ k ∧ k ≤ 65535) :
    Op.bytesLess (key4 a i).toList (key4 b k).toList = decide (a < b ∨ (a = b ∧ i < k)) := by
  have q1 : 0 ≤ a / 256 % 256 ∧ a / 256 % 256 < 256 := by omega
  have q2 : 0 ≤ a % 256 ∧ a % 256 < 256 := by omega
  have q3 : 0 ≤ i / 256 % 256 ∧ i / 256 % 256 < 256 := by omega
  have q4 : 0 ≤ i % 256 ∧ i % 256 < 256 := by omega
  have r1 : 0 ≤ b / 256 % 256 ∧ b / 256 % 256 < 256 := by omega
  have r2 : 0 ≤ b % 256 ∧ b % 256 < 256 := by omega
  have r3 : 0 ≤ k / 256 % 256 ∧ k / 256 % 256 < 256 := by omega
  have r4 : 0 ≤ k % 256 ∧ k % 256 < 256 := by omega
  rw [key4_list, key4_list]
  simp only [Op.bytesLess, Bool.or_false, Bool.and_false]
  rw [b8_lt q1 r1, b8_lt q2 r2, b8_lt q3 r3, b8_lt q4 r4, b8_eq q1 r1, b8_eq q2 r2, b8_eq q3 r3]
  rw [Bool.eq_iff_iff]
  simp only [Bool.or_eq_true, Bool.and_eq_true, decide_eq_true_eq]
  omega
end

/-!
  Layer 17 (lob): a piece's key; an object's bytes in pieces.
-/
section
open Go.RowKit Go.Joins
set_option linter.unusedVariables false
set_option linter.unusedSimpArgs false

/-- an object's bytes in pieces -/
def chunkF : Nat → ByteArray → List ByteArray
  | 0, b => [b]
  | f + 1, b => if b.size ≤ 16 then [b] else b.extract 0 16 :: chunkF f (b.extract 16 b.size)
def chunks (b : ByteArray) : List ByteArray := chunkF b.size b
theorem chunkF_enough : ∀ (f g : Nat) (b : ByteArray), b.size ≤ f → b.size ≤ g → chunkF f b = chunkF g b
  | 0, 0, b, _, _ => rfl
  | 0, g + 1, b, h, _ => by simp [chunkF]; omega
  | f + 1, 0, b, _, h => by simp [chunkF]; omega
  | f + 1, g + 1, b, h1, h2 => by
    simp only [chunkF]
    split
    · rfl
    · rw [chunkF_enough f g _ (by rw [ByteArray.size_extract]; omega) (by rw [ByteArray.size_extract]; omega)]
theorem chunks_small {b : ByteArray} (h : b.size ≤ 16) : chunks b = [b] := by
  unfold chunks
  cases e : b.size with
  | zero => rfl
  | succ n => simp [chunkF]; omega
theorem chunks_big {b : ByteArray} (h : ¬ b.size ≤ 16) : chunks b = b.extract 0 16 :: chunks (b.extract 16 b.size) := by
  unfold chunks
  rw [chunkF_enough b.size (b.size + 1) b (Nat.le_refl _) (by omega)]
  simp only [chunkF, h, if_false]
  rw [chunkF_enough b.size (b.extract 16 b.size).size _ (by rw [ByteArray.size_extract]; omega) (Nat.le_refl _)]
/-- the size of a string in a slot -/
def strSz : Value → Nat
  | .string b => b.size
  | _ => 0
theorem infoStr17 : (Tryz.prog.info? 9).map (fun i => (i.zero, i.size, i.bytes)) = some (some (.string ⟨#[]⟩), 1, 16) := by kernel_rfl
end

/-!
  Layer 17 (lob): the steps from one state of an object to another.
-/
section
open Go.RowKit Go.Joins
set_option linter.unusedVariables false
set_option linter.unusedSimpArgs false

/-- a step: its kind, key and value -/
abbrev Stp := Int × ByteArray × ByteArray
def stpCs (x : Stp) : Array Value := #[.int .i64 x.1, .string x.2.1, .string x.2.2]
def stpRow (l : List Stp) : List Value := l.flatMap fun x => (stpCs x).toList
theorem stpRow_append (a b : List Stp) : stpRow (a ++ b) = stpRow a ++ stpRow b := by simp [stpRow]
def stepAt (num : Int) (fr to : List ByteArray) (i : Nat) : List Stp :=
  if to.length ≤ i then [(16, key4 num i, ByteArray.empty)]
  else if fr.length ≤ i then [(13, key4 num i, to.getD i ByteArray.empty)]
  else if fr.getD i ByteArray.empty = to.getD i ByteArray.empty then [] else [(15, key4 num i, to.getD i ByteArray.empty)]
def stepsTo (num : Int) (fr to : List ByteArray) (k : Nat) : List Stp := (List.range k).flatMap (stepAt num fr to)
theorem stepsTo_succ (num : Int) (fr to : List ByteArray) (k : Nat) : stepsTo num fr to (k + 1) = stepsTo num fr to k ++ stepAt num fr to k := by
  simp [stepsTo, List.range_succ]
theorem stepAt_len (num : Int) (fr to : List ByteArray) (k : Nat) : (stepAt num fr to k).length ≤ 1 := by
  unfold stepAt
  split
  · simp
  · split
    · simp
    · split <;> simp
theorem stepsTo_len (num : Int) (fr to : List ByteArray) : ∀ k, (stepsTo num fr to k).length ≤ k
  | 0 => by simp [stepsTo]
  | k + 1 => by
    have := stepsTo_len num fr to k
    have := stepAt_len num fr to k
    rw [stepsTo_succ, List.length_append]
    omega
/-- strings that stand in memory, where a slice points -/
def StrAt (w : World) (a : Option Addr) (I : List ByteArray) : Prop :=
  I.length ≤ 2000000 ∧ (I.length = 0 ∨ ∃ b, a = some ⟨b, 0, none⟩ ∧ b < w.heap.size ∧ ∀ (i : Nat) (h : i < I.length), w.cell? ⟨b, i, none⟩ = some (.string I[i]))
theorem StrAt.below {w w' : World} {a : Option Addr} {I : List ByteArray} (h : StrAt w a I) (hb : Below w.heap.size w w') : StrAt w' a I := by
  refine ⟨h.1, ?_⟩
  rcases h.2 with h0 | ⟨b, rfl, h1, h2⟩
  · exact .inl h0
  · exact .inr ⟨b, rfl, Nat.lt_of_lt_of_le h1 hb.size, fun i hi => (hb.cell (p := ⟨b, i, none⟩) h1).trans (h2 i hi)⟩
theorem own_lo17 {w : World} {b s n k : Nat} {e : TypeId} {v : Value} {xs : List Value} (h : w.ownsRow b e s v n xs) (hk : k < b) : some k ≠ v.ownBlock := fun h2 => by
  have := (h.lt _ h2.symm).1; omega
end

/-!
  Layer 17 (lob): all bytes of an object, read off the tree.
-/
section
open Go.RowKit Go.Joins
set_option linter.unusedVariables false
set_option linter.unusedSimpArgs false

/-- the pieces from one on, joined -/
def readF (F : List NC) (num : Int) : Nat → Nat → ByteArray → ByteArray
  | 0, _, acc => acc
  | f + 1, i, acc => match getL (key4 num i) F with
    | some v => readF F num f (i + 1) (acc ++ v)
    | none => acc
/-- what a call answers: bytes and an error's number -/
def bytesR (F : List NC) (num : Int) : ByteArray × Int :=
  if num < 0 ∨ 1000 ≤ num then (ByteArray.empty, 1) else match getL (key4 num 0) F with
    | some v => (readF F num 256 1 v, 0)
    | none => (ByteArray.empty, 150)
theorem key4_ok (n p : Int) : KeyOk (key4 n p) := ⟨fun e => by have := congrArg ByteArray.size e; rw [key4_size] at this; simp at this, by rw [key4_size]; omega⟩
theorem getL_size {st : Int} {S : Vol} {N : Nat} {T : Tr N} (h : TrAt S st N T) {key v : ByteArray} (hg : getL key (flat (Tr.leaves N T)) = some v) : v.size ≤ 20 := by
  unfold getL at hg
  cases hs : seekL key (flat (Tr.leaves N T)) with
  | none => rw [hs] at hg; cases hg
  | some c =>
    rw [hs] at hg
    simp only at hg
    split at hg
    · cases hg
      have hm : c ∈ flat (Tr.leaves N T) := List.mem_of_find?_eq_some hs
      obtain ⟨x, hx, hc⟩ := mem_flat.1 hm
      exact ((h.leafOk x hx).1.2.2.1 rfl c hc).2.2.2
    · cases hg

end
end Go.Proofs.YtljommhbhpappaaGreat
