/-
  The order of byte strings (plain law): strings.Compare and '<' are one strict linear order.
-/
import Derived.Test.YtileamjmhhifaaaGreatChecked
import Derived.WalkKit
import Derived.Sort.Walk0
import Derived.Lib.Bytealg
namespace Go.Proofs.YtileamjmhhifaaaGreat

set_option linter.unusedVariables false
set_option linter.unusedSimpArgs false

/-- the order of keys -/
def KLt (a b : ByteArray) : Prop := a.toList < b.toList
instance (a b : ByteArray) : Decidable (KLt a b) := inferInstanceAs (Decidable (a.toList < b.toList))
theorem blt_eq (a b : ByteArray) : Op.bytesLess a.toList b.toList = decide (KLt a b) := bytesLess_eq _ _
theorem toList_inj {a b : ByteArray} (h : a.toList = b.toList) : a = b := by
  rw [ByteArray.toList_eq, ByteArray.toList_eq] at h
  cases a; cases b
  simp only [ByteArray.mk.injEq]
  exact Array.toList_inj.1 h
theorem beq_eq (a b : ByteArray) : (a.toList == b.toList) = decide (a = b) := by
  by_cases h : a = b
  · subst h; simp
  · have : a.toList ≠ b.toList := fun e => h (toList_inj e)
    simp [h, this]
theorem KLt.irrefl (a : ByteArray) : ¬ KLt a a := List.lt_irrefl _
theorem KLt.trans {a b c : ByteArray} (h : KLt a b) (k : KLt b c) : KLt a c := List.lt_trans h k
theorem KLt.asymm {a b : ByteArray} (h : KLt a b) : ¬ KLt b a := fun k => KLt.irrefl _ (h.trans k)
theorem KLt.tri (a b : ByteArray) : KLt a b ∨ a = b ∨ KLt b a := by
  by_cases h : KLt a b
  · exact .inl h
  · by_cases k : KLt b a
    · exact .inr (.inr k)
    · exact .inr (.inl (toList_inj (List.le_antisymm (List.not_lt.1 k) (List.not_lt.1 h))))
theorem KLt.ne {a b : ByteArray} (h : KLt a b) : a ≠ b := fun e => by subst e; exact KLt.irrefl _ h
theorem KLt.of_not {a b : ByteArray} (h : ¬ KLt a b) (hn : a ≠ b) : KLt b a := by
  rcases KLt.tri a b with q | q | q
  · exact absurd q h
  · exact absurd q hn
  · exact q
/-- a before or at b -/
theorem KLt.lt_of_le {a b c : ByteArray} (h : ¬ KLt b a) (k : KLt b c) : KLt a c := by
  by_cases e : a = b
  · subst e; exact k
  · exact (KLt.of_not h (fun q => e q.symm)).trans k
theorem KLt.lt_of_lt {a b c : ByteArray} (h : KLt a b) (k : ¬ KLt c b) : KLt a c := by
  by_cases e : b = c
  · subst e; exact h
  · exact h.trans (KLt.of_not k (fun q => e q.symm))
theorem empty_toList : ByteArray.empty.toList = [] := by rw [ByteArray.toList_eq]; rfl
theorem KLt.empty (a : ByteArray) : ¬ KLt a ByteArray.empty := by
  unfold KLt
  rw [empty_toList]
  exact List.not_lt_nil _
theorem KLt.pos {a : ByteArray} (h : a ≠ ByteArray.empty) : KLt ByteArray.empty a := by
  rcases KLt.tri ByteArray.empty a with q | q | q
  · exact q
  · exact absurd q.symm h
  · exact absurd q (KLt.empty a)

theorem cmp_lists : ∀ (a b : List UInt8), Lib.compareBytes a b ≤ 0 ↔ ¬ b < a
  | [], [] => by simp [Lib.compareBytes]
  | [], _ :: _ => by simp [Lib.compareBytes]
  | _ :: _, [] => by simp [Lib.compareBytes]
  | x :: a, y :: b => by
    have ih := cmp_lists a b
    simp only [Lib.compareBytes, List.cons_lt_cons_iff]
    by_cases h1 : x < y
    · have h2 : ¬ y < x := UInt8.lt_asymm h1
      have h3 : ¬ y = x := fun e => by subst e; exact UInt8.lt_irrefl _ h1
      simp [h1, h2, h3]
    · by_cases h2 : y < x
      · simp [h1, h2]
      · have h3 : y = x := UInt8.le_antisymm (UInt8.not_lt.1 h1) (UInt8.not_lt.1 h2)
        simp [h1, h2, h3] at ih ⊢
        exact ih
theorem cmp_le (a b : ByteArray) : Lib.compareBytes a.data.toList b.data.toList ≤ 0 ↔ ¬ KLt b a := by
  rw [cmp_lists]
  unfold KLt
  rw [ByteArray.toList_eq, ByteArray.toList_eq]
end Go.Proofs.YtileamjmhhifaaaGreat
