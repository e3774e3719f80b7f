/-
  Layer 16 (tree), plain law: what a range tells in parts is what it tells at once.
-/
import Derived.Test.YtljommhbhpappaaTreeQ
namespace Go.Proofs.Ytljommhbhpappaa
open Go.RowKit Go.Joins
set_option linter.unusedVariables false
set_option linter.unusedSimpArgs false

theorem rising_ext' : ∀ {F G : List NC}, Rising F → Rising G → (∀ x, x ∈ F ↔ x ∈ G) → F = G
  | [], [], _, _, _ => rfl
  | [], y :: G, _, _, h => by have := (h y).2 (List.mem_cons_self ..); cases this
  | x :: F, [], _, _, h => by have := (h x).1 (List.mem_cons_self ..); cases this
  | x :: F, y :: G, hF, hG, h => by
    obtain ⟨hx, hF2⟩ := List.pairwise_cons.1 hF
    obtain ⟨hy, hG2⟩ := List.pairwise_cons.1 hG
    have e : x = y := by
      rcases List.mem_cons.1 ((h x).1 (List.mem_cons_self ..)) with e | h1
      · exact e
      · rcases List.mem_cons.1 ((h y).2 (List.mem_cons_self ..)) with e | h2
        · exact e.symm
        · exact absurd (hy x h1) (hx y h2).asymm
    subst e
    rw [rising_ext' hF2 hG2 fun z => ?_]
    constructor
    · intro hz
      rcases List.mem_cons.1 ((h z).1 (List.mem_cons_of_mem _ hz)) with e | h1
      · subst e; exact absurd (hx z hz) (KLt.irrefl _)
      · exact h1
    · intro hz
      rcases List.mem_cons.1 ((h z).2 (List.mem_cons_of_mem _ hz)) with e | h1
      · subst e; exact absurd (hy z hz) (KLt.irrefl _)
      · exact h1
/-- the cells that live -/
def liveL (F : List NC) : List NC := F.filter fun c => c.st == 1
theorem rfold_eq (most : Nat) (key : ByteArray) : ∀ (L acc : List NC), rfold most key acc L = acc ++ ((L.filter fun c => c.st == 1 && !decide (KLt c.key key)).take (most - acc.length))
  | [], acc => by simp [rfold]
  | c :: r, acc => by
    show rfold most key (rstep most key acc c) r = _
    rw [rfold_eq most key r]
    unfold rstep
    by_cases h1 : c.st = 1 ∧ ¬ KLt c.key key
    · have hf : (c.st == 1 && !decide (KLt c.key key)) = true := by simp [h1.1, h1.2]
      rw [List.filter_cons, if_pos hf]
      by_cases h2 : acc.length < most
      · rw [if_pos ⟨h2, h1⟩, List.append_assoc, List.length_append]
        congr 1
        rw [show most - acc.length = (most - (acc.length + 1)) + 1 from by omega]
        rfl
      · rw [if_neg fun h => h2 h.1, show most - acc.length = 0 from by omega]
        simp
    · have hf : (c.st == 1 && !decide (KLt c.key key)) = false := by
        by_cases h : c.st = 1
        · have : KLt c.key key := Decidable.byContradiction fun hn => h1 ⟨h, hn⟩
          simp [this]
        · simp [h]
      rw [if_neg (fun h : acc.length < most ∧ c.st = 1 ∧ ¬ KLt c.key key => h1 h.2), List.filter_cons, if_neg (by rw [hf]; simp)]
theorem rangeL_eq (key : ByteArray) (most : Nat) (F : List NC) : rangeL key most F = (F.filter fun c => c.st == 1 && !decide (KLt c.key key)).take most := by
  unfold rangeL
  rw [rfold_eq]
  simp
theorem rangeL_all (most : Nat) (F : List NC) : rangeL ByteArray.empty most F = (liveL F).take most := by
  rw [rangeL_eq]
  congr 1
  unfold liveL
  apply List.filter_congr
  intro c _
  simp [KLt.empty]
/-- the least key behind a key -/
def nextK (k : ByteArray) : ByteArray := k ++ ⟨#[0]⟩
theorem list_next : ∀ (a k : List UInt8), a < k ++ [0] ↔ ¬ k < a
  | [], [] => by simp
  | [], y :: k => by simp
  | x :: a, [] => by
    simp only [List.nil_append, List.cons_lt_cons_iff, List.not_lt_nil, and_false, or_false]
    constructor
    · intro h; exact absurd h (by simp)
    · intro h; exact absurd (List.nil_lt_cons x a) h
  | x :: a, y :: k => by
    have ih := list_next a k
    simp only [List.cons_append, List.cons_lt_cons_iff, ih]
    constructor
    · rintro (h | ⟨rfl, h⟩) (h2 | ⟨h3, h2⟩)
      · exact absurd h (UInt8.lt_asymm h2)
      · subst h3; exact absurd h (UInt8.lt_irrefl _)
      · exact absurd h2 (UInt8.lt_irrefl _)
      · exact h h2
    · intro h
      by_cases e : x = y
      · subst e
        exact .inr ⟨rfl, fun h2 => h (.inr ⟨rfl, h2⟩)⟩
      · left
        rcases UInt8.lt_or_lt_of_ne e with h2 | h2
        · exact h2
        · exact absurd (.inl h2) h
theorem KLt.next {a k : ByteArray} : KLt a (nextK k) ↔ ¬ KLt k a := by
  unfold KLt
  have e : (nextK k).toList = k.toList ++ [0] := by
    unfold nextK
    rw [ByteArray.toList_eq, ByteArray.toList_eq]
    simp
  rw [e]
  exact list_next _ _
theorem liveL_rising {F : List NC} (h : Rising F) : Rising (liveL F) := List.Pairwise.sublist List.filter_sublist h
/-- what Range tells from behind a key that it told -/
theorem range_next {F : List NC} (h : Rising F) (most n : Nat) (hn : n < (liveL F).length) : rangeL (nextK (liveL F)[n].key) most F = ((liveL F).drop (n + 1)).take most := by
  rw [rangeL_eq]
  congr 1
  have e : (F.filter fun c => c.st == 1 && !decide (KLt c.key (nextK (liveL F)[n].key))) = (liveL F).filter fun c => decide (KLt (liveL F)[n].key c.key) := by
    unfold liveL
    rw [List.filter_filter]
    apply List.filter_congr
    intro c _
    rw [Bool.and_comm]
    congr 1
    rw [← decide_not, decide_eq_decide, KLt.next]
    exact Decidable.not_not
  rw [e]
  have hr := liveL_rising h
  generalize liveL F = L at *
  have e3 : L.filter (fun c => decide (KLt L[n].key c.key)) = (L.take (n + 1) ++ L.drop (n + 1)).filter (fun c => decide (KLt L[n].key c.key)) := by rw [List.take_append_drop]
  rw [e3, List.filter_append]
  have h1 : (L.take (n + 1)).filter (fun c => decide (KLt L[n].key c.key)) = [] := by
    rw [List.filter_eq_nil_iff]
    intro c hc
    obtain ⟨i, hi, rfl⟩ := List.mem_iff_getElem.1 hc
    rw [List.length_take] at hi
    rw [List.getElem_take]
    by_cases e : i = n
    · subst e; simp [KLt.irrefl]
    · have := List.pairwise_iff_getElem.1 hr i n (by omega) hn (by omega)
      simp [this.asymm]
  have h2 : (L.drop (n + 1)).filter (fun c => decide (KLt L[n].key c.key)) = L.drop (n + 1) := by
    rw [List.filter_eq_self]
    intro c hc
    obtain ⟨i, hi, rfl⟩ := List.mem_iff_getElem.1 hc
    rw [List.length_drop] at hi
    rw [List.getElem_drop]
    have := List.pairwise_iff_getElem.1 hr n (n + 1 + i) hn (by omega) (by omega)
    simp [this]
  rw [h1, h2]
  rfl
end Go.Proofs.Ytljommhbhpappaa
