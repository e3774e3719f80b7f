/-
  Layer 17 (lob): all objects, read off the tree, are those of the document.
-/
import Derived.Test.YtljommhbhpappaaLr17f
namespace Go.Proofs.Ytljommhbhpappaa
open Go.RowKit Go.Joins
set_option linter.unusedVariables false
set_option linter.unusedSimpArgs false

/-- the object whose first piece has that key -/
def sfx (k : ByteArray) : Option Int := match k.data.toList with
  | [a, b, c, d] => if c = 0 ∧ d = 0 then some ((a.toNat * 256 + b.toNat : Nat) : Int) else none
  | _ => none
theorem sfx_four (a b c d : UInt8) : sfx ⟨#[a, b, c, d]⟩ = if c = 0 ∧ d = 0 then some ((a.toNat * 256 + b.toNat : Nat) : Int) else none := rfl
theorem four_of {k : ByteArray} (h : k.size = 4) : ∃ a b c d, k = ⟨#[a, b, c, d]⟩ := by
  obtain ⟨⟨l⟩⟩ := k
  have hl : l.length = 4 := h
  match l, hl with
  | [a, b, c, d], _ => exact ⟨a, b, c, d, rfl⟩
theorem sfx_some {k : ByteArray} {n : Int} (h : sfx k = some n) : k = key4 n 0 ∧ 0 ≤ n ∧ n ≤ 65535 := by
  by_cases hs : k.size = 4
  · obtain ⟨a, b, c, d, rfl⟩ := four_of hs
    rw [sfx_four] at h
    by_cases e : c = 0 ∧ d = 0
    · rw [if_pos e] at h
      obtain ⟨rfl, rfl⟩ := e
      simp only [Option.some.injEq] at h
      subst h
      have ha := a.toNat_lt
      have hb := b.toNat_lt
      have e1 : (((a.toNat * 256 + b.toNat : Nat) : Int) / 256 % 256) = (a.toNat : Int) := by omega
      have e2 : (((a.toNat * 256 + b.toNat : Nat) : Int) % 256) = (b.toNat : Int) := by omega
      refine ⟨?_, by omega, by omega⟩
      unfold key4 b8
      rw [e1, e2, Int.toNat_natCast, Int.toNat_natCast, UInt8.ofNat_toNat, UInt8.ofNat_toNat]
      rfl
    · rw [if_neg e] at h; cases h
  · exfalso
    unfold sfx at h
    split at h
    · rename_i a b c d e
      apply hs
      show k.data.size = 4
      rw [← Array.length_toList, e]; rfl
    · cases h
theorem sfx_key {n : Int} (h : 0 ≤ n ∧ n ≤ 65535) : sfx (key4 n 0) = some n := by
  unfold key4
  rw [sfx_four, if_pos ⟨rfl, rfl⟩]
  have h1 : (b8 (n / 256 % 256)).toNat = (n / 256 % 256).toNat := by simp only [b8, UInt8.toNat_ofNat']; omega
  have h2 : (b8 (n % 256)).toNat = (n % 256).toNat := by simp only [b8, UInt8.toNat_ofNat']; omega
  rw [h1, h2]
  congr 1
  omega
def objC (M : Mo) (c : NC) : Option Ob := if c.st = 1 then (sfx c.key).map fun n => (n, (M n).getD ByteArray.empty) else none
def objF (M : Mo) (F : List NC) : List Ob := F.filterMap (objC M)
theorem objF_take (M : Mo) (F : List NC) (i : Nat) (hi : i < F.length) : objF M (F.take (i + 1)) = objF M (F.take i) ++ (match objC M F[i] with | some x => [x] | none => []) := by
  unfold objF
  rw [List.take_succ_eq_append_getElem hi, List.filterMap_append]
  cases h : objC M F[i] <;> simp [h]
theorem objF_len (M : Mo) (F : List NC) : (objF M F).length ≤ F.length := List.length_filterMap_le _ _
/-- nothing but pieces of objects lives -/
def Only17 (g : Gm) : Prop := ∀ k, g k ≠ none → ∃ (n : Int) (i : Nat), 0 ≤ n ∧ n < 1000 ∧ i ≤ 256 ∧ k = key4 n i
theorem klt_key {a b : Int} (ha : 0 ≤ a ∧ a ≤ 65535) (hb : 0 ≤ b ∧ b ≤ 65535) (h : KLt (key4 a 0) (key4 b 0)) : a < b := by
  have := key4_less a 0 b 0 ha (by omega) hb (by omega)
  rw [blt_eq, decide_eq_decide] at this
  have := this.1 h
  omega
theorem objF_all {g : Gm} {M : Mo} {F : List NC} (hr : Rising F) (hg : ∀ k, getL k F = g k) (hO : ObjAt g M) (hon : Only17 g) : objF M F = listM M 1000 := by
  refine up_ext ?_ (listM_up M 1000) fun x => ?_
  · unfold objF
    rw [List.pairwise_filterMap]
    refine List.Pairwise.imp ?_ hr
    intro c d hcd x hx y hy
    unfold objC at hx hy
    split at hx
    · split at hy
      · rw [Option.map_eq_some_iff] at hx hy
        obtain ⟨n, hn, rfl⟩ := hx
        obtain ⟨m, hm, rfl⟩ := hy
        obtain ⟨k1, k2⟩ := sfx_some hn
        obtain ⟨k3, k4⟩ := sfx_some hm
        rw [k1, k3] at hcd
        exact klt_key k2 k4 hcd
      · cases hy
    · cases hx
  · unfold objF
    rw [List.mem_filterMap, listM_mem]
    constructor
    · rintro ⟨c, hc, hx⟩
      unfold objC at hx
      split at hx
      · rename_i hs
        rw [Option.map_eq_some_iff] at hx
        obtain ⟨n, hn, rfl⟩ := hx
        obtain ⟨hk, hn0, hn1⟩ := sfx_some hn
        have hget : g c.key = some c.rest := by
          rw [← hg, getL_some hr]
          obtain ⟨ck, cs, cr⟩ := c
          simp only at hs
          subst hs
          exact hc
        obtain ⟨n2, i2, q1, q2, q3, q4⟩ := hon c.key (by rw [hget]; simp)
        rw [hk] at q4
        obtain ⟨rfl, -⟩ := key4_inj (by omega) (by omega) (by omega) (by omega) q4
        have h0 := hO.get n q1 q2 0 (by omega)
        rw [show ((0 : Nat) : Int) = 0 from rfl, ← hk, hget] at h0
        cases hm : M n with
        | none => rw [hm] at h0; cases h0
        | some b => exact ⟨n.toNat, by omega, by simp only; omega, by simp only [Option.getD_some]; rw [show ((n.toNat : Nat) : Int) = n from by omega, hm]⟩
      · cases hx
    · rintro ⟨n, hn, h1, h2⟩
      have h0 := hO.get n (by omega) (by omega) 0 (by omega)
      rw [h2] at h0
      have hp : 0 < (chunks x.2).length := by rw [chunks_len x.2.size x.2 (Nat.le_refl _)]; omega
      rw [show (chunksO (some x.2))[0]? = some (chunks x.2)[0] from List.getElem?_eq_getElem hp, ← hg, getL_some hr] at h0
      refine ⟨_, h0, ?_⟩
      unfold objC
      rw [if_pos rfl]
      show (sfx (key4 n 0)).map _ = _
      rw [sfx_key (by omega), Option.map_some, h2]
      obtain ⟨a, b⟩ := x
      simp only at h1
      subst h1
      rfl
/-- how many cells do not stand ahead of a key -/
def leftK (F : List NC) : Value → Nat
  | .string k => (F.filter fun c => !decide (KLt c.key k)).length
  | _ => 0
def StandAt (F : List NC) (key : ByteArray) (i : Nat) : Prop := ∀ (j : Nat) (h : j < F.length), KLt F[j].key key ↔ j < i
theorem StandAt.left {F : List NC} {key : ByteArray} {i : Nat} (h : StandAt F key i) : leftK F (.string key) = F.length - i := by
  show (F.filter fun c => !decide (KLt c.key key)).length = _
  have h1 : (F.take i).filter (fun c => !decide (KLt c.key key)) = [] := by
    rw [List.filter_eq_nil_iff]
    intro c hc
    obtain ⟨j, hj, rfl⟩ := List.mem_iff_getElem.1 hc
    rw [List.length_take] at hj
    rw [List.getElem_take]
    simp [(h j (by omega)).2 (by omega)]
  have h2 : (F.drop i).filter (fun c => !decide (KLt c.key key)) = F.drop i := by
    rw [List.filter_eq_self]
    intro c hc
    obtain ⟨j, hj, rfl⟩ := List.mem_iff_getElem.1 hc
    rw [List.length_drop] at hj
    rw [List.getElem_drop]
    have : ¬ KLt F[i + j].key key := fun q => by have := (h (i + j) (by omega)).1 q; omega
    simp [this]
  conv => lhs; rw [← List.take_append_drop i F]
  rw [List.filter_append, h1, h2]
  simp
theorem StandAt.seek {F : List NC} {key : ByteArray} {i : Nat} (h : StandAt F key i) : seekL key F = F[i]? := by
  unfold seekL
  by_cases hi : i < F.length
  · rw [List.getElem?_eq_getElem hi, List.find?_eq_some_iff_getElem]
    refine ⟨?_, i, hi, rfl, fun j hj => ?_⟩
    · have : ¬ KLt F[i].key key := fun q => Nat.lt_irrefl _ ((h i hi).1 q)
      simp [this]
    · simp [(h j (by omega)).2 hj]
  · rw [List.getElem?_eq_none (by omega), List.find?_eq_none]
    intro c hc
    obtain ⟨j, hj, rfl⟩ := List.mem_iff_getElem.1 hc
    simp [(h j hj).2 (by omega)]
theorem StandAt.zero (F : List NC) : StandAt F ByteArray.empty 0 := fun j hj => by simp [KLt.empty]
theorem StandAt.next {F : List NC} (hr : Rising F) {i : Nat} (hi : i < F.length) : StandAt F (nextK F[i].key) (i + 1) := fun j hj => by
  rw [KLt.next]
  have hp := List.pairwise_iff_getElem.1 hr
  constructor
  · intro hn
    refine Decidable.byContradiction fun hc => hn (hp i j hi hj (by omega))
  · intro hle hlt
    by_cases e : j = i
    · subst e; exact KLt.irrefl _ hlt
    · exact (hp j i hj hi (by omega)).asymm hlt
end Go.Proofs.Ytljommhbhpappaa
