/-
  Layer 16 (tree): TreeOrder.
-/
import Derived.Test.YtljommhbhpappaaTreeQ
import Derived.Test.YtljommhbhpappaaFrame17c
namespace Go.Proofs.Ytljommhbhpappaa
open Go.RowKit Go.Joins
set_option linter.unusedVariables false
set_option linter.unusedSimpArgs false

/-- the keys that were laid, and nothing else -/
def Laid (P : ByteArray → Prop) (F : List NC) : Prop := ∀ x : NC, x ∈ F ↔ x.st = 1 ∧ x.rest = ByteArray.empty ∧ KeyOk x.key ∧ P x.key
theorem rising_ext : ∀ {F G : List NC}, Rising F → Rising G → (∀ x, x ∈ F ↔ x ∈ G) → F = G
  | [], [], _, _, _ => rfl
  | [], y :: G, _, _, h => by have := (h y).2 (List.mem_cons_self ..); cases this
  | x :: F, [], _, _, h => by have := (h x).1 (List.mem_cons_self ..); cases this
  | x :: F, y :: G, hF, hG, h => by
    obtain ⟨hx, hF2⟩ := List.pairwise_cons.1 hF
    obtain ⟨hy, hG2⟩ := List.pairwise_cons.1 hG
    have e : x = y := by
      rcases List.mem_cons.1 ((h x).1 (List.mem_cons_self ..)) with e | h1
      · exact e
      · rcases List.mem_cons.1 ((h y).2 (List.mem_cons_self ..)) with e | h2
        · exact e.symm
        · exact absurd (hy x h1) (hx y h2).asymm
    subst e
    rw [rising_ext hF2 hG2 fun z => ?_]
    constructor
    · intro hz
      rcases List.mem_cons.1 ((h z).1 (List.mem_cons_of_mem _ hz)) with e | h1
      · subst e; exact absurd (hx z hz) (KLt.irrefl _)
      · exact h1
    · intro hz
      rcases List.mem_cons.1 ((h z).2 (List.mem_cons_of_mem _ hz)) with e | h1
      · subst e; exact absurd (hy z hz) (KLt.irrefl _)
      · exact h1
theorem laid_ext {P : ByteArray → Prop} {F G : List NC} (hF : Laid P F) (hG : Laid P G) (h1 : Rising F) (h2 : Rising G) : F = G := rising_ext h1 h2 fun x => (hF x).trans (hG x).symm
theorem laid_put {P : ByteArray → Prop} {F F' : List NC} {k : ByteArray} {u : Un} {er : Int} (h : Laid P F) (hk : KeyOk k) (hd : PutDid F F' ⟨k, 1, ByteArray.empty⟩ ([] ++ [k]) u er) (he : er = 0 ∨ er = 160 ∧ ∃ x ∈ F, x.key = k ∧ x.st = 1) : Laid (fun q => P q ∨ q = k) F' ∧ (er ≠ 0 → F' = F) := by
  rcases hd with ⟨rfl, -, ⟨x, hx, -, hs, -⟩ | ⟨-, -, hf⟩⟩ | ⟨h0, -, rfl⟩
  · have := ((h x).1 hx).1
    omega
  · refine ⟨fun x => ⟨fun hx => ?_, fun ⟨h1, h2, h3, h4⟩ => ?_⟩, fun h => absurd rfl h⟩
    · rcases hf.back x hx with rfl | hx
      · exact ⟨rfl, rfl, hk, .inr rfl⟩
      · obtain ⟨h1, h2, h3, h4⟩ := (h x).1 hx
        exact ⟨h1, h2, h3, .inl h4⟩
    · rcases h4 with h4 | h4
      · exact hf.kept x ((h x).2 ⟨h1, h2, h3, h4⟩) (.inl h1)
      · obtain ⟨xk, xs, xr⟩ := x
        simp only at h1 h2 h4
        subst h1 h2 h4
        exact hf.memc
  · refine ⟨fun x => ⟨fun hx => ?_, fun ⟨h1, h2, h3, h4⟩ => ?_⟩, fun _ => rfl⟩
    · obtain ⟨h1, h2, h3, h4⟩ := (h x).1 hx
      exact ⟨h1, h2, h3, .inl h4⟩
    · rcases h4 with h4 | h4
      · exact (h x).2 ⟨h1, h2, h3, h4⟩
      · obtain ⟨-, y, hy, hyk, hys⟩ := he.resolve_left h0
        obtain ⟨-, q2, -, -⟩ := (h y).1 hy
        obtain ⟨xk, xs, xr⟩ := x
        obtain ⟨yk, ys, yr⟩ := y
        simp only at h1 h2 h4 hyk hys q2
        subst h1 h2 h4 hyk hys q2
        exact hy
theorem op_order {S : Vol} {F : List NC} {q : Nat} {P : ByteArray → Prop} (h : AtN S 100 2 F q) (hq : q ≤ 70) (hP : Laid P F) (k : ByteArray) (b mb hb pb : Nat) (w0 w : World) (hs : One w0 w b mb hb pb S) :
    Calls Try.prog 47 #[.pointer (some ⟨b, 0, none⟩), .int .i64 1, .string k, .string ByteArray.empty, .slice none 0 0] w fun e w' => ∃ u er S' F', e = .returned (.tuple #[Un.v u, .int .i64 er]) ∧ One w0 w' b mb hb pb S' ∧ S'.Fit 100 ∧ AtN (S'.then16 er) 100 2 F' (q + 1) ∧ Laid (fun x => P x ∨ x = k) F' ∧ (er = 0 ∨ er = 160 ∨ er = 1) := by
  by_cases hk : KeyOk k
  · refine (op_putN h.has (by omega) (.inl (by omega)) k ByteArray.empty hk (by simp) none 0 [] b mb hb pb w0 w hs ⟨by simp, .inl rfl⟩ (by simp)).mono ?_
    rintro e w' ⟨u, er, S', F', rfl, h1, h2, h3, h4, h5⟩
    obtain ⟨h6, h7⟩ := laid_put hP hk h2 h5
    exact ⟨u, er, S', F', rfl, h1, h3.1, atN_land h h3 h4 h7, h6, h5.imp_right fun h => .inl h.1⟩
  · refine (tput_bad _ 1 k ByteArray.empty (fun h => hk h.1) _ w).mono ?_
    rintro e w' ⟨rfl, hb'⟩
    rw [if_neg hk]
    obtain ⟨hf, d, m, N, T, hi, h2, hl⟩ := h.has
    refine ⟨Un.zero, 1, S, F, rfl, hs.below hb', hf, atN_land h ⟨hf, d, m, N, T, hi, h2, by omega⟩ rfl (fun _ => rfl), fun x => ⟨fun hx => ?_, fun ⟨h1, h2, h3, h4⟩ => ?_⟩, .inr (.inr rfl)⟩
    · obtain ⟨h1, h2, h3, h4⟩ := (hP x).1 hx
      exact ⟨h1, h2, h3, .inl h4⟩
    · rcases h4 with h4 | h4
      · exact (hP x).2 ⟨h1, h2, h3, h4⟩
      · rw [h4] at h3; exact absurd h3 hk

/-! ## the other order -/
def atI (turn : Int) (n i : Nat) : Nat := if turn.tmod 2 = 0 then (((i : Int) + turn) % n).toNat else n - 1 - (((i : Int) + turn) % n).toNat
theorem atI_lt {turn : Int} {n i : Nat} (hn : 0 < n) : atI turn n i < n := by
  have h1 := Int.emod_nonneg ((i : Int) + turn) (by omega : (n : Int) ≠ 0)
  have h2 := Int.emod_lt_of_pos ((i : Int) + turn) (by omega : (0 : Int) < n)
  unfold atI
  split <;> omega
theorem atI_onto {turn : Int} {n j : Nat} (hj : j < n) : ∃ i, i < n ∧ atI turn n i = j := by
  have key : ∀ j' : Nat, j' < n → ∃ i : Nat, i < n ∧ (((i : Int) + turn) % n).toNat = j' := fun j' hj' => by
    have h1 := Int.emod_nonneg ((j' : Int) - turn) (by omega : (n : Int) ≠ 0)
    have h2 := Int.emod_lt_of_pos ((j' : Int) - turn) (by omega : (0 : Int) < n)
    refine ⟨(((j' : Int) - turn) % n).toNat, by omega, ?_⟩
    have e : (((((j' : Int) - turn) % n).toNat : Nat) : Int) = ((j' : Int) - turn) % n := by omega
    rw [e, Int.emod_add_emod, show (j' : Int) - turn + turn = (j' : Int) from by omega, Int.emod_eq_of_lt (by omega) (by omega)]
    omega
  unfold atI
  by_cases c : turn.tmod 2 = 0
  · simp only [c, if_true]
    exact key j hj
  · simp only [c, if_false]
    obtain ⟨i, h1, h2⟩ := key (n - 1 - j) (by omega)
    exact ⟨i, h1, by omega⟩
end Go.Proofs.Ytljommhbhpappaa
