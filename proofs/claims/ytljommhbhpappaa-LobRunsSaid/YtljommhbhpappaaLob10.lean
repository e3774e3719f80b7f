/-
  Layer 17 (lob): a change's steps, landed; what the steps look like (plain law).
-/
import Derived.Test.YtljommhbhpappaaLob9
namespace Go.Proofs.Ytljommhbhpappaa
open Go.RowKit Go.Joins
set_option linter.unusedVariables false
set_option linter.unusedSimpArgs false

theorem chunks_pos (b : ByteArray) : 1 ≤ (chunks b).length := by rw [chunks_len b.size b (Nat.le_refl _)]; omega
theorem opR_ok {M : Mo} {c : Ao} (h0 : (opR M c).1 = 0) (hM : ∀ n b, M n = some b → b.size ≤ 4096) :
    (0 ≤ c.num ∧ c.num < 1000) ∧ (∀ x, (opR M c).2 = some x → x.size ≤ 4096) ∧ (chunksO (opR M c).2).length ≤ (chunksO (M c.num)).length + 4 := by
  unfold opR at h0 ⊢
  by_cases k1 : c.kind = 18
  · rw [if_pos k1] at h0 ⊢
    by_cases e1 : (byR M c.num).2 = 150
    · rw [if_pos e1]
      obtain ⟨h1, h2⟩ := byR_none e1
      refine ⟨h1, fun x hx => ?_, ?_⟩
      · cases hx; simp
      · rw [h2]
        show (chunks ByteArray.empty).length ≤ _
        rw [chunks_small (by simp)]; simp
    · rw [if_neg e1] at h0
      by_cases e2 : (byR M c.num).2 = 0
      · rw [if_pos e2] at h0; cases h0
      · rw [if_neg e2] at h0; exact absurd h0 e2
  · rw [if_neg k1] at h0 ⊢
    by_cases k2 : c.kind = 21
    · rw [if_pos k2] at h0 ⊢
      have e0 : (byR M c.num).2 = 0 := Decidable.byContradiction fun hne => by
        simp only at h0; unfold wrR at h0; rw [if_pos hne] at h0; exact hne h0
      obtain ⟨h1, h2⟩ := byR_num e0
      have hs := wrR_size (r := byR M c.num) (pos := c.pos) (val := c.val) h0 (hM _ _ h2)
      refine ⟨h1, fun x hx => ?_, ?_⟩
      · cases hx; exact hs.1
      · rw [h2]
        show (chunks _).length ≤ (chunks _).length + 4
        rw [chunks_len _ _ (Nat.le_refl _), chunks_len _ _ (Nat.le_refl _)]
        omega
    · rw [if_neg k2] at h0 ⊢
      by_cases k3 : c.kind = 22
      · rw [if_pos k3] at h0 ⊢
        have e0 : (byR M c.num).2 = 0 := Decidable.byContradiction fun hne => by
          simp only at h0; unfold trR at h0; rw [if_pos hne] at h0; exact hne h0
        obtain ⟨h1, h2⟩ := byR_num e0
        have hs := trR_size (r := byR M c.num) (n := c.len) h0
        have hb := hM _ _ h2
        refine ⟨h1, fun x hx => ?_, ?_⟩
        · cases hx; omega
        · rw [h2]
          show (chunks _).length ≤ (chunks _).length + 4
          rw [chunks_len _ _ (Nat.le_refl _), chunks_len _ _ (Nat.le_refl _)]
          omega
      · rw [if_neg k3] at h0 ⊢
        obtain ⟨h1, h2⟩ := byR_num h0
        exact ⟨h1, fun x hx => (by cases hx), Nat.zero_le _⟩
theorem opL_len {M : Mo} {c : Ao} (hM : ∀ n b, M n = some b → b.size ≤ 4096) : (opL M c).length ≤ 1000 := by
  unfold opL
  split
  · rename_i h0
    obtain ⟨h1, h2, h3⟩ := opR_ok h0 hM
    have l1 := chunksO_len (o := M c.num) (fun b hb => hM _ b hb)
    have l2 := chunksO_len h2
    have := stepsTo_len c.num (chunksO (M c.num)) (chunksO (opR M c).2) (max (chunksO (M c.num)).length (chunksO (opR M c).2).length)
    unfold stepsFull
    omega
  · simp
theorem LandAt.le {w0 w : World} {b mb hb pb : Nat} {g : Gm} {q q' : Nat} (h : LandAt w0 w b mb hb pb g q) (hq : q ≤ q') : LandAt w0 w b mb hb pb g q' := by
  obtain ⟨S, F, h1, ⟨hf, d, m, N, T, hi, hF, hl⟩, h3⟩ := h
  exact ⟨S, F, h1, ⟨hf, d, m, N, T, hi, hF, by omega⟩, h3⟩
theorem land_op {w0 w : World} {b mb hb pb : Nat} {M : Mo} {q : Nat} (h : LobAt w0 w b mb hb pb M q) (c : Ao) (h0 : (opR M c).1 = 0) (hq : q + 4 ≤ 1000) (a : Option Addr) (cp : Nat) (hr : StpAt w mb a (opL M c)) :
    Calls Try.prog 19 #[.pointer (some ⟨b, 0, none⟩), .slice a (opL M c).length cp] w fun e w' => e = .returned (.bool true) ∧ LobAt w0 w' b mb hb pb (updO M c.num (opR M c).2) (q + 4) ∧ w.grownBy w' (some mb) := by
  obtain ⟨g, h1, h2⟩ := h
  obtain ⟨k1, k2, k3⟩ := opR_ok h0 h2.small
  obtain ⟨v1, v2, v3⟩ := h2.step k1 k2
  have hl := opL_len (c := c) h2.small
  have e : opL M c = stepsFull c.num (chunksO (M c.num)) (chunksO (opR M c).2) := if_pos h0
  rw [← e] at v1 v2 v3
  refine (land17 _ g q v1 (by omega) (by omega) b mb hb pb a cp w0 w h1 hr).mono ?_
  rintro e' w' ⟨rfl, k4, k5⟩
  exact ⟨rfl, ⟨_, k4.le (by omega), v2⟩, k5⟩
theorem LobAt.mb_lt {w0 w : World} {b mb hb pb : Nat} {M : Mo} {q : Nat} (h : LobAt w0 w b mb hb pb M q) : mb < w.heap.size := by
  obtain ⟨g, h1, -⟩ := h
  exact h1.mb_lt.1
/-- the list that a call made is where land finds it -/
theorem StepsOut.at {w0 w w' : World} {b mb hb pb : Nat} {M : Mo} {q : Nat} (h : LobAt w0 w b mb hb pb M q) {v : Value} {L : List Stp} (hs : StepsOut w w' v L) : ∃ a cp, v = .slice a L.length cp ∧ LobAt w0 w' b mb hb pb M q ∧ StpAt w' mb a L := by
  obtain ⟨a, cp, rfl, h2⟩ := stpAt_own hs.2 h.mb_lt
  exact ⟨a, cp, rfl, h.below hs.1, h2⟩

/-! ## what steps look like -/
structure StepsOf (num : Int) (n : Nat) (L : List Stp) (P : List Nat) : Prop where
  len : L.length = P.length
  lt : ∀ p ∈ P, p < n
  up : P.Pairwise (· < ·)
  key : ∀ (i : Nat) (h : i < L.length) (h2 : i < P.length), L[i].2.1 = key4 num P[i]
  val : ∀ x ∈ L, x.2.2.size ≤ 16 ∧ (x.1 = 16 → x.2.2 = ByteArray.empty)
theorem stepAt_of (num : Int) (fr to : List ByteArray) (hto : ∀ x ∈ to, x.size ≤ 16) (k : Nat) : stepAt num fr to k = [] ∨ ∃ kind val, stepAt num fr to k = [(kind, key4 num k, val)] ∧ val.size ≤ 16 ∧ (kind = 16 → val = ByteArray.empty) := by
  unfold stepAt
  by_cases c1 : to.length ≤ k
  · rw [if_pos c1]; exact .inr ⟨_, _, rfl, by simp, fun _ => rfl⟩
  · rw [if_neg c1]
    have hgd : to.getD k ByteArray.empty = to[k] := by simp [List.getD, List.getElem?_eq_getElem (by omega : k < to.length)]
    have hs := hto _ (List.getElem_mem (by omega : k < to.length))
    rw [hgd]
    by_cases c2 : fr.length ≤ k
    · rw [if_pos c2]; exact .inr ⟨_, _, rfl, hs, fun e => by cases e⟩
    · rw [if_neg c2]
      split
      · exact .inl rfl
      · exact .inr ⟨_, _, rfl, hs, fun e => by cases e⟩
theorem stepsTo_of (num : Int) (fr to : List ByteArray) (hto : ∀ x ∈ to, x.size ≤ 16) : ∀ n, ∃ P, StepsOf num n (stepsTo num fr to n) P
  | 0 => ⟨[], by simp [stepsTo], by simp, List.Pairwise.nil, fun i h => by simp [stepsTo] at h, fun x hx => by simp [stepsTo] at hx⟩
  | n + 1 => by
    obtain ⟨P, h⟩ := stepsTo_of num fr to hto n
    rw [stepsTo_succ]
    rcases stepAt_of num fr to hto n with e | ⟨kind, val, e, h1, h2⟩
    · rw [e, List.append_nil]
      exact ⟨P, h.len, fun p hp => by have := h.lt p hp; omega, h.up, h.key, h.val⟩
    · rw [e]
      refine ⟨P ++ [n], by simp [h.len], fun p hp => ?_, ?_, fun i hi h2i => ?_, fun x hx => ?_⟩
      · rcases List.mem_append.1 hp with hp | hp
        · have := h.lt p hp; omega
        · obtain rfl : p = n := by simpa using hp
          omega
      · refine List.pairwise_append.2 ⟨h.up, List.pairwise_singleton _ _, fun a ha b hb => ?_⟩
        obtain rfl : b = n := by simpa using hb
        exact h.lt a ha
      · by_cases c : i < (stepsTo num fr to n).length
        · rw [List.getElem_append_left c, List.getElem_append_left (by rw [← h.len]; exact c)]
          exact h.key i c (by rw [← h.len]; exact c)
        · have hie : i = (stepsTo num fr to n).length := by simp at hi; omega
          rw [List.getElem_append_right (by omega), List.getElem_append_right (by rw [← h.len]; omega)]
          simp
      · rcases List.mem_append.1 hx with hx | hx
        · exact h.val x hx
        · obtain rfl : x = (kind, key4 num n, val) := by simpa using hx
          exact ⟨h1, h2⟩
theorem opL_of (M : Mo) (c : Ao) (hM : ∀ n b, M n = some b → b.size ≤ 4096) : ∃ P, StepsOf c.num 256 (opL M c) P := by
  unfold opL
  split
  · rename_i h0
    obtain ⟨h1, h2, h3⟩ := opR_ok h0 hM
    have l1 := chunksO_len (o := M c.num) (fun b hb => hM _ b hb)
    have l2 := chunksO_len h2
    have hto : ∀ x ∈ chunksO (opR M c).2, x.size ≤ 16 := fun x hx => by
      cases ho : (opR M c).2 with
      | none => rw [ho] at hx; cases hx
      | some b => rw [ho] at hx; exact chunks_size b.size b (Nat.le_refl _) x hx
    obtain ⟨P, h⟩ := stepsTo_of c.num (chunksO (M c.num)) (chunksO (opR M c).2) hto (max (chunksO (M c.num)).length (chunksO (opR M c).2).length)
    exact ⟨P, h.len, fun p hp => by have := h.lt p hp; omega, h.up, h.key, h.val⟩
  · exact ⟨[], rfl, by simp, List.Pairwise.nil, fun i h => by simp at h, fun x hx => by cases hx⟩
end Go.Proofs.Ytljommhbhpappaa
