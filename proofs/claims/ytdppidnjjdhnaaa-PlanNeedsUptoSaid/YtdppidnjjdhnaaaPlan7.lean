/-
  Layer 20 (plan): the contract of plan.Needs at every kind, and the law's own anchor (awake).
-/
import Derived.Test.YtdppidnjjdhnaaaPlan6
namespace Go.Proofs.Ytdppidnjjdhnaaa
open Go.RowKit Go.Joins
set_option linter.unusedVariables false

theorem bne_t {a : Int} (h : a ≠ 0) : (a != 0) = true := by simp [h]

set_option maxHeartbeats 4000000 in
theorem needs_any (kind : Int) (kd a1 a2 at' len st num err : Int) (vl val key next : ByteArray) (keys : Value) (w : World) (ss : List ByteArray) (hk : StrsAt w keys ss) (hz : ss.length ≤ 1048576) (n0 : -9223372036854775808 ≤ num) (n1 : num ≤ 9223372036854775807) :
    Calls Try.prog 7 #[.iface 32 (.agg #[.int .i64 kd, .int .i64 st, .string key, .string vl, .int .i64 num, .int .i64 a1, .int .i64 a2, .string next, keys, .int .i64 err]), .agg #[.int .i64 kind, .int .i64 st, .string key, .string val, .int .i64 num, .int .i64 at', .int .i64 len]] w (NeedsPost w (needsL kind st key num next ss err)) := by
  by_cases k6 : kind = 6
  · subst k6
    have h : needsL 6 st key num next ss err = [(0, ByteArray.empty, 6)] := by simp [needsL]
    rw [h]
    exact needs6 kd a1 a2 at' len st num err vl val key next keys w
  by_cases k7 : kind = 7
  · subst k7
    have h : needsL 7 st key num next ss err = [(0, ByteArray.empty, 2), (st, ByteArray.empty, 6)] := by simp [needsL]
    rw [h]
    exact needs7 kd a1 a2 at' len st num err vl val key next keys w
  by_cases k8 : kind = 8
  · subst k8
    have h : needsL 8 st key num next ss err = aboveN st 6 := by simp [needsL]
    rw [h]
    exact needs8 kd a1 a2 at' len st num err vl val key next keys w
  by_cases k12 : kind = 12
  · subst k12
    have h : needsL 12 st key num next ss err = [(0, ByteArray.empty, 1), (st, ByteArray.empty, 3)] := by simp [needsL]
    rw [h]
    exact needs12 kd a1 a2 at' len st num err vl val key next keys w
  by_cases k9 : kind = 9
  · subst k9
    have h : needsL 9 st key num next ss err = itemN st (itemL num) 3 := by simp [needsL]
    rw [h]
    exact needs9 kd a1 a2 at' len st num err vl val key next keys w n0 n1
  by_cases k10 : kind = 10
  · subst k10
    have h : needsL 10 st key num next ss err = itemN st (itemL num) 6 := by simp [needsL]
    rw [h]
    exact needs10 kd a1 a2 at' len st num err vl val key next keys w n0 n1
  by_cases k11 : kind = 11
  · subst k11
    have h : needsL 11 st key num next ss err = itemN st (itemL num) 6 := by simp [needsL]
    rw [h]
    exact needs11 kd a1 a2 at' len st num err vl val key next keys w n0 n1
  by_cases k19 : kind = 19
  · subst k19
    have h : needsL 19 st key num next ss err = itemN st (itemL num) 3 := by simp [needsL]
    rw [h]
    exact needs19 kd a1 a2 at' len st num err vl val key next keys w n0 n1
  by_cases k20 : kind = 20
  · subst k20
    have h : needsL 20 st key num next ss err = itemN st (itemL num) 3 := by simp [needsL]
    rw [h]
    exact needs20 kd a1 a2 at' len st num err vl val key next keys w n0 n1
  by_cases k18 : kind = 18
  · subst k18
    have h : needsL 18 st key num next ss err = itemN st (itemL num) 6 := by simp [needsL]
    rw [h]
    exact needs18 kd a1 a2 at' len st num err vl val key next keys w n0 n1
  by_cases k21 : kind = 21
  · subst k21
    have h : needsL 21 st key num next ss err = itemN st (itemL num) 6 := by simp [needsL]
    rw [h]
    exact needs21 kd a1 a2 at' len st num err vl val key next keys w n0 n1
  by_cases k22 : kind = 22
  · subst k22
    have h : needsL 22 st key num next ss err = itemN st (itemL num) 6 := by simp [needsL]
    rw [h]
    exact needs22 kd a1 a2 at' len st num err vl val key next keys w n0 n1
  by_cases k23 : kind = 23
  · subst k23
    have h : needsL 23 st key num next ss err = itemN st (itemL num) 6 := by simp [needsL]
    rw [h]
    exact needs23 kd a1 a2 at' len st num err vl val key next keys w n0 n1
  by_cases k14 : kind = 14
  · subst k14
    by_cases he : err = 0
    · subst he
      have h : needsL 14 st key num next ss 0 = itemN st (nxK next 0) 3 := by simp [needsL]
      rw [h]
      exact needs14o kd a1 a2 at' len st num 0 vl val key next keys w rfl
    · have h : needsL 14 st key num next ss err = aboveN st 3 := by simp [needsL, he]
      rw [h]
      exact needs14e kd a1 a2 at' len st num err vl val key next keys w (bne_t he)
  by_cases k15 : kind = 15
  · subst k15
    by_cases he : err = 0
    · subst he
      by_cases hs : nxK next 0 = key
      · have h : needsL 15 st key num next ss 0 = itemN st (nxK next 0) 6 := by simp [needsL, hs]
        rw [h]
        exact needs15s kd a1 a2 at' len st num 0 vl val key next keys w rfl (seq_true hs)
      · have h : needsL 15 st key num next ss 0 = itemN st (nxK next 0) 3 := by simp [needsL, hs]
        rw [h]
        exact needs15d kd a1 a2 at' len st num 0 vl val key next keys w rfl (seq_false hs)
    · have h : needsL 15 st key num next ss err = aboveN st 6 := by simp [needsL, he]
      rw [h]
      exact needs15e kd a1 a2 at' len st num err vl val key next keys w (bne_t he)
  by_cases k16 : kind = 16
  · subst k16
    by_cases he : err = 0
    · subst he
      by_cases hs : nxK next 0 = key
      · have h : needsL 16 st key num next ss 0 = itemN st (nxK next 0) 6 := by simp [needsL, hs]
        rw [h]
        exact needs16s kd a1 a2 at' len st num 0 vl val key next keys w rfl (seq_true hs)
      · have h : needsL 16 st key num next ss 0 = itemN st (nxK next 0) 3 := by simp [needsL, hs]
        rw [h]
        exact needs16d kd a1 a2 at' len st num 0 vl val key next keys w rfl (seq_false hs)
    · have h : needsL 16 st key num next ss err = aboveN st 6 := by simp [needsL, he]
      rw [h]
      exact needs16e kd a1 a2 at' len st num err vl val key next keys w (bne_t he)
  by_cases k13 : kind = 13
  · subst k13
    by_cases he : err = 0
    · subst he
      by_cases hs : nxK next 0 = key
      · have h : needsL 13 st key num next ss 0 = itemN st key 6 := by simp [needsL, hs]
        rw [h]
        exact needs13s kd a1 a2 at' len st num 0 vl val key next keys w rfl (seq_true hs)
      · have h : needsL 13 st key num next ss 0 = itemN st key 6 ++ [(st, nxK next 0, 6)] := by simp [needsL, hs]
        rw [h]
        exact needs13d kd a1 a2 at' len st num 0 vl val key next keys w rfl (seq_false hs)
    · have h : needsL 13 st key num next ss err = aboveN st 6 := by simp [needsL, he]
      rw [h]
      exact needs13e kd a1 a2 at' len st num err vl val key next keys w (bne_t he)
  by_cases k17 : kind = 17
  · subst k17
    by_cases he : err = 0
    · subst he
      have h : needsL 17 st key num next ss 0 = aboveN st 3 ++ rangeN st ss := by simp [needsL, rangeN, rangeK]
      rw [h]
      exact needs17o kd a1 a2 at' len st num vl val key next keys w ss hk hz
    · have h : needsL 17 st key num next ss err = aboveN st 3 := by simp [needsL, he]
      rw [h]
      exact needs17e kd a1 a2 at' len st num err vl val key next keys w ss hk hz (bne_t he)
  have h : needsL kind st key num next ss err = [] := by simp [needsL, k6, k7, k8, k9, k10, k11, k12, k19, k20, k18, k21, k22, k23, k14, k15, k16, k13, k17]
  rw [h]
  exact needsElse kind kd a1 a2 at' len st num err vl val key next keys w (by simp [k6]) (by simp [k7]) (by simp [k8]) (by simp [k9]) (by simp [k10]) (by simp [k11]) (by simp [k12]) (by simp [k19]) (by simp [k20]) (by simp [k18]) (by simp [k21]) (by simp [k22]) (by simp [k23]) (by simp [k14]) (by simp [k15]) (by simp [k16]) (by simp [k13]) (by simp [k17])

theorem needs_awake (w : World) : Calls Try.prog 7 #[.iface 32 (.agg #[.int .i64 0, .int .i64 1, .string ⟨#[99]⟩, .string ByteArray.empty, .int .i64 0, .int .i64 0, .int .i64 0, .string ⟨#[100]⟩, .slice none 0 0, .int .i64 0]),
    .agg #[.int .i64 13, .int .i64 1, .string ⟨#[99]⟩, .string ByteArray.empty, .int .i64 0, .int .i64 0, .int .i64 0]] w fun e w' => ∃ g cap, e = .returned (.slice (some ⟨g, 0, none⟩) 4 cap) ∧
      (w'.cell? ⟨g, 0, none⟩ = some (.int .i64 0) ∧ w'.cell? ⟨g, 1, none⟩ = some (.string ByteArray.empty) ∧ w'.cell? ⟨g, 2, none⟩ = some (.int .i64 2)) ∧
      (w'.cell? ⟨g, 9, none⟩ = some (.int .i64 1) ∧ w'.cell? ⟨g, 10, none⟩ = some (.string ⟨#[100]⟩) ∧ w'.cell? ⟨g, 11, none⟩ = some (.int .i64 6)) ∧ Below w.heap.size w w' :=
  (needs_any 13 0 0 0 0 0 1 0 0 ByteArray.empty ByteArray.empty ⟨#[99]⟩ ⟨#[100]⟩ (.slice none 0 0) w [] (.inl ⟨none, 0, rfl, rfl, fun _ => rfl⟩) (by simp) (by omega) (by omega)).mono fun e w' ⟨v, he, hown, hb⟩ => by
    have hl : needsL 13 1 ⟨#[99]⟩ 0 ⟨#[100]⟩ [] 0 = [(0, ByteArray.empty, 2), (1, ByteArray.empty, 2), (1, ⟨#[99]⟩, 6), (1, ⟨#[100]⟩, 6)] := rfl
    rw [hl] at hown
    obtain ⟨g, cap, rfl⟩ := ownsRow_form hown (by simp)
    have hc := hown.cells (g := g) rfl
    simp only [Addr.add_lit, Nat.zero_add] at hc
    exact ⟨g, cap, he, ⟨hc 0 _ rfl, hc 1 _ rfl, hc 2 _ rfl⟩, ⟨hc 9 _ rfl, hc 10 _ rfl, hc 11 _ rfl⟩, hb⟩

set_option maxHeartbeats 1000000 in
theorem awake20 (w : World) : Calls Try.prog 6 #[] w fun e w' => e = .returned (.bool true) ∧ Below w.heap.size w w' := by
  have h9 : ([255, 255, 255, 255, 255, 255, 255, 255, 255] == endL.toList) = true := by rw [ByteArray.toList_eq]; rfl
  go_enter Try.func6, Try.ntmps6
  go_wp2_with (first
    | (go_at_call 7; refine (needs_awake _).mono ?_; rintro e w1 ⟨g, cap, rfl, ⟨c0, c1, c2⟩, ⟨c9, c10, c11⟩, hb1⟩)
    | (go_at_call 12; refine (rend_any _).mono ?_; rintro e w2 ⟨rfl, hb2⟩))
  go_ret
  exact ⟨rfl, hb1.trans (hb2.mono hb1.size)⟩
end Go.Proofs.Ytdppidnjjdhnaaa
