/-
  Layer 20 (plan): the contract of plan.Needs: the list of needs is the plain function needsL of the operation's kind, store, key, number, and of what the peek answers.
-/
import Derived.Test.YtdppidnjjdhnaaaPlan3
namespace Go.Proofs.Ytdppidnjjdhnaaa
open Go.RowKit Go.Joins
set_option linter.unusedVariables false

def needsL (kind st : Int) (key : ByteArray) (num : Int) (next : ByteArray) (keys : List ByteArray) (err : Int) : List (Int × ByteArray × Int) :=
  if kind = 6 then [(0, ByteArray.empty, 6)]
  else if kind = 7 then [(0, ByteArray.empty, 2), (st, ByteArray.empty, 6)]
  else if kind = 8 then aboveN st 6
  else if kind = 9 then itemN st (itemL num) 3
  else if kind = 10 ∨ kind = 11 then itemN st (itemL num) 6
  else if kind = 12 then [(0, ByteArray.empty, 1), (st, ByteArray.empty, 3)]
  else if kind = 19 ∨ kind = 20 then itemN st (itemL num) 3
  else if kind = 18 ∨ kind = 21 ∨ kind = 22 ∨ kind = 23 then itemN st (itemL num) 6
  else if kind = 14 then (if err ≠ 0 then aboveN st 3 else itemN st (nxK next err) 3)
  else if kind = 15 ∨ kind = 16 then (if err ≠ 0 then aboveN st 6 else if nxK next err = key then itemN st (nxK next err) 6 else itemN st (nxK next err) 3)
  else if kind = 13 then (if err ≠ 0 then aboveN st 6 else if nxK next err = key then itemN st key 6 else itemN st key 6 ++ [(st, nxK next err, 6)])
  else if kind = 17 then (if err ≠ 0 then aboveN st 3 else aboveN st 3 ++ keys.map fun k => (st, if k = ByteArray.empty then endL else k, 3))
  else []

/-- what a contract of Needs says of a list of needs -/
def NeedsPost (w : World) (l : List (Int × ByteArray × Int)) (e : Ending) (w' : World) : Prop :=
  ∃ v, e = .returned v ∧ w'.ownsRow w.heap.size 40 3 v l.length (needC l) ∧ Below w.heap.size w w'

theorem own2 (w : World) (a b : Int) (s t : ByteArray) (m n : Int) (g : Nat) (hg : g = w.heap.size) : (w.alloc (.cells #[.int .i64 a, .string s, .int .i64 m, .int .i64 b, .string t, .int .i64 n] 40)).ownsRow g 40 3
    (.slice (some ⟨g, 0, none⟩) 2 2) 2 (needC [(a, s, m), (b, t, n)]) := by
  subst hg
  exact ⟨rfl, .inr ⟨w.heap.size, 2, _, rfl, Nat.le_refl _, heap_alloc_new w _, Nat.le_refl _, by simp [maxLen], rfl, rfl⟩⟩
theorem own1 (w : World) (a : Int) (s : ByteArray) (m : Int) (g : Nat) (hg : g = w.heap.size) : (w.alloc (.cells #[.int .i64 a, .string s, .int .i64 m] 40)).ownsRow g 40 3
    (.slice (some ⟨g, 0, none⟩) 1 1) 1 (needC [(a, s, m)]) := by
  subst hg
  exact ⟨rfl, .inr ⟨w.heap.size, 1, _, rfl, Nat.le_refl _, heap_alloc_new w _, Nat.le_refl _, by simp [maxLen], rfl, rfl⟩⟩

theorem below_drew0 {B : Nat} {a w : World} (h : Below B a w) : Below B a w.drew := h.drew
theorem keep2 {B : Nat} {w w' : World} {p q : Addr} {a b : Value} (hb : Below B w w') (h : w.cell? p = some a ∧ w.cell? q = some b) (hp : p.block < B) (hq : q.block < B) :
    w'.cell? p = some a ∧ w'.cell? q = some b := ⟨(hb.cell hp).trans h.1, (hb.cell hq).trans h.2⟩

set_option maxHeartbeats 2000000 in
set_option maxRecDepth 100000 in
theorem needs6 (kd a1 a2 at' len st num err : Int) (vl val key next : ByteArray) (keys : Value) (w : World) :
    Calls Try.prog 7 #[.iface 32 (.agg #[.int .i64 kd, .int .i64 st, .string key, .string vl, .int .i64 num, .int .i64 a1, .int .i64 a2, .string next, keys, .int .i64 err]), .agg #[.int .i64 6, .int .i64 st, .string key, .string val, .int .i64 num, .int .i64 at', .int .i64 len]] w (NeedsPost w ([(0, ByteArray.empty, 6)])) := by
  go_enter Try.func7, Try.ntmps7
  go_wp2
  go_ret
  exact ⟨_, rfl, ownsRow_le (own1 _ _ _ _ _ (by simp)) (Nat.le_succ _), (((Below.refl _ _).alloc (Nat.le_refl _) _)).alloc (by simp) _⟩

set_option maxHeartbeats 2000000 in
set_option maxRecDepth 100000 in
theorem needs7 (kd a1 a2 at' len st num err : Int) (vl val key next : ByteArray) (keys : Value) (w : World) :
    Calls Try.prog 7 #[.iface 32 (.agg #[.int .i64 kd, .int .i64 st, .string key, .string vl, .int .i64 num, .int .i64 a1, .int .i64 a2, .string next, keys, .int .i64 err]), .agg #[.int .i64 7, .int .i64 st, .string key, .string val, .int .i64 num, .int .i64 at', .int .i64 len]] w (NeedsPost w ([(0, ByteArray.empty, 2), (st, ByteArray.empty, 6)])) := by
  go_enter Try.func7, Try.ntmps7
  go_wp2
  go_ret
  exact ⟨_, rfl, ownsRow_le (own2 _ _ _ _ _ _ _ _ (by simp)) (Nat.le_succ _), (((Below.refl _ _).alloc (Nat.le_refl _) _)).alloc (by simp) _⟩

set_option maxHeartbeats 2000000 in
set_option maxRecDepth 100000 in
theorem needs12 (kd a1 a2 at' len st num err : Int) (vl val key next : ByteArray) (keys : Value) (w : World) :
    Calls Try.prog 7 #[.iface 32 (.agg #[.int .i64 kd, .int .i64 st, .string key, .string vl, .int .i64 num, .int .i64 a1, .int .i64 a2, .string next, keys, .int .i64 err]), .agg #[.int .i64 12, .int .i64 st, .string key, .string val, .int .i64 num, .int .i64 at', .int .i64 len]] w (NeedsPost w ([(0, ByteArray.empty, 1), (st, ByteArray.empty, 3)])) := by
  go_enter Try.func7, Try.ntmps7
  go_wp2
  go_ret
  exact ⟨_, rfl, ownsRow_le (own2 _ _ _ _ _ _ _ _ (by simp)) (Nat.le_succ _), (((Below.refl _ _).alloc (Nat.le_refl _) _)).alloc (by simp) _⟩

set_option maxHeartbeats 2000000 in
set_option maxRecDepth 100000 in
theorem needs8 (kd a1 a2 at' len st num err : Int) (vl val key next : ByteArray) (keys : Value) (w : World) :
    Calls Try.prog 7 #[.iface 32 (.agg #[.int .i64 kd, .int .i64 st, .string key, .string vl, .int .i64 num, .int .i64 a1, .int .i64 a2, .string next, keys, .int .i64 err]), .agg #[.int .i64 8, .int .i64 st, .string key, .string val, .int .i64 num, .int .i64 at', .int .i64 len]] w (NeedsPost w (aboveN st 6)) := by
  go_enter Try.func7, Try.ntmps7
  go_wp2_with (go_at_call 13; refine (above2_any _ _ _).mono ?_; rintro e w1 ⟨rfl, rfl⟩)
  go_ret
  exact ⟨_, rfl, ownsRow_le (own2 _ 0 st _ _ (aboveL 6) (aboveL 6) _ (by simp)) (Nat.le_succ _), (((Below.refl _ _).alloc (Nat.le_refl _) _)).alloc (by simp) _⟩

set_option maxHeartbeats 2000000 in
set_option maxRecDepth 100000 in
theorem needs9 (kd a1 a2 at' len st num err : Int) (vl val key next : ByteArray) (keys : Value) (w : World) (n0 : -9223372036854775808 ≤ num) (n1 : num ≤ 9223372036854775807) :
    Calls Try.prog 7 #[.iface 32 (.agg #[.int .i64 kd, .int .i64 st, .string key, .string vl, .int .i64 num, .int .i64 a1, .int .i64 a2, .string next, keys, .int .i64 err]), .agg #[.int .i64 9, .int .i64 st, .string key, .string val, .int .i64 num, .int .i64 at', .int .i64 len]] w (NeedsPost w (itemN st (itemL num) 3)) := by
  go_enter Try.func7, Try.ntmps7
  go_wp2_with fail
  go_region_held3 (fun w' => w'.cell? ⟨w.heap.size, 1, none⟩ = some (.int .i64 st) ∧ w'.cell? ⟨w.heap.size, 4, none⟩ = some (.int .i64 num))
    (first
      | go_keep
      | (refine keep2 hb2 (by assumption) ?_ ?_ <;> (have hs1 := hb1.size; simp at hs1 ⊢; omega))
      | (refine keep2 hb1 ⟨?_, ?_⟩ ?_ ?_ <;> simp [go_sem]))
    (first
      | (go_at_call 15; refine (bitem_any _ _ n0 n1).mono ?_; rintro e w1 ⟨rfl, hb1⟩)
      | (go_at_call 14; refine (item_any _ _ _ _).mono ?_; rintro e w2 ⟨v, rfl, hown, hb2⟩))
  go_wp2
  go_ret
  exact ⟨_, rfl, ownsRow_le hown (by have hs1 := hb1.size; simp at hs1; omega), ((below_drew0 (((Below.refl _ _).alloc (Nat.le_refl _) _))).trans (hb1.mono (by simp))).trans (hb2.mono (by have hs1 := hb1.size; simp at hs1; omega))⟩

set_option maxHeartbeats 2000000 in
set_option maxRecDepth 100000 in
theorem needs10 (kd a1 a2 at' len st num err : Int) (vl val key next : ByteArray) (keys : Value) (w : World) (n0 : -9223372036854775808 ≤ num) (n1 : num ≤ 9223372036854775807) :
    Calls Try.prog 7 #[.iface 32 (.agg #[.int .i64 kd, .int .i64 st, .string key, .string vl, .int .i64 num, .int .i64 a1, .int .i64 a2, .string next, keys, .int .i64 err]), .agg #[.int .i64 10, .int .i64 st, .string key, .string val, .int .i64 num, .int .i64 at', .int .i64 len]] w (NeedsPost w (itemN st (itemL num) 6)) := by
  go_enter Try.func7, Try.ntmps7
  go_wp2_with fail
  go_region_held3 (fun w' => w'.cell? ⟨w.heap.size, 1, none⟩ = some (.int .i64 st) ∧ w'.cell? ⟨w.heap.size, 4, none⟩ = some (.int .i64 num))
    (first
      | go_keep
      | (refine keep2 hb2 (by assumption) ?_ ?_ <;> (have hs1 := hb1.size; simp at hs1 ⊢; omega))
      | (refine keep2 hb1 ⟨?_, ?_⟩ ?_ ?_ <;> simp [go_sem]))
    (first
      | (go_at_call 15; refine (bitem_any _ _ n0 n1).mono ?_; rintro e w1 ⟨rfl, hb1⟩)
      | (go_at_call 14; refine (item_any _ _ _ _).mono ?_; rintro e w2 ⟨v, rfl, hown, hb2⟩))
  go_wp2
  go_ret
  exact ⟨_, rfl, ownsRow_le hown (by have hs1 := hb1.size; simp at hs1; omega), ((below_drew0 (((Below.refl _ _).alloc (Nat.le_refl _) _))).trans (hb1.mono (by simp))).trans (hb2.mono (by have hs1 := hb1.size; simp at hs1; omega))⟩

set_option maxHeartbeats 2000000 in
set_option maxRecDepth 100000 in
theorem needs11 (kd a1 a2 at' len st num err : Int) (vl val key next : ByteArray) (keys : Value) (w : World) (n0 : -9223372036854775808 ≤ num) (n1 : num ≤ 9223372036854775807) :
    Calls Try.prog 7 #[.iface 32 (.agg #[.int .i64 kd, .int .i64 st, .string key, .string vl, .int .i64 num, .int .i64 a1, .int .i64 a2, .string next, keys, .int .i64 err]), .agg #[.int .i64 11, .int .i64 st, .string key, .string val, .int .i64 num, .int .i64 at', .int .i64 len]] w (NeedsPost w (itemN st (itemL num) 6)) := by
  go_enter Try.func7, Try.ntmps7
  go_wp2_with fail
  go_region_held3 (fun w' => w'.cell? ⟨w.heap.size, 1, none⟩ = some (.int .i64 st) ∧ w'.cell? ⟨w.heap.size, 4, none⟩ = some (.int .i64 num))
    (first
      | go_keep
      | (refine keep2 hb2 (by assumption) ?_ ?_ <;> (have hs1 := hb1.size; simp at hs1 ⊢; omega))
      | (refine keep2 hb1 ⟨?_, ?_⟩ ?_ ?_ <;> simp [go_sem]))
    (first
      | (go_at_call 15; refine (bitem_any _ _ n0 n1).mono ?_; rintro e w1 ⟨rfl, hb1⟩)
      | (go_at_call 14; refine (item_any _ _ _ _).mono ?_; rintro e w2 ⟨v, rfl, hown, hb2⟩))
  go_wp2
  go_ret
  exact ⟨_, rfl, ownsRow_le hown (by have hs1 := hb1.size; simp at hs1; omega), ((below_drew0 (((Below.refl _ _).alloc (Nat.le_refl _) _))).trans (hb1.mono (by simp))).trans (hb2.mono (by have hs1 := hb1.size; simp at hs1; omega))⟩

set_option maxHeartbeats 2000000 in
set_option maxRecDepth 100000 in
theorem needs19 (kd a1 a2 at' len st num err : Int) (vl val key next : ByteArray) (keys : Value) (w : World) (n0 : -9223372036854775808 ≤ num) (n1 : num ≤ 9223372036854775807) :
    Calls Try.prog 7 #[.iface 32 (.agg #[.int .i64 kd, .int .i64 st, .string key, .string vl, .int .i64 num, .int .i64 a1, .int .i64 a2, .string next, keys, .int .i64 err]), .agg #[.int .i64 19, .int .i64 st, .string key, .string val, .int .i64 num, .int .i64 at', .int .i64 len]] w (NeedsPost w (itemN st (itemL num) 3)) := by
  go_enter Try.func7, Try.ntmps7
  go_wp2_with fail
  go_region_held3 (fun w' => w'.cell? ⟨w.heap.size, 1, none⟩ = some (.int .i64 st) ∧ w'.cell? ⟨w.heap.size, 4, none⟩ = some (.int .i64 num))
    (first
      | go_keep
      | (refine keep2 hb2 (by assumption) ?_ ?_ <;> (have hs1 := hb1.size; simp at hs1 ⊢; omega))
      | (refine keep2 hb1 ⟨?_, ?_⟩ ?_ ?_ <;> simp [go_sem]))
    (first
      | (go_at_call 15; refine (bitem_any _ _ n0 n1).mono ?_; rintro e w1 ⟨rfl, hb1⟩)
      | (go_at_call 14; refine (item_any _ _ _ _).mono ?_; rintro e w2 ⟨v, rfl, hown, hb2⟩))
  go_wp2
  go_ret
  exact ⟨_, rfl, ownsRow_le hown (by have hs1 := hb1.size; simp at hs1; omega), ((below_drew0 (((Below.refl _ _).alloc (Nat.le_refl _) _))).trans (hb1.mono (by simp))).trans (hb2.mono (by have hs1 := hb1.size; simp at hs1; omega))⟩

set_option maxHeartbeats 2000000 in
set_option maxRecDepth 100000 in
theorem needs20 (kd a1 a2 at' len st num err : Int) (vl val key next : ByteArray) (keys : Value) (w : World) (n0 : -9223372036854775808 ≤ num) (n1 : num ≤ 9223372036854775807) :
    Calls Try.prog 7 #[.iface 32 (.agg #[.int .i64 kd, .int .i64 st, .string key, .string vl, .int .i64 num, .int .i64 a1, .int .i64 a2, .string next, keys, .int .i64 err]), .agg #[.int .i64 20, .int .i64 st, .string key, .string val, .int .i64 num, .int .i64 at', .int .i64 len]] w (NeedsPost w (itemN st (itemL num) 3)) := by
  go_enter Try.func7, Try.ntmps7
  go_wp2_with fail
  go_region_held3 (fun w' => w'.cell? ⟨w.heap.size, 1, none⟩ = some (.int .i64 st) ∧ w'.cell? ⟨w.heap.size, 4, none⟩ = some (.int .i64 num))
    (first
      | go_keep
      | (refine keep2 hb2 (by assumption) ?_ ?_ <;> (have hs1 := hb1.size; simp at hs1 ⊢; omega))
      | (refine keep2 hb1 ⟨?_, ?_⟩ ?_ ?_ <;> simp [go_sem]))
    (first
      | (go_at_call 15; refine (bitem_any _ _ n0 n1).mono ?_; rintro e w1 ⟨rfl, hb1⟩)
      | (go_at_call 14; refine (item_any _ _ _ _).mono ?_; rintro e w2 ⟨v, rfl, hown, hb2⟩))
  go_wp2
  go_ret
  exact ⟨_, rfl, ownsRow_le hown (by have hs1 := hb1.size; simp at hs1; omega), ((below_drew0 (((Below.refl _ _).alloc (Nat.le_refl _) _))).trans (hb1.mono (by simp))).trans (hb2.mono (by have hs1 := hb1.size; simp at hs1; omega))⟩

set_option maxHeartbeats 2000000 in
set_option maxRecDepth 100000 in
theorem needs18 (kd a1 a2 at' len st num err : Int) (vl val key next : ByteArray) (keys : Value) (w : World) (n0 : -9223372036854775808 ≤ num) (n1 : num ≤ 9223372036854775807) :
    Calls Try.prog 7 #[.iface 32 (.agg #[.int .i64 kd, .int .i64 st, .string key, .string vl, .int .i64 num, .int .i64 a1, .int .i64 a2, .string next, keys, .int .i64 err]), .agg #[.int .i64 18, .int .i64 st, .string key, .string val, .int .i64 num, .int .i64 at', .int .i64 len]] w (NeedsPost w (itemN st (itemL num) 6)) := by
  go_enter Try.func7, Try.ntmps7
  go_wp2_with fail
  go_region_held3 (fun w' => w'.cell? ⟨w.heap.size, 1, none⟩ = some (.int .i64 st) ∧ w'.cell? ⟨w.heap.size, 4, none⟩ = some (.int .i64 num))
    (first
      | go_keep
      | (refine keep2 hb2 (by assumption) ?_ ?_ <;> (have hs1 := hb1.size; simp at hs1 ⊢; omega))
      | (refine keep2 hb1 ⟨?_, ?_⟩ ?_ ?_ <;> simp [go_sem]))
    (first
      | (go_at_call 15; refine (bitem_any _ _ n0 n1).mono ?_; rintro e w1 ⟨rfl, hb1⟩)
      | (go_at_call 14; refine (item_any _ _ _ _).mono ?_; rintro e w2 ⟨v, rfl, hown, hb2⟩))
  go_wp2
  go_ret
  exact ⟨_, rfl, ownsRow_le hown (by have hs1 := hb1.size; simp at hs1; omega), ((below_drew0 (((Below.refl _ _).alloc (Nat.le_refl _) _))).trans (hb1.mono (by simp))).trans (hb2.mono (by have hs1 := hb1.size; simp at hs1; omega))⟩

set_option maxHeartbeats 2000000 in
set_option maxRecDepth 100000 in
theorem needs21 (kd a1 a2 at' len st num err : Int) (vl val key next : ByteArray) (keys : Value) (w : World) (n0 : -9223372036854775808 ≤ num) (n1 : num ≤ 9223372036854775807) :
    Calls Try.prog 7 #[.iface 32 (.agg #[.int .i64 kd, .int .i64 st, .string key, .string vl, .int .i64 num, .int .i64 a1, .int .i64 a2, .string next, keys, .int .i64 err]), .agg #[.int .i64 21, .int .i64 st, .string key, .string val, .int .i64 num, .int .i64 at', .int .i64 len]] w (NeedsPost w (itemN st (itemL num) 6)) := by
  go_enter Try.func7, Try.ntmps7
  go_wp2_with fail
  go_region_held3 (fun w' => w'.cell? ⟨w.heap.size, 1, none⟩ = some (.int .i64 st) ∧ w'.cell? ⟨w.heap.size, 4, none⟩ = some (.int .i64 num))
    (first
      | go_keep
      | (refine keep2 hb2 (by assumption) ?_ ?_ <;> (have hs1 := hb1.size; simp at hs1 ⊢; omega))
      | (refine keep2 hb1 ⟨?_, ?_⟩ ?_ ?_ <;> simp [go_sem]))
    (first
      | (go_at_call 15; refine (bitem_any _ _ n0 n1).mono ?_; rintro e w1 ⟨rfl, hb1⟩)
      | (go_at_call 14; refine (item_any _ _ _ _).mono ?_; rintro e w2 ⟨v, rfl, hown, hb2⟩))
  go_wp2
  go_ret
  exact ⟨_, rfl, ownsRow_le hown (by have hs1 := hb1.size; simp at hs1; omega), ((below_drew0 (((Below.refl _ _).alloc (Nat.le_refl _) _))).trans (hb1.mono (by simp))).trans (hb2.mono (by have hs1 := hb1.size; simp at hs1; omega))⟩

set_option maxHeartbeats 2000000 in
set_option maxRecDepth 100000 in
theorem needs22 (kd a1 a2 at' len st num err : Int) (vl val key next : ByteArray) (keys : Value) (w : World) (n0 : -9223372036854775808 ≤ num) (n1 : num ≤ 9223372036854775807) :
    Calls Try.prog 7 #[.iface 32 (.agg #[.int .i64 kd, .int .i64 st, .string key, .string vl, .int .i64 num, .int .i64 a1, .int .i64 a2, .string next, keys, .int .i64 err]), .agg #[.int .i64 22, .int .i64 st, .string key, .string val, .int .i64 num, .int .i64 at', .int .i64 len]] w (NeedsPost w (itemN st (itemL num) 6)) := by
  go_enter Try.func7, Try.ntmps7
  go_wp2_with fail
  go_region_held3 (fun w' => w'.cell? ⟨w.heap.size, 1, none⟩ = some (.int .i64 st) ∧ w'.cell? ⟨w.heap.size, 4, none⟩ = some (.int .i64 num))
    (first
      | go_keep
      | (refine keep2 hb2 (by assumption) ?_ ?_ <;> (have hs1 := hb1.size; simp at hs1 ⊢; omega))
      | (refine keep2 hb1 ⟨?_, ?_⟩ ?_ ?_ <;> simp [go_sem]))
    (first
      | (go_at_call 15; refine (bitem_any _ _ n0 n1).mono ?_; rintro e w1 ⟨rfl, hb1⟩)
      | (go_at_call 14; refine (item_any _ _ _ _).mono ?_; rintro e w2 ⟨v, rfl, hown, hb2⟩))
  go_wp2
  go_ret
  exact ⟨_, rfl, ownsRow_le hown (by have hs1 := hb1.size; simp at hs1; omega), ((below_drew0 (((Below.refl _ _).alloc (Nat.le_refl _) _))).trans (hb1.mono (by simp))).trans (hb2.mono (by have hs1 := hb1.size; simp at hs1; omega))⟩

set_option maxHeartbeats 2000000 in
set_option maxRecDepth 100000 in
theorem needs23 (kd a1 a2 at' len st num err : Int) (vl val key next : ByteArray) (keys : Value) (w : World) (n0 : -9223372036854775808 ≤ num) (n1 : num ≤ 9223372036854775807) :
    Calls Try.prog 7 #[.iface 32 (.agg #[.int .i64 kd, .int .i64 st, .string key, .string vl, .int .i64 num, .int .i64 a1, .int .i64 a2, .string next, keys, .int .i64 err]), .agg #[.int .i64 23, .int .i64 st, .string key, .string val, .int .i64 num, .int .i64 at', .int .i64 len]] w (NeedsPost w (itemN st (itemL num) 6)) := by
  go_enter Try.func7, Try.ntmps7
  go_wp2_with fail
  go_region_held3 (fun w' => w'.cell? ⟨w.heap.size, 1, none⟩ = some (.int .i64 st) ∧ w'.cell? ⟨w.heap.size, 4, none⟩ = some (.int .i64 num))
    (first
      | go_keep
      | (refine keep2 hb2 (by assumption) ?_ ?_ <;> (have hs1 := hb1.size; simp at hs1 ⊢; omega))
      | (refine keep2 hb1 ⟨?_, ?_⟩ ?_ ?_ <;> simp [go_sem]))
    (first
      | (go_at_call 15; refine (bitem_any _ _ n0 n1).mono ?_; rintro e w1 ⟨rfl, hb1⟩)
      | (go_at_call 14; refine (item_any _ _ _ _).mono ?_; rintro e w2 ⟨v, rfl, hown, hb2⟩))
  go_wp2
  go_ret
  exact ⟨_, rfl, ownsRow_le hown (by have hs1 := hb1.size; simp at hs1; omega), ((below_drew0 (((Below.refl _ _).alloc (Nat.le_refl _) _))).trans (hb1.mono (by simp))).trans (hb2.mono (by have hs1 := hb1.size; simp at hs1; omega))⟩
end Go.Proofs.Ytdppidnjjdhnaaa
