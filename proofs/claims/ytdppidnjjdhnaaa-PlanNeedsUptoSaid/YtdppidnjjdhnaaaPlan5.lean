/-
  Layer 20 (plan): the contract of plan.Needs, continued: the kinds that ask the peek.
-/
import Derived.Test.YtdppidnjjdhnaaaPlan4
namespace Go.Proofs.Ytdppidnjjdhnaaa
open Go.RowKit Go.Joins
set_option linter.unusedVariables false

/-- behind a call that leaves what was there: the boxed operation's cells -/
theorem box3 {w w1 : World} {C : Array Value} {t : TypeId} (hb : Below (w.alloc (.cells C t)).heap.size (w.alloc (.cells C t)) w1) (i : Nat) : w1.cell? ⟨w.heap.size, i, none⟩ = C[i]? :=
  (hb.cell (p := ⟨w.heap.size, i, none⟩) (by simp)).trans (World.cell?_alloc_mark w C t (0, 0) i)
theorem below_box {w w1 : World} {C : Array Value} {t : TypeId} (hb : Below (w.alloc (.cells C t)).heap.size (w.alloc (.cells C t)) w1) : Below w.heap.size w w1 :=
  ((Below.refl _ _).alloc (Nat.le_refl _) _).trans (hb.mono (by simp))
theorem size_box {w w1 : World} {C : Array Value} {t : TypeId} (hb : Below (w.alloc (.cells C t)).heap.size (w.alloc (.cells C t)) w1) : w.heap.size < w1.heap.size := by
  have := hb.size; simp at this; omega

set_option maxHeartbeats 2000000 in
set_option maxRecDepth 100000 in
theorem needs14e (kd a1 a2 at' len st num err : Int) (vl val key next : ByteArray) (keys : Value) (w : World) (b1 : (err != 0) = true) :
    Calls Try.prog 7 #[.iface 32 (.agg #[.int .i64 kd, .int .i64 st, .string key, .string vl, .int .i64 num, .int .i64 a1, .int .i64 a2, .string next, keys, .int .i64 err]), .agg #[.int .i64 14, .int .i64 st, .string key, .string val, .int .i64 num, .int .i64 at', .int .i64 len]] w (NeedsPost w (aboveN st 3)) := by
  go_enter Try.func7, Try.ntmps7
  go_wp2_with (first
    | (go_at_call 16; refine (next_any _ _ _ _ _ _ _ _ _ _ _).mono ?_; rintro e w1 ⟨rfl, hb1⟩; have c1 := box3 hb1 1; have c2 := box3 hb1 2; simp only [List.getElem?_toArray, List.getElem?_cons_succ, List.getElem?_cons_zero] at c1 c2)
    | (go_at_call 13; refine (above2_any _ _ _).mono ?_; rintro e w2 ⟨rfl, rfl⟩))
  go_ret
  exact ⟨_, rfl, ownsRow_le (own2 _ 0 st _ _ (aboveL 3) (aboveL 3) _ rfl) (Nat.le_of_lt (size_box hb1)), (below_box hb1).alloc (Nat.le_of_lt (size_box hb1)) _⟩

set_option maxHeartbeats 2000000 in
set_option maxRecDepth 100000 in
theorem needs15e (kd a1 a2 at' len st num err : Int) (vl val key next : ByteArray) (keys : Value) (w : World) (b1 : (err != 0) = true) :
    Calls Try.prog 7 #[.iface 32 (.agg #[.int .i64 kd, .int .i64 st, .string key, .string vl, .int .i64 num, .int .i64 a1, .int .i64 a2, .string next, keys, .int .i64 err]), .agg #[.int .i64 15, .int .i64 st, .string key, .string val, .int .i64 num, .int .i64 at', .int .i64 len]] w (NeedsPost w (aboveN st 6)) := by
  go_enter Try.func7, Try.ntmps7
  go_wp2_with (first
    | (go_at_call 16; refine (next_any _ _ _ _ _ _ _ _ _ _ _).mono ?_; rintro e w1 ⟨rfl, hb1⟩; have c1 := box3 hb1 1; have c2 := box3 hb1 2; simp only [List.getElem?_toArray, List.getElem?_cons_succ, List.getElem?_cons_zero] at c1 c2)
    | (go_at_call 13; refine (above2_any _ _ _).mono ?_; rintro e w2 ⟨rfl, rfl⟩))
  go_ret
  exact ⟨_, rfl, ownsRow_le (own2 _ 0 st _ _ (aboveL 6) (aboveL 6) _ rfl) (Nat.le_of_lt (size_box hb1)), (below_box hb1).alloc (Nat.le_of_lt (size_box hb1)) _⟩

set_option maxHeartbeats 2000000 in
set_option maxRecDepth 100000 in
theorem needs16e (kd a1 a2 at' len st num err : Int) (vl val key next : ByteArray) (keys : Value) (w : World) (b1 : (err != 0) = true) :
    Calls Try.prog 7 #[.iface 32 (.agg #[.int .i64 kd, .int .i64 st, .string key, .string vl, .int .i64 num, .int .i64 a1, .int .i64 a2, .string next, keys, .int .i64 err]), .agg #[.int .i64 16, .int .i64 st, .string key, .string val, .int .i64 num, .int .i64 at', .int .i64 len]] w (NeedsPost w (aboveN st 6)) := by
  go_enter Try.func7, Try.ntmps7
  go_wp2_with (first
    | (go_at_call 16; refine (next_any _ _ _ _ _ _ _ _ _ _ _).mono ?_; rintro e w1 ⟨rfl, hb1⟩; have c1 := box3 hb1 1; have c2 := box3 hb1 2; simp only [List.getElem?_toArray, List.getElem?_cons_succ, List.getElem?_cons_zero] at c1 c2)
    | (go_at_call 13; refine (above2_any _ _ _).mono ?_; rintro e w2 ⟨rfl, rfl⟩))
  go_ret
  exact ⟨_, rfl, ownsRow_le (own2 _ 0 st _ _ (aboveL 6) (aboveL 6) _ rfl) (Nat.le_of_lt (size_box hb1)), (below_box hb1).alloc (Nat.le_of_lt (size_box hb1)) _⟩

set_option maxHeartbeats 2000000 in
set_option maxRecDepth 100000 in
theorem needs13e (kd a1 a2 at' len st num err : Int) (vl val key next : ByteArray) (keys : Value) (w : World) (b1 : (err != 0) = true) :
    Calls Try.prog 7 #[.iface 32 (.agg #[.int .i64 kd, .int .i64 st, .string key, .string vl, .int .i64 num, .int .i64 a1, .int .i64 a2, .string next, keys, .int .i64 err]), .agg #[.int .i64 13, .int .i64 st, .string key, .string val, .int .i64 num, .int .i64 at', .int .i64 len]] w (NeedsPost w (aboveN st 6)) := by
  go_enter Try.func7, Try.ntmps7
  go_wp2_with (first
    | (go_at_call 16; refine (next_any _ _ _ _ _ _ _ _ _ _ _).mono ?_; rintro e w1 ⟨rfl, hb1⟩; have c1 := box3 hb1 1; have c2 := box3 hb1 2; simp only [List.getElem?_toArray, List.getElem?_cons_succ, List.getElem?_cons_zero] at c1 c2)
    | (go_at_call 13; refine (above2_any _ _ _).mono ?_; rintro e w2 ⟨rfl, rfl⟩))
  go_ret
  exact ⟨_, rfl, ownsRow_le (own2 _ 0 st _ _ (aboveL 6) (aboveL 6) _ rfl) (Nat.le_of_lt (size_box hb1)), (below_box hb1).alloc (Nat.le_of_lt (size_box hb1)) _⟩

set_option maxHeartbeats 2000000 in
set_option maxRecDepth 100000 in
theorem needs14o (kd a1 a2 at' len st num err : Int) (vl val key next : ByteArray) (keys : Value) (w : World) (b1 : (err != 0) = false) :
    Calls Try.prog 7 #[.iface 32 (.agg #[.int .i64 kd, .int .i64 st, .string key, .string vl, .int .i64 num, .int .i64 a1, .int .i64 a2, .string next, keys, .int .i64 err]), .agg #[.int .i64 14, .int .i64 st, .string key, .string val, .int .i64 num, .int .i64 at', .int .i64 len]] w (NeedsPost w (itemN st (nxK next err) 3)) := by
  go_enter Try.func7, Try.ntmps7
  go_wp2_with (first
    | (go_at_call 16; refine (next_any _ _ _ _ _ _ _ _ _ _ _).mono ?_; rintro e w1 ⟨rfl, hb1⟩; have c1 := box3 hb1 1; have c2 := box3 hb1 2; simp only [List.getElem?_toArray, List.getElem?_cons_succ, List.getElem?_cons_zero] at c1 c2)
    | (go_at_call 14; refine (item_any _ _ _ _).mono ?_; rintro e w2 ⟨v, rfl, hown, hb2⟩))
  go_ret
  exact ⟨_, rfl, ownsRow_le hown (Nat.le_of_lt (size_box hb1)), (below_box hb1).trans (hb2.mono (Nat.le_of_lt (size_box hb1)))⟩

set_option maxHeartbeats 2000000 in
set_option maxRecDepth 100000 in
theorem needs15s (kd a1 a2 at' len st num err : Int) (vl val key next : ByteArray) (keys : Value) (w : World) (b1 : (err != 0) = false) (b2 : ((nxK next err).toList == key.toList) = true) :
    Calls Try.prog 7 #[.iface 32 (.agg #[.int .i64 kd, .int .i64 st, .string key, .string vl, .int .i64 num, .int .i64 a1, .int .i64 a2, .string next, keys, .int .i64 err]), .agg #[.int .i64 15, .int .i64 st, .string key, .string val, .int .i64 num, .int .i64 at', .int .i64 len]] w (NeedsPost w (itemN st (nxK next err) 6)) := by
  go_enter Try.func7, Try.ntmps7
  go_wp2_with (first
    | (go_at_call 16; refine (next_any _ _ _ _ _ _ _ _ _ _ _).mono ?_; rintro e w1 ⟨rfl, hb1⟩; have c1 := box3 hb1 1; have c2 := box3 hb1 2; simp only [List.getElem?_toArray, List.getElem?_cons_succ, List.getElem?_cons_zero] at c1 c2)
    | (go_at_call 14; refine (item_any _ _ _ _).mono ?_; rintro e w2 ⟨v, rfl, hown, hb2⟩))
  go_ret
  exact ⟨_, rfl, ownsRow_le hown (Nat.le_of_lt (size_box hb1)), (below_box hb1).trans (hb2.mono (Nat.le_of_lt (size_box hb1)))⟩

set_option maxHeartbeats 2000000 in
set_option maxRecDepth 100000 in
theorem needs15d (kd a1 a2 at' len st num err : Int) (vl val key next : ByteArray) (keys : Value) (w : World) (b1 : (err != 0) = false) (b2 : ((nxK next err).toList == key.toList) = false) :
    Calls Try.prog 7 #[.iface 32 (.agg #[.int .i64 kd, .int .i64 st, .string key, .string vl, .int .i64 num, .int .i64 a1, .int .i64 a2, .string next, keys, .int .i64 err]), .agg #[.int .i64 15, .int .i64 st, .string key, .string val, .int .i64 num, .int .i64 at', .int .i64 len]] w (NeedsPost w (itemN st (nxK next err) 3)) := by
  go_enter Try.func7, Try.ntmps7
  go_wp2_with (first
    | (go_at_call 16; refine (next_any _ _ _ _ _ _ _ _ _ _ _).mono ?_; rintro e w1 ⟨rfl, hb1⟩; have c1 := box3 hb1 1; have c2 := box3 hb1 2; simp only [List.getElem?_toArray, List.getElem?_cons_succ, List.getElem?_cons_zero] at c1 c2)
    | (go_at_call 14; refine (item_any _ _ _ _).mono ?_; rintro e w2 ⟨v, rfl, hown, hb2⟩))
  go_ret
  exact ⟨_, rfl, ownsRow_le hown (Nat.le_of_lt (size_box hb1)), (below_box hb1).trans (hb2.mono (Nat.le_of_lt (size_box hb1)))⟩

set_option maxHeartbeats 2000000 in
set_option maxRecDepth 100000 in
theorem needs16s (kd a1 a2 at' len st num err : Int) (vl val key next : ByteArray) (keys : Value) (w : World) (b1 : (err != 0) = false) (b2 : ((nxK next err).toList == key.toList) = true) :
    Calls Try.prog 7 #[.iface 32 (.agg #[.int .i64 kd, .int .i64 st, .string key, .string vl, .int .i64 num, .int .i64 a1, .int .i64 a2, .string next, keys, .int .i64 err]), .agg #[.int .i64 16, .int .i64 st, .string key, .string val, .int .i64 num, .int .i64 at', .int .i64 len]] w (NeedsPost w (itemN st (nxK next err) 6)) := by
  go_enter Try.func7, Try.ntmps7
  go_wp2_with (first
    | (go_at_call 16; refine (next_any _ _ _ _ _ _ _ _ _ _ _).mono ?_; rintro e w1 ⟨rfl, hb1⟩; have c1 := box3 hb1 1; have c2 := box3 hb1 2; simp only [List.getElem?_toArray, List.getElem?_cons_succ, List.getElem?_cons_zero] at c1 c2)
    | (go_at_call 14; refine (item_any _ _ _ _).mono ?_; rintro e w2 ⟨v, rfl, hown, hb2⟩))
  go_ret
  exact ⟨_, rfl, ownsRow_le hown (Nat.le_of_lt (size_box hb1)), (below_box hb1).trans (hb2.mono (Nat.le_of_lt (size_box hb1)))⟩

set_option maxHeartbeats 2000000 in
set_option maxRecDepth 100000 in
theorem needs16d (kd a1 a2 at' len st num err : Int) (vl val key next : ByteArray) (keys : Value) (w : World) (b1 : (err != 0) = false) (b2 : ((nxK next err).toList == key.toList) = false) :
    Calls Try.prog 7 #[.iface 32 (.agg #[.int .i64 kd, .int .i64 st, .string key, .string vl, .int .i64 num, .int .i64 a1, .int .i64 a2, .string next, keys, .int .i64 err]), .agg #[.int .i64 16, .int .i64 st, .string key, .string val, .int .i64 num, .int .i64 at', .int .i64 len]] w (NeedsPost w (itemN st (nxK next err) 3)) := by
  go_enter Try.func7, Try.ntmps7
  go_wp2_with (first
    | (go_at_call 16; refine (next_any _ _ _ _ _ _ _ _ _ _ _).mono ?_; rintro e w1 ⟨rfl, hb1⟩; have c1 := box3 hb1 1; have c2 := box3 hb1 2; simp only [List.getElem?_toArray, List.getElem?_cons_succ, List.getElem?_cons_zero] at c1 c2)
    | (go_at_call 14; refine (item_any _ _ _ _).mono ?_; rintro e w2 ⟨v, rfl, hown, hb2⟩))
  go_ret
  exact ⟨_, rfl, ownsRow_le hown (Nat.le_of_lt (size_box hb1)), (below_box hb1).trans (hb2.mono (Nat.le_of_lt (size_box hb1)))⟩

set_option maxHeartbeats 2000000 in
set_option maxRecDepth 100000 in
theorem needs13s (kd a1 a2 at' len st num err : Int) (vl val key next : ByteArray) (keys : Value) (w : World) (b1 : (err != 0) = false) (b2 : ((nxK next err).toList == key.toList) = true) :
    Calls Try.prog 7 #[.iface 32 (.agg #[.int .i64 kd, .int .i64 st, .string key, .string vl, .int .i64 num, .int .i64 a1, .int .i64 a2, .string next, keys, .int .i64 err]), .agg #[.int .i64 13, .int .i64 st, .string key, .string val, .int .i64 num, .int .i64 at', .int .i64 len]] w (NeedsPost w (itemN st key 6)) := by
  go_enter Try.func7, Try.ntmps7
  go_wp2_with (first
    | (go_at_call 16; refine (next_any _ _ _ _ _ _ _ _ _ _ _).mono ?_; rintro e w1 ⟨rfl, hb1⟩; have c1 := box3 hb1 1; have c2 := box3 hb1 2; simp only [List.getElem?_toArray, List.getElem?_cons_succ, List.getElem?_cons_zero] at c1 c2)
    | (go_at_call 14; refine (item_any _ _ _ _).mono ?_; rintro e w2 ⟨v, rfl, hown, hb2⟩; have d1 := (hb2.cell (p := ⟨w.heap.size, 1, none⟩) (size_box hb1)).trans c1; have d2 := (hb2.cell (p := ⟨w.heap.size, 2, none⟩) (size_box hb1)).trans c2))
  go_ret
  exact ⟨_, rfl, ownsRow_le hown (Nat.le_of_lt (size_box hb1)), (below_box hb1).trans (hb2.mono (Nat.le_of_lt (size_box hb1)))⟩

set_option maxHeartbeats 2000000 in
set_option maxRecDepth 100000 in
theorem needs13d (kd a1 a2 at' len st num err : Int) (vl val key next : ByteArray) (keys : Value) (w : World) (b1 : (err != 0) = false) (b2 : ((nxK next err).toList == key.toList) = false) :
    Calls Try.prog 7 #[.iface 32 (.agg #[.int .i64 kd, .int .i64 st, .string key, .string vl, .int .i64 num, .int .i64 a1, .int .i64 a2, .string next, keys, .int .i64 err]), .agg #[.int .i64 13, .int .i64 st, .string key, .string val, .int .i64 num, .int .i64 at', .int .i64 len]] w (NeedsPost w (itemN st key 6 ++ [(st, nxK next err, 6)])) := by
  obtain ⟨i0, hi, hz0, hz1, hz2⟩ := info_parts Try.infoNeed
  go_enter Try.func7, Try.ntmps7
  go_wp2_with (first
    | (go_at_call 16; refine (next_any _ _ _ _ _ _ _ _ _ _ _).mono ?_; rintro e w1 ⟨rfl, hb1⟩; have c1 := box3 hb1 1; have c2 := box3 hb1 2; simp only [List.getElem?_toArray, List.getElem?_cons_succ, List.getElem?_cons_zero] at c1 c2)
    | (go_at_call 14; refine (item_any _ _ _ _).mono ?_; rintro e w2 ⟨v, rfl, hown, hb2⟩; have d1 := (hb2.cell (p := ⟨w.heap.size, 1, none⟩) (size_box hb1)).trans c1; have d2 := (hb2.cell (p := ⟨w.heap.size, 2, none⟩) (size_box hb1)).trans c2)
    | (at_builtin; refine wpList_append_own _ rfl _ _ 28 rfl w1.heap.size 40 i0 _ 3 32 Try.underlying28 hi hz0 hz1 hz2 rfl (by decide) v 3 _ rfl (hown.alloc _) ⟨w2.heap.size, 0, none⟩ 1 1 [.int .i64 st, .string (nxK next err), .int .i64 6] rfl rfl ?c1 ?c2 ?c3 ?c4 ?c5 ?_))
  case c1 => exact World.news_of_block (cs := #[.int .i64 st, .string (nxK next err), .int .i64 6]) (t := 40) (fr := (0, 0)) (heap_alloc_new w2 _)
  case c2 => simp [Value.oneCell']
  case c3 => simp [maxLen]
  case c4 => omega
  case c5 => have hs2 := hb2.size; simp; omega
  intro v' w3 hown' hgrow _
  have hs2 := hb2.size
  have hs1 := size_box hb1
  have hb3 : Below w.heap.size w w3 := (((below_box hb1).trans (hb2.mono (Nat.le_of_lt hs1))).alloc (by omega) _).grown hgrow (by simp; omega) (fun q hq => by have := (hown.lt q hq).1; omega)
  go_wp2
  go_ret
  exact ⟨_, rfl, ownsRow_le (by rw [needC_append]; exact hown') (Nat.le_of_lt hs1), hb3⟩

set_option maxHeartbeats 2000000 in
set_option maxRecDepth 100000 in
theorem needsElse (kind : Int) (kd a1 a2 at' len st num err : Int) (vl val key next : ByteArray) (keys : Value) (w : World) (k6 : (kind == 6) = false) (k7 : (kind == 7) = false) (k8 : (kind == 8) = false) (k9 : (kind == 9) = false) (k10 : (kind == 10) = false) (k11 : (kind == 11) = false) (k12 : (kind == 12) = false) (k19 : (kind == 19) = false) (k20 : (kind == 20) = false) (k18 : (kind == 18) = false) (k21 : (kind == 21) = false) (k22 : (kind == 22) = false) (k23 : (kind == 23) = false) (k14 : (kind == 14) = false) (k15 : (kind == 15) = false) (k16 : (kind == 16) = false) (k13 : (kind == 13) = false) (k17 : (kind == 17) = false) :
    Calls Try.prog 7 #[.iface 32 (.agg #[.int .i64 kd, .int .i64 st, .string key, .string vl, .int .i64 num, .int .i64 a1, .int .i64 a2, .string next, keys, .int .i64 err]), .agg #[.int .i64 kind, .int .i64 st, .string key, .string val, .int .i64 num, .int .i64 at', .int .i64 len]] w (NeedsPost w []) := by
  go_enter Try.func7, Try.ntmps7
  go_wp2
  go_ret
  exact ⟨_, rfl, World.ownsRow_nil _ _ _ _, ((Below.refl _ _).alloc (Nat.le_refl _) _)⟩
end Go.Proofs.Ytdppidnjjdhnaaa
