/-
  Layer 20 (plan): the contract of plan.Needs at OpRange, and at every kind.
-/
import Derived.Test.YtdppidnjjdhnaaaPlan5
namespace Go.Proofs.Ytdppidnjjdhnaaa
open Go.RowKit Go.Joins
set_option linter.unusedVariables false

theorem StrsAt.below {w w' : World} {v : Value} {ss : List ByteArray} {B : Nat} (h : StrsAt w v ss) (hb : Below B w w') (hB : w.heap.size ≤ B) : StrsAt w' v ss := by
  rcases h with h | ⟨b, off, cap, hv, hl, hc⟩
  · exact .inl h
  · exact .inr ⟨b, off, cap, hv, Nat.lt_of_lt_of_le hl hb.size, fun i hi => (hb.cell (p := ⟨b, off + i, none⟩) (Nat.lt_of_lt_of_le hl hB)).trans (hc i hi)⟩

/-- two owned rows of different element types lie in different blocks -/
theorem own_ne {w : World} {b b' s s' n n' : Nat} {e e' : TypeId} {v v' : Value} {xs xs' : List Value} (h : w.ownsRow b e s v n xs) (h' : w.ownsRow b' e' s' v' n' xs') (he : e ≠ e') : v.ownBlock = none ∨ v.ownBlock ≠ v'.ownBlock := by
  rcases h.2 with ⟨rfl, _⟩ | ⟨g, cap, cur, rfl, _, hg, _⟩
  · exact .inl rfl
  rcases h'.2 with ⟨rfl, _⟩ | ⟨g', cap', cur', rfl, _, hg', _⟩
  · exact .inr (by simp [Value.ownBlock])
  refine .inr fun h => he ?_
  simp only [Value.ownBlock, Option.some.injEq] at h
  subst h
  rw [hg] at hg'
  simp at hg'
  exact hg'.2

/-- an owned row as a slice value: its length; where it has an element, its block -/
theorem own_slice {w : World} {b s n : Nat} {e : TypeId} {v : Value} {xs : List Value} (h : w.ownsRow b e s v n xs) : ∃ ao cap, v = .slice ao n cap ∧ (0 < n → ∃ g, ao = some ⟨g, 0, none⟩) := by
  rcases h.2 with ⟨rfl, rfl⟩ | ⟨g, cap, cur, rfl, _⟩
  · exact ⟨none, 0, rfl, fun h => absurd h (by omega)⟩
  · exact ⟨_, cap, rfl, fun _ => ⟨g, rfl⟩⟩

def rangeK (k : ByteArray) : ByteArray := if k = ByteArray.empty then endL else k
def rangeN (st : Int) (ss : List ByteArray) : List (Int × ByteArray × Int) := ss.map fun k => (st, rangeK k, 3)
theorem rangeN_succ (st : Int) (ss : List ByteArray) (k : Nat) (h : k < ss.length) : rangeN st (ss.take (k + 1)) = rangeN st (ss.take k) ++ [(st, rangeK ss[k], 3)] := by
  unfold rangeN
  rw [List.take_succ_eq_append_getElem h, List.map_append]; rfl
theorem rangeN_len (st : Int) (ss : List ByteArray) (k : Nat) (h : k ≤ ss.length) : (aboveN st 3 ++ rangeN st (ss.take k)).length = 2 + k := by
  simp [aboveN, rangeN, Nat.min_eq_left h]; omega

theorem peekRange_err (kind st num at' len err : Int) (key val next : ByteArray) (keys : Value) (ss : List ByteArray) (w : World) (hk : StrsAt w keys ss) (hz : ss.length ≤ 1048576) (he : (err != 0) = true) :
    Calls Try.prog 41 #[.agg #[.int .i64 kind, .int .i64 st, .string key, .string val, .int .i64 num, .int .i64 at', .int .i64 len, .string next, keys, .int .i64 err], .int .i64 st, .string key, .int .i64 num] w fun e w' => e = .returned (.tuple #[.slice none 0 0, .int .i64 err]) ∧ Below w.heap.size w w' :=
  (peekRange_any kind st num at' len err key val next keys ss w hk (by omega)).mono fun _ _ h => ⟨h.2.1 (by simpa using he), h.2.2⟩
theorem peekRange_ok (kind st num at' len : Int) (key val next : ByteArray) (keys : Value) (ss : List ByteArray) (w : World) (hk : StrsAt w keys ss) (hz : ss.length ≤ 1048576) :
    Calls Try.prog 41 #[.agg #[.int .i64 kind, .int .i64 st, .string key, .string val, .int .i64 num, .int .i64 at', .int .i64 len, .string next, keys, .int .i64 0], .int .i64 st, .string key, .int .i64 num] w fun e w' => ∃ v, e = .returned (.tuple #[v, .int .i64 0]) ∧ w'.ownsRow w.heap.size 9 1 v ss.length (ss.map Value.string) ∧ Below w.heap.size w w' :=
  (peekRange_any kind st num at' len 0 key val next keys ss w hk (by omega)).mono fun _ _ h => by
    obtain ⟨v, h1, h2⟩ := h.1 rfl
    exact ⟨v, h1, h2, h.2.2⟩

set_option maxHeartbeats 4000000 in
set_option maxRecDepth 100000 in
theorem needs17e (kd a1 a2 at' len st num err : Int) (vl val key next : ByteArray) (keys : Value) (w : World) (ss : List ByteArray) (hk : StrsAt w keys ss) (hz : ss.length ≤ 1048576) (b1 : (err != 0) = true) :
    Calls Try.prog 7 #[.iface 32 (.agg #[.int .i64 kd, .int .i64 st, .string key, .string vl, .int .i64 num, .int .i64 a1, .int .i64 a2, .string next, keys, .int .i64 err]), .agg #[.int .i64 17, .int .i64 st, .string key, .string val, .int .i64 num, .int .i64 at', .int .i64 len]] w (NeedsPost w (aboveN st 3)) := by
  have m2 := meth_range
  have hbb : Below w.heap.size w ((w.alloc (.cells #[.int .i64 17, .int .i64 st, .string key, .string val, .int .i64 num, .int .i64 at', .int .i64 len] 23)).alloc (.cells #[.int .i64 0, .string ByteArray.empty, .int .i64 (aboveL 3), .int .i64 st, .string ByteArray.empty, .int .i64 (aboveL 3)] 40)) := ((Below.refl _ _).alloc (Nat.le_refl _) _).alloc (by simp) _
  have hb2 : Below (w.heap.size + 1) (w.alloc (.cells #[.int .i64 17, .int .i64 st, .string key, .string val, .int .i64 num, .int .i64 at', .int .i64 len] 23)) ((w.alloc (.cells #[.int .i64 17, .int .i64 st, .string key, .string val, .int .i64 num, .int .i64 at', .int .i64 len] 23)).alloc (.cells #[.int .i64 0, .string ByteArray.empty, .int .i64 (aboveL 3), .int .i64 st, .string ByteArray.empty, .int .i64 (aboveL 3)] 40)) := (Below.refl _ _).alloc (by simp) _
  have hown0 := own2 (w.alloc (.cells #[.int .i64 17, .int .i64 st, .string key, .string val, .int .i64 num, .int .i64 at', .int .i64 len] 23)) 0 st ByteArray.empty ByteArray.empty (aboveL 3) (aboveL 3) (w.heap.size + 1) (by simp)
  go_enter Try.func7, Try.ntmps7
  go_wp2_with (first
    | (go_at_call 13; refine (above2_any _ _ _).mono ?_; rintro e w2 ⟨rfl, rfl⟩)
    | (go_at_call 41; refine (peekRange_err _ _ _ _ _ _ _ _ _ _ ss _ (hk.below hbb (Nat.le_refl _)) hz b1).mono ?_; rintro e w3 ⟨rfl, hb3⟩))
  go_ret
  refine ⟨_, rfl, ?_, hbb.trans (hb3.mono (by simp; omega))⟩
  have h := hown0.kept (w' := w3) (row := none) ⟨hb3.os, hb3.tape, hb3.output, hb3.size, fun q hq _ => hb3.block q hq⟩ (.inr (by simp [Value.ownBlock]))
  exact ownsRow_le h (Nat.le_succ _)

set_option maxHeartbeats 4000000 in
set_option maxRecDepth 100000 in
theorem needs17o (kd a1 a2 at' len st num : Int) (vl val key next : ByteArray) (keys : Value) (w : World) (ss : List ByteArray) (hk : StrsAt w keys ss) (hz : ss.length ≤ 1048576) :
    Calls Try.prog 7 #[.iface 32 (.agg #[.int .i64 kd, .int .i64 st, .string key, .string vl, .int .i64 num, .int .i64 a1, .int .i64 a2, .string next, keys, .int .i64 0]), .agg #[.int .i64 17, .int .i64 st, .string key, .string val, .int .i64 num, .int .i64 at', .int .i64 len]] w (NeedsPost w (aboveN st 3 ++ rangeN st ss)) := by
  obtain ⟨i0, hi, hz0, hz1, hz2⟩ := info_parts Try.infoNeed
  have m2 := meth_range
  have hbb : Below w.heap.size w ((w.alloc (.cells #[.int .i64 17, .int .i64 st, .string key, .string val, .int .i64 num, .int .i64 at', .int .i64 len] 23)).alloc (.cells #[.int .i64 0, .string ByteArray.empty, .int .i64 (aboveL 3), .int .i64 st, .string ByteArray.empty, .int .i64 (aboveL 3)] 40)) := ((Below.refl _ _).alloc (Nat.le_refl _) _).alloc (by simp) _
  have hb2 : Below (w.heap.size + 1) (w.alloc (.cells #[.int .i64 17, .int .i64 st, .string key, .string val, .int .i64 num, .int .i64 at', .int .i64 len] 23)) ((w.alloc (.cells #[.int .i64 17, .int .i64 st, .string key, .string val, .int .i64 num, .int .i64 at', .int .i64 len] 23)).alloc (.cells #[.int .i64 0, .string ByteArray.empty, .int .i64 (aboveL 3), .int .i64 st, .string ByteArray.empty, .int .i64 (aboveL 3)] 40)) := (Below.refl _ _).alloc (by simp) _
  have hown0 := own2 (w.alloc (.cells #[.int .i64 17, .int .i64 st, .string key, .string val, .int .i64 num, .int .i64 at', .int .i64 len] 23)) 0 st ByteArray.empty ByteArray.empty (aboveL 3) (aboveL 3) (w.heap.size + 1) (by simp)
  go_enter Try.func7, Try.ntmps7
  go_wp2_with (first
    | (go_at_call 13; refine (above2_any _ _ _).mono ?_; rintro e w2 ⟨rfl, rfl⟩)
    | (go_at_call 41; refine (peekRange_ok _ _ _ _ _ _ _ _ _ ss _ (hk.below hbb (Nat.le_refl _)) hz).mono ?_; rintro e w3 ⟨v, rfl, hv, hb3⟩; obtain ⟨ao, cap, rfl, hao⟩ := own_slice hv))
  have hown1 := hown0.kept (w' := w3) (row := none) ⟨hb3.os, hb3.tape, hb3.output, hb3.size, fun q hq _ => hb3.block q hq⟩ (.inr (by simp [Value.ownBlock]))
  clear hao m2 hk
  have hv0 := Lib.hid hv
  have hB : Below (w.heap.size + 1) (w.alloc (.cells #[.int .i64 17, .int .i64 st, .string key, .string val, .int .i64 num, .int .i64 at', .int .i64 len] 23)) w3 := hb2.trans (hb3.mono (by simp))
  clear hv hb3 hb2 hbb hown0
  go_loopw [12, 190] (fun l i wr => ∃ k : Nat, k ≤ ss.length ∧ i = .int .i64 k ∧ wr.ownsRow (w.heap.size + 1) 40 3 l (2 + k) (needC (aboveN st 3 ++ rangeN st (ss.take k))) ∧ wr.ownsRow 0 9 1 (.slice ao ss.length cap) ss.length (ss.map Value.string) ∧ Below (w.heap.size + 1) (w.alloc (.cells #[.int .i64 17, .int .i64 st, .string key, .string val, .int .i64 num, .int .i64 at', .int .i64 len] 23)) wr) (fun _ i _ => ss.length - (intOf i).toNat)
  case atStart => exact ⟨0, by omega, rfl, by simpa [rangeN, aboveN] using hown1, ownsRow_le hv0.out (Nat.zero_le _), hB⟩
  case round =>
    obtain ⟨k, hk, rfl, hown, hstr, hbel⟩ := hrel
    clear hown1 hB hv0
    by_cases hlt : k < ss.length
    · obtain ⟨g, rfl⟩ : ∃ g, ao = some ⟨g, 0, none⟩ := by
        obtain ⟨ao', cap', h1, h2⟩ := own_slice hstr
        obtain ⟨g, hg⟩ := h2 (by omega)
        simp at h1
        exact ⟨g, by rw [h1.1, hg]⟩
      have hcell : wr.cell? ⟨g, k, none⟩ = some (.string ss[k]) := by
        have := hstr.cells (g := g) rfl k (.string ss[k]) (by rw [List.getElem?_map, List.getElem?_eq_getElem hlt]; rfl)
        rw [Addr.add_lit] at this; simpa using this
      have hbox : wr.cell? ⟨w.heap.size, 1, none⟩ = some (.int .i64 st) := (hbel.cell (p := ⟨w.heap.size, 1, none⟩) (by simp)).trans (World.cell?_alloc_mark _ _ _ _ _)
      have hsz := hbel.size
      simp at hsz
      have hsucc := rangeN_succ st ss k hlt
      by_cases hemp : ss[k] = ByteArray.empty
      · have he1 : ss[k].toList.isEmpty = true := by rw [hemp]; simp [ByteArray.toList_eq]
        have hrk : rangeK ss[k] = endL := by simp [rangeK, hemp]
        have HS := Lib.hid hsucc
        have HR := Lib.hid hrk
        clear hsucc hrk hemp
        go_wp2_with (at_builtin; refine wpList_append_own _ rfl _ _ 28 rfl (w.heap.size + 1) 40 i0 _ 3 32 Try.underlying28 hi hz0 hz1 hz2 rfl (by decide) _ (2 + k) _ rfl (hown.alloc _) ⟨wr.heap.size, 0, none⟩ 1 1 [.int .i64 st, .string endL, .int .i64 3] rfl rfl ?c1 ?c2 ?c3 ?c4 ?c5 ?_)
        case c1 => exact World.news_of_block (cs := #[.int .i64 st, .string endL, .int .i64 3]) (t := 40) (fr := (0, 0)) (heap_alloc_new wr _)
        case c2 => simp [Value.oneCell']
        case c3 => simp only [maxLen]; omega
        case c4 => omega
        case c5 => simp; omega
        intro v' w4 hown' hgrow _
        have hne := own_ne hstr hown (by decide)
        have hstr' := (hstr.alloc (.cells #[.int .i64 st, .string endL, .int .i64 3] 40)).kept hgrow hne
        have hb4 := (hbel.alloc (by omega) (.cells #[.int .i64 st, .string endL, .int .i64 3] 40)).grown hgrow (by simp; omega) (fun q hq => (hown.lt q hq).1)
        have hown2 : w4.ownsRow (w.heap.size + 1) 40 3 v' (2 + (k + 1)) (needC (aboveN st 3 ++ rangeN st (ss.take (k + 1)))) := by
          have e1 : needC (aboveN st 3 ++ rangeN st (ss.take (k + 1))) = needC (aboveN st 3 ++ rangeN st (ss.take k)) ++ [.int .i64 st, .string endL, .int .i64 3] := by
            rw [HS.out, HR.out, ← List.append_assoc, needC_append]; rfl
          rw [e1]; exact hown'
        clear hown' hgrow hne hstr hbel hown hcell hbox hsz
        go_wp2
        go_roundw
        case rel => exact ⟨k + 1, by omega, by go_num, hown2, hstr', hb4⟩
        case measure => simp [intOf]; omega
      · have he1 : ss[k].toList.isEmpty = false := sem_false hemp
        have hrk : rangeK ss[k] = ss[k] := by simp [rangeK, hemp]
        have HS := Lib.hid hsucc
        have HR := Lib.hid hrk
        clear hsucc hrk hemp
        go_wp2_with (at_builtin; refine wpList_append_own _ rfl _ _ 28 rfl (w.heap.size + 1) 40 i0 _ 3 32 Try.underlying28 hi hz0 hz1 hz2 rfl (by decide) _ (2 + k) _ rfl (hown.alloc _) ⟨wr.heap.size, 0, none⟩ 1 1 [.int .i64 st, .string ss[k], .int .i64 3] rfl rfl ?c1 ?c2 ?c3 ?c4 ?c5 ?_)
        case c1 => exact World.news_of_block (cs := #[.int .i64 st, .string ss[k], .int .i64 3]) (t := 40) (fr := (0, 0)) (heap_alloc_new wr _)
        case c2 => simp [Value.oneCell']
        case c3 => simp only [maxLen]; omega
        case c4 => omega
        case c5 => simp; omega
        intro v' w4 hown' hgrow _
        have hne := own_ne hstr hown (by decide)
        have hstr' := (hstr.alloc (.cells #[.int .i64 st, .string ss[k], .int .i64 3] 40)).kept hgrow hne
        have hb4 := (hbel.alloc (by omega) (.cells #[.int .i64 st, .string ss[k], .int .i64 3] 40)).grown hgrow (by simp; omega) (fun q hq => (hown.lt q hq).1)
        have hown2 : w4.ownsRow (w.heap.size + 1) 40 3 v' (2 + (k + 1)) (needC (aboveN st 3 ++ rangeN st (ss.take (k + 1)))) := by
          have e1 : needC (aboveN st 3 ++ rangeN st (ss.take (k + 1))) = needC (aboveN st 3 ++ rangeN st (ss.take k)) ++ [.int .i64 st, .string ss[k], .int .i64 3] := by
            rw [HS.out, HR.out, ← List.append_assoc, needC_append]; rfl
          rw [e1]; exact hown'
        clear hown' hgrow hne hstr hbel hown hcell hbox hsz
        go_wp2
        go_roundw
        case rel => exact ⟨k + 1, by omega, by go_num, hown2, hstr', hb4⟩
        case measure => simp [intOf]; omega
    · have hkn : k = ss.length := by omega
      have hcond : decide ((k : Int) < (ss.length : Int)) = false := by simp; omega
      clear hkn
      go_wp2
      go_ret
      refine ⟨_, rfl, ?_, (((Below.refl w.heap.size w).alloc (Nat.le_refl _) _).trans (hbel.mono (Nat.le_succ _)))⟩
      have e3 : ss.take k = ss := List.take_of_length_le (by omega)
      rw [e3] at hown
      have e2 : (aboveN st 3 ++ rangeN st ss).length = 2 + k := by
        have h5 := rangeN_len st ss k (by omega)
        rw [e3] at h5
        exact h5
      rw [e2]
      exact ownsRow_le hown (Nat.le_succ _)
end Go.Proofs.Ytdppidnjjdhnaaa
