/-
  Layer 20 (plan): the contracts of the peek's Range and of plan.next.
-/
import Derived.Test.YtdppidnjjdhnaaaPlan2
namespace Go.Proofs.Ytdppidnjjdhnaaa
open Go.RowKit Go.Joins
set_option linter.unusedVariables false

/-- a slice value that reads as these strings -/
def StrsAt (w : World) (v : Value) (ss : List ByteArray) : Prop :=
  (∃ ao cap, v = .slice ao 0 cap ∧ ss = [] ∧ (ao = none → cap = 0)) ∨ ∃ b off cap, v = .slice (some ⟨b, off, none⟩) ss.length cap ∧ b < w.heap.size ∧ ∀ i (h : i < ss.length), w.cell? ⟨b, off + i, none⟩ = some (.string ss[i])

/-- what plan.next answers -/
def nxK (next : ByteArray) (err : Int) : ByteArray := if err = 0 then (if next = ByteArray.empty then endL else next) else ByteArray.empty

theorem meth_next (cs : Array Value) (w : World) : (method 181 32 (.agg cs) "Next").run Try.prog w = .ok (40, .agg cs) w := by kernel_rfl
theorem meth_range (cs : Array Value) (w : World) : (method 181 32 (.agg cs) "Range").run Try.prog w = .ok (41, .agg cs) w := by kernel_rfl

theorem seq_true {a b : ByteArray} (h : a = b) : (a.toList == b.toList) = true := by subst h; simp
theorem seq_false {a b : ByteArray} (h : a ≠ b) : (a.toList == b.toList) = false := by
  rw [beq_eq_false_iff_ne]
  intro e
  rw [ByteArray.toList_eq, ByteArray.toList_eq] at e
  exact h (Go.WideShapes.bytes_inj e)
theorem sem_false {s : ByteArray} (h : s ≠ ByteArray.empty) : s.toList.isEmpty = false := by
  cases hs : s.toList with
  | nil =>
    exact absurd (Go.WideShapes.bytes_inj (by rw [← ByteArray.toList_eq, hs]; rfl)) h
  | cons _ _ => rfl

set_option maxHeartbeats 1000000 in
theorem next_any (kind st num at' len err : Int) (key val next : ByteArray) (keys : Value) (w : World) :
    Calls Try.prog 16 #[.iface 32 (.agg #[.int .i64 kind, .int .i64 st, .string key, .string val, .int .i64 num, .int .i64 at', .int .i64 len, .string next, keys, .int .i64 err]), .int .i64 st, .string key] w fun e w' =>
      e = .returned (.tuple #[.string (nxK next err), .int .i64 err]) ∧ Below w.heap.size w w' := by
  have m1 := meth_next
  by_cases h : err = 0
  · subst h
    have e0 : pkNext next 0 = next := by simp [pkNext]
    by_cases hn : next = ByteArray.empty
    · have e1 : nxK next 0 = endL := by simp [nxK, hn]
      rw [e1]; subst hn
      go_enter Try.func16, Try.ntmps16
      go_wp2_with fail
      refine (peekNext_any _ _ _ _ _ _ _ _ _ _ _).mono ?_; rintro e w1 ⟨rfl, hb⟩
      rw [e0]
      go_wp2
      go_ret2
      exact ⟨rfl, hb⟩
    · have e1 : nxK next 0 = next := by simp [nxK, hn]
      rw [e1]
      have hn1 := sem_false hn
      clear hn e1
      go_enter Try.func16, Try.ntmps16
      go_wp2_with fail
      refine (peekNext_any _ _ _ _ _ _ _ _ _ _ _).mono ?_; rintro e w1 ⟨rfl, hb⟩
      rw [e0]
      go_wp2
      go_ret2
      exact ⟨rfl, hb⟩
  · have e1 : nxK next err = pkNext next err := by simp [nxK, pkNext, h]
    have b1 : (err == 0) = false := by simp [h]
    rw [e1]
    clear e1 h
    go_enter Try.func16, Try.ntmps16
    go_wp2_with fail
    refine (peekNext_any _ _ _ _ _ _ _ _ _ _ _).mono ?_; rintro e w1 ⟨rfl, hb⟩
    go_wp2
    go_ret2
    exact ⟨rfl, hb⟩

set_option maxHeartbeats 1000000 in
theorem peekRange_any (kind st num at' len err : Int) (key val next : ByteArray) (keys : Value) (ss : List ByteArray) (w : World) (hk : StrsAt w keys ss) (hz : ss.length * 16 ≤ 140737488355328) :
    Calls Try.prog 41 #[.agg #[.int .i64 kind, .int .i64 st, .string key, .string val, .int .i64 num, .int .i64 at', .int .i64 len, .string next, keys, .int .i64 err], .int .i64 st, .string key, .int .i64 num] w fun e w' =>
      (err = 0 → ∃ v, e = .returned (.tuple #[v, .int .i64 0]) ∧ w'.ownsRow w.heap.size 9 1 v ss.length (ss.map Value.string)) ∧
      (err ≠ 0 → e = .returned (.tuple #[.slice none 0 0, .int .i64 err])) ∧ Below w.heap.size w w' := by
  obtain ⟨i0, hi, hz0, hz1, hz2⟩ := info_parts Try.infoStr
  by_cases h : err = 0
  · subst h
    rcases hk with ⟨ao, cap, rfl, rfl, hao⟩ | ⟨b, off, cap, rfl, hbl, hc⟩
    · cases ao with
      | none =>
      obtain rfl := hao rfl
      go_enter Try.func41, Try.ntmps41
      go_wp2_with (at_builtin; refine wpList_append_own_none rfl _ _ 24 rfl w.heap.size 9 i0 1 Try.underlying24 hi _ 0 [] rfl (World.ownsRow_nil _ _ _ _) rfl ?_)
      go_ret2
      first
        | exact ⟨⟨_, rfl, World.ownsRow_nil _ _ _ _⟩, (Below.refl _ _).alloc (Nat.le_refl _) _⟩
        | exact ⟨fun _ => ⟨_, rfl, World.ownsRow_nil _ _ _ _⟩, fun h => (h rfl).elim, (Below.refl _ _).alloc (Nat.le_refl _) _⟩
      | some a =>
      clear hao
      go_enter Try.func41, Try.ntmps41
      go_wp2_with (at_builtin; refine wpList_append_own _ rfl _ _ 24 rfl w.heap.size 9 i0 _ 1 16 Try.underlying24 hi hz0 hz1 hz2 rfl (by decide) _ 0 [] rfl (World.ownsRow_nil _ _ _ _) a 0 cap [] rfl ?c0 ?c1 ?c2 ?c3 ?c4 ?c5 ?_)
      case c0 => rfl
      case c1 => intro j u hu; simp at hu
      case c2 => intro u hu; simp at hu
      case c3 => simp
      case c4 => simp
      case c5 => simp
      intro v' w1 hown' hgrow _
      have hb1 : Below w.heap.size w w1 := ((Below.refl _ _).alloc (Nat.le_refl _) _).grown hgrow (by simp) (fun q hq => by simp [Value.ownBlock] at hq)
      go_wp2
      go_ret2
      first
        | exact ⟨⟨_, rfl, by simpa using hown'⟩, hb1⟩
        | exact ⟨fun _ => ⟨_, rfl, by simpa using hown'⟩, fun h => (h rfl).elim, hb1⟩
    · have HC := Lib.hid hc
      clear hc
      go_enter Try.func41, Try.ntmps41
      go_wp2_with (at_builtin; refine wpList_append_own _ rfl _ _ 24 rfl w.heap.size 9 i0 _ 1 16 Try.underlying24 hi hz0 hz1 hz2 rfl (by decide) _ 0 [] rfl (World.ownsRow_nil _ _ _ _) ⟨b, off, none⟩ ss.length cap (ss.map Value.string) rfl ?c0 ?c1 ?c2 ?c3 ?c4 ?c5 ?_)
      case c0 => simp
      case c1 =>
        intro j u hu
        rw [List.getElem?_map] at hu
        obtain ⟨s, hs, rfl⟩ := Option.map_eq_some_iff.1 hu
        obtain ⟨hj, rfl⟩ := List.getElem?_eq_some_iff.1 hs
        rw [Addr.add_lit, World.cell?_alloc_past _ _ _ hbl]
        exact HC.out j hj
      case c2 => intro u hu; obtain ⟨s, _, rfl⟩ := List.mem_map.1 hu; rfl
      case c3 => simp only [maxLen]; omega
      case c4 => omega
      case c5 => simp
      intro v' w1 hown' hgrow _
      have hb1 : Below w.heap.size w w1 := ((Below.refl _ _).alloc (Nat.le_refl _) _).grown hgrow (by simp) (fun q hq => by simp [Value.ownBlock] at hq)
      go_wp2
      go_ret2
      first
        | exact ⟨⟨_, rfl, by simpa using hown'⟩, hb1⟩
        | exact ⟨fun _ => ⟨_, rfl, by simpa using hown'⟩, fun h => (h rfl).elim, hb1⟩
  · have b1 : (err != 0) = true := by simp [h]
    have H := Lib.hid h
    clear h
    go_enter Try.func41, Try.ntmps41
    go_wp2
    go_quiet (fail)
    go_wp2
    go_ret2
    exact ⟨fun e => (H.out e).elim, fun _ => rfl, below_drewN ((Below.refl _ _).alloc (Nat.le_refl _) _) _⟩
end Go.Proofs.Ytdppidnjjdhnaaa
