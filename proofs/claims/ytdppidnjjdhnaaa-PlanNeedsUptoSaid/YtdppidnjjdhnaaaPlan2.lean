/-
  Layer 20 (plan): the contracts of plan.item, of the peek's methods Next and Range, and of plan.next.
-/
import Derived.Test.YtdppidnjjdhnaaaPlan1
import Derived.Lib.Hide
import Derived.WalkSmall
import Derived.Deep.AppendLies
import Derived.Laws.AppendOwnNone
namespace Go.Proofs.Ytdppidnjjdhnaaa
open Go.RowKit Go.Joins
set_option linter.unusedVariables false

/-- the cells of a list of needs: store, item, mode -/
def needC (l : List (Int × ByteArray × Int)) : List Value := l.flatMap fun x => [.int .i64 x.1, .string x.2.1, .int .i64 x.2.2]
theorem needC_len (l : List (Int × ByteArray × Int)) : (needC l).length = l.length * 3 := by
  induction l with
  | nil => rfl
  | cons x r ih => simp only [needC, List.flatMap_cons, List.length_append, List.length_cons, List.length_nil] at ih ⊢; omega
theorem needC_append (l r : List (Int × ByteArray × Int)) : needC (l ++ r) = needC l ++ needC r := by simp [needC]

def aboveN (st m : Int) : List (Int × ByteArray × Int) := [(0, ByteArray.empty, aboveL m), (st, ByteArray.empty, aboveL m)]
def itemN (st : Int) (name : ByteArray) (m : Int) : List (Int × ByteArray × Int) := aboveN st m ++ [(st, name, m)]

theorem Try.infoNeed : (Try.prog.info? 40).map (fun i => (i.zero, i.size, i.bytes)) = some (some (.agg #[.int .i64 0, .string ByteArray.empty, .int .i64 0]), 3, 32) := by kernel_rfl
theorem Try.infoStr : (Try.prog.info? 9).map (fun i => (i.zero, i.size, i.bytes)) = some (some (.string ByteArray.empty), 1, 16) := by kernel_rfl

theorem above_own (st m : Int) (w : World) : (w.alloc (.cells #[.int .i64 0, .string ByteArray.empty, .int .i64 (aboveL m), .int .i64 st, .string ByteArray.empty, .int .i64 (aboveL m)] 40)).ownsRow w.heap.size 40 3
    (.slice (some ⟨w.heap.size, 0, none⟩) 2 2) 2 (needC (aboveN st m)) :=
  ⟨rfl, .inr ⟨w.heap.size, 2, _, rfl, Nat.le_refl _, heap_alloc_new w _, Nat.le_refl _, by simp [maxLen], rfl, rfl⟩⟩

set_option maxHeartbeats 1000000 in
theorem item_any (st m : Int) (name : ByteArray) (w : World) :
    Calls Try.prog 14 #[.int .i64 st, .string name, .int .i64 m] w fun e w' => ∃ v, e = .returned v ∧
      w'.ownsRow w.heap.size 40 3 v 3 (needC (itemN st name m)) ∧ Below w.heap.size w w' := by
  obtain ⟨i0, hi, hz0, hz1, hz2⟩ := info_parts Try.infoNeed
  have hown := above_own st m w
  go_enter Try.func14, Try.ntmps14
  go_wp2_with (first
    | (go_at_call 13; refine (above2_any _ _ _).mono ?_; rintro e w1 ⟨rfl, rfl⟩)
    | (at_builtin; refine wpList_append_own _ rfl _ _ 28 rfl w.heap.size 40 i0 _ 3 32 Try.underlying28 hi hz0 hz1 hz2 rfl (by decide) _ 2 _ rfl (hown.alloc _) ⟨w.heap.size + 1, 0, none⟩ 1 1 [.int .i64 st, .string name, .int .i64 m] rfl rfl ?c1 ?c2 ?c3 ?c4 ?c5 ?_))
  case c1 => exact World.news_of_block (cs := #[.int .i64 st, .string name, .int .i64 m]) (t := 40) (fr := (0, 0)) (by have h := heap_alloc_new (w.alloc (.cells #[.int .i64 0, .string ByteArray.empty, .int .i64 (aboveL m), .int .i64 st, .string ByteArray.empty, .int .i64 (aboveL m)] 40)) (.cells #[.int .i64 st, .string name, .int .i64 m] 40); simpa using h)
  case c2 => simp [Value.oneCell']
  case c3 => simp [maxLen]
  case c4 => omega
  case c5 => simp; omega
  intro v' w1 hown' hgrow _
  have hb1 : Below w.heap.size w w1 := (((Below.refl _ _).alloc (Nat.le_refl _) _).alloc (by simp) _).grown hgrow (by simp; omega) (fun q hq => (hown.lt q hq).1)
  go_wp2
  go_ret
  exact ⟨_, rfl, hown', hb1⟩

/-- what the peek's Next answers of its own store and key -/
def pkNext (next : ByteArray) (err : Int) : ByteArray := if err = 0 then next else ByteArray.empty

set_option maxHeartbeats 1000000 in
theorem peekNext_any (kind st num at' len err : Int) (key val next : ByteArray) (keys : Value) (w : World) :
    Calls Try.prog 40 #[.agg #[.int .i64 kind, .int .i64 st, .string key, .string val, .int .i64 num, .int .i64 at', .int .i64 len, .string next, keys, .int .i64 err], .int .i64 st, .string key] w fun e w' =>
      e = .returned (.tuple #[.string (pkNext next err), .int .i64 err]) ∧ Below w.heap.size w w' := by
  by_cases h : err = 0
  · subst h
    go_enter Try.func40, Try.ntmps40
    go_wp2
    go_ret2
    exact ⟨rfl, (Below.refl _ _).alloc (Nat.le_refl _) _⟩
  · have b0 : (err != 0) = true := by simp [h]
    have e0 : pkNext next err = ByteArray.empty := by simp [pkNext, h]
    rw [e0]; clear e0 h
    go_enter Try.func40, Try.ntmps40
    go_wp2
    go_quiet (fail)
    go_wp2
    go_ret2
    exact ⟨rfl, below_drewN ((Below.refl _ _).alloc (Nat.le_refl _) _) _⟩
end Go.Proofs.Ytdppidnjjdhnaaa
