/-
  Layer 17 (lob): a piece's key; an object's bytes in pieces.
-/
import Derived.Test.YtljommhbhpappaaTree3
import Derived.Test.YtljommhbhpappaaKey17
namespace Go.Proofs.Ytljommhbhpappaa
open Go.RowKit Go.Joins
set_option linter.unusedVariables false
set_option linter.unusedSimpArgs false

set_option maxHeartbeats 2000000 in
theorem lkey_any (n p : Int) (w : World) :
    Calls Try.prog 15 #[.int .i64 n, .int .i64 p] w fun e w' => e = .returned (.string (key4 n p)) ∧ Below w.heap.size w w' := by
  have hcv : ∀ (x0 x1 x2 x3 : Int) (w : World), (convert 106 9 (.slice (some ⟨w.heap.size, 0, none⟩) 4 4)).run Try.prog (w.alloc (.cells #[.int .u8 x0, .int .u8 x1, .int .u8 x2, .int .u8 x3] 5)) = .ok (.string ⟨#[UInt8.ofNat x0.toNat, UInt8.ofNat x1.toNat, UInt8.ofNat x2.toNat, UInt8.ofNat x3.toNat]⟩) (w.alloc (.cells #[.int .u8 x0, .int .u8 x1, .int .u8 x2, .int .u8 x3] 5)) := by
    intro x0 x1 x2 x3 w
    refine run_convert_bytes_arg _ 106 5 Try.underlying106 Try.underlying5 w.heap.size 0 4 4 [x0, x1, x2, x3] rfl ?_ 9 Try.underlying9
    intro i hi
    rw [World.cell?_alloc_mark]
    rcases i with _ | _ | _ | _ | i
    all_goals first | rfl | omega
  go_enter Try.func15, Try.ntmps15
  go_wp2
  go_ret
  exact ⟨rfl, (Below.refl _ _).alloc (Nat.le_refl _) _⟩

/-- an object's bytes in pieces -/
def chunkF : Nat → ByteArray → List ByteArray
  | 0, b => [b]
  | f + 1, b => if b.size ≤ 16 then [b] else b.extract 0 16 :: chunkF f (b.extract 16 b.size)
def chunks (b : ByteArray) : List ByteArray := chunkF b.size b
theorem chunkF_enough : ∀ (f g : Nat) (b : ByteArray), b.size ≤ f → b.size ≤ g → chunkF f b = chunkF g b
  | 0, 0, b, _, _ => rfl
  | 0, g + 1, b, h, _ => by simp [chunkF]; omega
  | f + 1, 0, b, _, h => by simp [chunkF]; omega
  | f + 1, g + 1, b, h1, h2 => by
    simp only [chunkF]
    split
    · rfl
    · rw [chunkF_enough f g _ (by rw [ByteArray.size_extract]; omega) (by rw [ByteArray.size_extract]; omega)]
theorem chunks_small {b : ByteArray} (h : b.size ≤ 16) : chunks b = [b] := by
  unfold chunks
  cases e : b.size with
  | zero => rfl
  | succ n => simp [chunkF]; omega
theorem chunks_big {b : ByteArray} (h : ¬ b.size ≤ 16) : chunks b = b.extract 0 16 :: chunks (b.extract 16 b.size) := by
  unfold chunks
  rw [chunkF_enough b.size (b.size + 1) b (Nat.le_refl _) (by omega)]
  simp only [chunkF, h, if_false]
  rw [chunkF_enough b.size (b.extract 16 b.size).size _ (by rw [ByteArray.size_extract]; omega) (Nat.le_refl _)]
/-- the size of a string in a slot -/
def strSz : Value → Nat
  | .string b => b.size
  | _ => 0
theorem infoStr17 : (Try.prog.info? 9).map (fun i => (i.zero, i.size, i.bytes)) = some (some (.string ⟨#[]⟩), 1, 16) := by kernel_rfl
set_option maxHeartbeats 2000000 in
set_option maxRecDepth 100000 in
theorem pieces_any (b : ByteArray) (hb : b.size ≤ 100000) (w : World) :
    Calls Try.prog 62 #[.string b] w fun e w' => ∃ v, e = .returned v ∧ Below w.heap.size w w' ∧ w'.ownsRow w.heap.size 9 1 v (chunks b).length ((chunks b).map Value.string) := by
  obtain ⟨i0, hi, hz0, hz1, hz2⟩ := info_parts infoStr17
  go_enter Try.func62, Try.ntmps62
  go_wp2_with fail
  go_loopw [0, 3] (fun s l wr => ∃ cur acc, s = .string cur ∧ wr.ownsRow w.heap.size 9 1 l acc.length (acc.map Value.string) ∧ Below w.heap.size w wr ∧ chunks b = acc ++ chunks cur ∧ acc.length * 16 + cur.size = b.size) (fun s _ _ => strSz s)
  case atStart => exact ⟨b, [], rfl, World.ownsRow_nil _ _ _ _, Below.refl _ _, rfl, by simp⟩
  case round =>
    obtain ⟨cur, acc, rfl, hown, hbw, hch, hsz⟩ := hrel
    have hz := hbw.size
    by_cases h16 : cur.size ≤ 16
    · rw [chunks_small h16] at hch
      have hmin : min (cur.size : Int) 16 = (cur.size : Int) := by omega
      go_wp2_with (at_builtin; refine wpList_append_own _ rfl _ _ 27 rfl w.heap.size 9 i0 _ 1 16 Try.underlying27 hi hz0 hz1 hz2 rfl (by decide) _ _ _ rfl (hown.alloc _) ⟨wr.heap.size, 0, none⟩ 1 1 [.string cur] rfl rfl ?c1 ?c2 ?c3 ?c4 ?c5 ?_)
      case c1 => exact cell_one_new _ _ _
      case c2 => simp [Value.oneCell']
      case c3 => simp only [maxLen]; omega
      case c4 => omega
      case c5 => first | omega | (simp; omega)
      intro v' w5 hown' hgrow _
      have hb5 : Below w.heap.size w w5 := (hbw.alloc hz _).grown hgrow (by go_size) (fun q hq => (hown.lt q hq).1)
      have he := ext_end cur
      clear hown
      go_wp2_with fail
      go_ret
      refine ⟨v', rfl, hb5, ?_⟩
      rw [hch]
      simpa using hown'
    · have hch2 := chunks_big h16
      have hmin : min (cur.size : Int) 16 = 16 := by omega
      have hs2 : (cur.extract 16 cur.size).size = cur.size - 16 := by rw [ByteArray.size_extract]; omega
      have hne : cur.extract 16 cur.size ≠ ByteArray.empty := fun e => by rw [e] at hs2; simp at hs2; omega
      have hne2 := sem_f hne
      have hsl : ((16 : Int)).toNat = 16 := rfl
      rw [hch2] at hch
      generalize hrest : cur.extract 16 cur.size = rest at *
      go_wp2_with (at_builtin; refine wpList_append_own _ rfl _ _ 27 rfl w.heap.size 9 i0 _ 1 16 Try.underlying27 hi hz0 hz1 hz2 rfl (by decide) _ _ _ rfl (hown.alloc _) ⟨wr.heap.size, 0, none⟩ 1 1 [.string (cur.extract 0 16)] rfl rfl ?c1 ?c2 ?c3 ?c4 ?c5 ?_)
      case c1 => exact cell_one_new _ _ _
      case c2 => simp [Value.oneCell']
      case c3 => simp only [maxLen]; omega
      case c4 => omega
      case c5 => first | omega | (simp; omega)
      intro v' w5 hown' hgrow _
      have hb5 : Below w.heap.size w w5 := (hbw.alloc hz _).grown hgrow (by go_size) (fun q hq => (hown.lt q hq).1)
      clear hown
      go_wp2_with fail
      refine ⟨⟨rest, acc ++ [cur.extract 0 16], rfl, ?_, hb5, by rw [hch]; simp, ?_⟩, ?_⟩
      · simpa using hown'
      · rw [List.length_append]; simp only [List.length_cons, List.length_nil]; omega
      · show rest.size < cur.size; omega
end Go.Proofs.Ytljommhbhpappaa
