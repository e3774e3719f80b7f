/-
  Several texts in one: Key17, Lob1, Lob2, Lob3.
-/
import Derived.Test.YtljommhbhpappaaPkStage
import Derived.Sort.Walk0
import Derived.Test.YtljommhbhpappaaPkTree
namespace Go.Proofs.Ytljommhbhpappaa
/-!
  Layer 17 (lob): keys of pieces as bytes (plain law): they rise with the objects' numbers, then with the pieces'.
-/
section
open Go.RowKit Go.Joins
set_option linter.unusedVariables false
set_option linter.unusedSimpArgs false

def b8 (x : Int) : UInt8 := UInt8.ofNat x.toNat
/-- the key of a piece -/
def key4 (n p : Int) : ByteArray := ⟨#[b8 (n / 256 % 256), b8 (n % 256), b8 (p / 256 % 256), b8 (p % 256)]⟩
theorem key4_list (n p : Int) : (key4 n p).toList = [b8 (n / 256 % 256), b8 (n % 256), b8 (p / 256 % 256), b8 (p % 256)] := by
  rw [ByteArray.toList_eq]; rfl
theorem key4_size (n p : Int) : (key4 n p).size = 4 := rfl
theorem b8_lt {x y : Int} (hx : 0 ≤ x ∧ x < 256) (hy : 0 ≤ y ∧ y < 256) : decide (b8 x < b8 y) = decide (x < y) := by
  have h1 : (b8 x).toNat = x.toNat := by simp only [b8, UInt8.toNat_ofNat']; omega
  have h2 : (b8 y).toNat = y.toNat := by simp only [b8, UInt8.toNat_ofNat']; omega
  rw [decide_eq_decide, UInt8.lt_iff_toNat_lt, h1, h2]
  omega
theorem b8_eq {x y : Int} (hx : 0 ≤ x ∧ x < 256) (hy : 0 ≤ y ∧ y < 256) : (b8 x == b8 y) = decide (x = y) := by
  have h1 : (b8 x).toNat = x.toNat := by simp only [b8, UInt8.toNat_ofNat']; omega
  have h2 : (b8 y).toNat = y.toNat := by simp only [b8, UInt8.toNat_ofNat']; omega
  by_cases e : x = y
  · subst e; simp
  · have : b8 x ≠ b8 y := fun h => by
      have := congrArg UInt8.toNat h
      rw [h1, h2] at this; omega
    simp [e, this]
theorem key4_less (a i b k : Int) (ha : 0 ≤ a ∧ a ≤ 65535) (hi : 0 ≤ i ∧ i ≤ 65535) (hb : 0 ≤ b ∧ b ≤ 65535) (hk : 0 ≤ k ∧ k ≤ 65535) :
    Op.bytesLess (key4 a i).toList (key4 b k).toList = decide (a < b ∨ (a = b ∧ i < k)) := by
  have q1 : 0 ≤ a / 256 % 256 ∧ a / 256 % 256 < 256 := by omega
  have q2 : 0 ≤ a % 256 ∧ a % 256 < 256 := by omega
  have q3 : 0 ≤ i / 256 % 256 ∧ i / 256 % 256 < 256 := by omega
  have q4 : 0 ≤ i % 256 ∧ i % 256 < 256 := by omega
  have r1 : 0 ≤ b / 256 % 256 ∧ b / 256 % 256 < 256 := by omega
  have r2 : 0 ≤ b % 256 ∧ b % 256 < 256 := by omega
  have r3 : 0 ≤ k / 256 % 256 ∧ k / 256 % 256 < 256 := by omega
  have r4 : 0 ≤ k % 256 ∧ k % 256 < 256 := by omega
  rw [key4_list, key4_list]
  simp only [Op.bytesLess, Bool.or_false, Bool.and_false]
  rw [b8_lt q1 r1, b8_lt q2 r2, b8_lt q3 r3, b8_lt q4 r4, b8_eq q1 r1, b8_eq q2 r2, b8_eq q3 r3]
  rw [Bool.eq_iff_iff]
  simp only [Bool.or_eq_true, Bool.and_eq_true, decide_eq_true_eq]
  omega
end

/-!
  Layer 17 (lob): a piece's key; an object's bytes in pieces.
-/
section
open Go.RowKit Go.Joins
set_option linter.unusedVariables false
set_option linter.unusedSimpArgs false

set_option maxHeartbeats 2000000 in
theorem lkey_any (n p : Int) (w : World) :
    Calls Try.prog 15 #[.int .i64 n, .int .i64 p] w fun e w' => e = .returned (.string (key4 n p)) ∧ Below w.heap.size w w' := by
  have hcv : ∀ (x0 x1 x2 x3 : Int) (w : World), (convert 106 9 (.slice (some ⟨w.heap.size, 0, none⟩) 4 4)).run Try.prog (w.alloc (.cells #[.int .u8 x0, .int .u8 x1, .int .u8 x2, .int .u8 x3] 5)) = .ok (.string ⟨#[UInt8.ofNat x0.toNat, UInt8.ofNat x1.toNat, UInt8.ofNat x2.toNat, UInt8.ofNat x3.toNat]⟩) (w.alloc (.cells #[.int .u8 x0, .int .u8 x1, .int .u8 x2, .int .u8 x3] 5)) := by
    intro x0 x1 x2 x3 w
    refine run_convert_bytes_arg _ 106 5 Try.underlying106 Try.underlying5 w.heap.size 0 4 4 [x0, x1, x2, x3] rfl ?_ 9 Try.underlying9
    intro i hi
    rw [World.cell?_alloc_mark]
    rcases i with _ | _ | _ | _ | i
    all_goals first | rfl | omega
  go_enter Try.func15, Try.ntmps15
  go_wp2
  go_ret
  exact ⟨rfl, (Below.refl _ _).alloc (Nat.le_refl _) _⟩

/-- an object's bytes in pieces -/
def chunkF : Nat → ByteArray → List ByteArray
  | 0, b => [b]
  | f + 1, b => if b.size ≤ 16 then [b] else b.extract 0 16 :: chunkF f (b.extract 16 b.size)
def chunks (b : ByteArray) : List ByteArray := chunkF b.size b
theorem chunkF_enough : ∀ (f g : Nat) (b : ByteArray), b.size ≤ f → b.size ≤ g → chunkF f b = chunkF g b
  | 0, 0, b, _, _ => rfl
  | 0, g + 1, b, h, _ => by simp [chunkF]; omega
  | f + 1, 0, b, _, h => by simp [chunkF]; omega
  | f + 1, g + 1, b, h1, h2 => by
    simp only [chunkF]
    split
    · rfl
    · rw [chunkF_enough f g _ (by rw [ByteArray.size_extract]; omega) (by rw [ByteArray.size_extract]; omega)]
theorem chunks_small {b : ByteArray} (h : b.size ≤ 16) : chunks b = [b] := by
  unfold chunks
  cases e : b.size with
  | zero => rfl
  | succ n => simp [chunkF]; omega
theorem chunks_big {b : ByteArray} (h : ¬ b.size ≤ 16) : chunks b = b.extract 0 16 :: chunks (b.extract 16 b.size) := by
  unfold chunks
  rw [chunkF_enough b.size (b.size + 1) b (Nat.le_refl _) (by omega)]
  simp only [chunkF, h, if_false]
  rw [chunkF_enough b.size (b.extract 16 b.size).size _ (by rw [ByteArray.size_extract]; omega) (Nat.le_refl _)]
/-- the size of a string in a slot -/
def strSz : Value → Nat
  | .string b => b.size
  | _ => 0
theorem infoStr17 : (Try.prog.info? 9).map (fun i => (i.zero, i.size, i.bytes)) = some (some (.string ⟨#[]⟩), 1, 16) := by kernel_rfl
set_option maxHeartbeats 2000000 in
set_option maxRecDepth 100000 in
theorem pieces_any (b : ByteArray) (hb : b.size ≤ 100000) (w : World) :
    Calls Try.prog 62 #[.string b] w fun e w' => ∃ v, e = .returned v ∧ Below w.heap.size w w' ∧ w'.ownsRow w.heap.size 9 1 v (chunks b).length ((chunks b).map Value.string) := by
  obtain ⟨i0, hi, hz0, hz1, hz2⟩ := info_parts infoStr17
  go_enter Try.func62, Try.ntmps62
  go_wp2_with fail
  go_loopw [0, 3] (fun s l wr => ∃ cur acc, s = .string cur ∧ wr.ownsRow w.heap.size 9 1 l acc.length (acc.map Value.string) ∧ Below w.heap.size w wr ∧ chunks b = acc ++ chunks cur ∧ acc.length * 16 + cur.size = b.size) (fun s _ _ => strSz s)
  case atStart => exact ⟨b, [], rfl, World.ownsRow_nil _ _ _ _, Below.refl _ _, rfl, by simp⟩
  case round =>
    obtain ⟨cur, acc, rfl, hown, hbw, hch, hsz⟩ := hrel
    have hz := hbw.size
    by_cases h16 : cur.size ≤ 16
    · rw [chunks_small h16] at hch
      have hmin : min (cur.size : Int) 16 = (cur.size : Int) := by omega
      go_wp2_with (at_builtin; refine wpList_append_own _ rfl _ _ 27 rfl w.heap.size 9 i0 _ 1 16 Try.underlying27 hi hz0 hz1 hz2 rfl (by decide) _ _ _ rfl (hown.alloc _) ⟨wr.heap.size, 0, none⟩ 1 1 [.string cur] rfl rfl ?c1 ?c2 ?c3 ?c4 ?c5 ?_)
      case c1 => exact cell_one_new _ _ _
      case c2 => simp [Value.oneCell']
      case c3 => simp only [maxLen]; omega
      case c4 => omega
      case c5 => first | omega | (simp; omega)
      intro v' w5 hown' hgrow _
      have hb5 : Below w.heap.size w w5 := (hbw.alloc hz _).grown hgrow (by go_size) (fun q hq => (hown.lt q hq).1)
      have he := ext_end cur
      clear hown
      go_wp2_with fail
      go_ret
      refine ⟨v', rfl, hb5, ?_⟩
      rw [hch]
      simpa using hown'
    · have hch2 := chunks_big h16
      have hmin : min (cur.size : Int) 16 = 16 := by omega
      have hs2 : (cur.extract 16 cur.size).size = cur.size - 16 := by rw [ByteArray.size_extract]; omega
      have hne : cur.extract 16 cur.size ≠ ByteArray.empty := fun e => by rw [e] at hs2; simp at hs2; omega
      have hne2 := sem_f hne
      have hsl : ((16 : Int)).toNat = 16 := rfl
      rw [hch2] at hch
      generalize hrest : cur.extract 16 cur.size = rest at *
      go_wp2_with (at_builtin; refine wpList_append_own _ rfl _ _ 27 rfl w.heap.size 9 i0 _ 1 16 Try.underlying27 hi hz0 hz1 hz2 rfl (by decide) _ _ _ rfl (hown.alloc _) ⟨wr.heap.size, 0, none⟩ 1 1 [.string (cur.extract 0 16)] rfl rfl ?c1 ?c2 ?c3 ?c4 ?c5 ?_)
      case c1 => exact cell_one_new _ _ _
      case c2 => simp [Value.oneCell']
      case c3 => simp only [maxLen]; omega
      case c4 => omega
      case c5 => first | omega | (simp; omega)
      intro v' w5 hown' hgrow _
      have hb5 : Below w.heap.size w w5 := (hbw.alloc hz _).grown hgrow (by go_size) (fun q hq => (hown.lt q hq).1)
      clear hown
      go_wp2_with fail
      refine ⟨⟨rest, acc ++ [cur.extract 0 16], rfl, ?_, hb5, by rw [hch]; simp, ?_⟩, ?_⟩
      · simpa using hown'
      · rw [List.length_append]; simp only [List.length_cons, List.length_nil]; omega
      · show rest.size < cur.size; omega
end

/-!
  Layer 17 (lob): the steps from one state of an object to another.
-/
section
open Go.RowKit Go.Joins
set_option linter.unusedVariables false
set_option linter.unusedSimpArgs false

/-- a step: its kind, key and value -/
abbrev Stp := Int × ByteArray × ByteArray
def stpCs (x : Stp) : Array Value := #[.int .i64 x.1, .string x.2.1, .string x.2.2]
def stpRow (l : List Stp) : List Value := l.flatMap fun x => (stpCs x).toList
theorem stpRow_append (a b : List Stp) : stpRow (a ++ b) = stpRow a ++ stpRow b := by simp [stpRow]
def stepAt (num : Int) (fr to : List ByteArray) (i : Nat) : List Stp :=
  if to.length ≤ i then [(16, key4 num i, ByteArray.empty)]
  else if fr.length ≤ i then [(13, key4 num i, to.getD i ByteArray.empty)]
  else if fr.getD i ByteArray.empty = to.getD i ByteArray.empty then [] else [(15, key4 num i, to.getD i ByteArray.empty)]
def stepsTo (num : Int) (fr to : List ByteArray) (k : Nat) : List Stp := (List.range k).flatMap (stepAt num fr to)
theorem stepsTo_succ (num : Int) (fr to : List ByteArray) (k : Nat) : stepsTo num fr to (k + 1) = stepsTo num fr to k ++ stepAt num fr to k := by
  simp [stepsTo, List.range_succ]
theorem stepAt_len (num : Int) (fr to : List ByteArray) (k : Nat) : (stepAt num fr to k).length ≤ 1 := by
  unfold stepAt
  split
  · simp
  · split
    · simp
    · split <;> simp
theorem stepsTo_len (num : Int) (fr to : List ByteArray) : ∀ k, (stepsTo num fr to k).length ≤ k
  | 0 => by simp [stepsTo]
  | k + 1 => by
    have := stepsTo_len num fr to k
    have := stepAt_len num fr to k
    rw [stepsTo_succ, List.length_append]
    omega
/-- strings that stand in memory, where a slice points -/
def StrAt (w : World) (a : Option Addr) (I : List ByteArray) : Prop :=
  I.length ≤ 2000000 ∧ (I.length = 0 ∨ ∃ b, a = some ⟨b, 0, none⟩ ∧ b < w.heap.size ∧ ∀ (i : Nat) (h : i < I.length), w.cell? ⟨b, i, none⟩ = some (.string I[i]))
theorem StrAt.below {w w' : World} {a : Option Addr} {I : List ByteArray} (h : StrAt w a I) (hb : Below w.heap.size w w') : StrAt w' a I := by
  refine ⟨h.1, ?_⟩
  rcases h.2 with h0 | ⟨b, rfl, h1, h2⟩
  · exact .inl h0
  · exact .inr ⟨b, rfl, Nat.lt_of_lt_of_le h1 hb.size, fun i hi => (hb.cell (p := ⟨b, i, none⟩) h1).trans (h2 i hi)⟩
theorem own_lo17 {w : World} {b s n k : Nat} {e : TypeId} {v : Value} {xs : List Value} (h : w.ownsRow b e s v n xs) (hk : k < b) : some k ≠ v.ownBlock := fun h2 => by
  have := (h.lt _ h2.symm).1; omega
theorem infoStp : (Try.prog.info? 47).map (fun i => (i.zero, i.size, i.bytes)) = some (some (.agg #[.int .i64 0, .string ⟨#[]⟩, .string ⟨#[]⟩]), 3, 40) := by kernel_rfl

set_option maxHeartbeats 4000000 in
set_option maxRecDepth 100000 in
theorem steps_any (num : Int) (fa ta : Option Addr) (fc tc : Nat) (fr to : List ByteArray) (w : World) (hf : StrAt w fa fr) (ht : StrAt w ta to) :
    Calls Try.prog 61 #[.int .i64 num, .slice fa fr.length fc, .slice ta to.length tc] w fun e w' => ∃ v, e = .returned v ∧ Below w.heap.size w w' ∧ w'.ownsRow w.heap.size 47 3 v (stepsTo num fr to (max fr.length to.length)).length (stpRow (stepsTo num fr to (max fr.length to.length))) := by
  obtain ⟨i0, hi, hz0, hz1, hz2⟩ := info_parts infoStp
  have HF := Lib.hid hf
  have HT := Lib.hid ht
  have hfl := hf.1
  have htl := ht.1
  clear hf ht
  obtain ⟨M, hM⟩ : ∃ M, max fr.length to.length = M := ⟨_, rfl⟩
  rw [hM]
  have hmx : max (fr.length : Int) (to.length : Int) = (M : Int) := by omega
  have hM1 : M ≤ 2000000 := by omega
  have HK := Lib.hid (fun k w' => lkey_any num (k : Int) w')
  go_enter Try.func61, Try.ntmps61
  go_wp2_with fail
  go_loopw [7, 14] (fun l v wr => ∃ k : Nat, k ≤ M ∧ v = .int .i64 k ∧ wr.ownsRow w.heap.size 47 3 l (stepsTo num fr to k).length (stpRow (stepsTo num fr to k)) ∧ Below w.heap.size w wr) (fun _ v _ => M - (intOf v).toNat)
  case atStart => exact ⟨0, by omega, rfl, World.ownsRow_nil _ _ _ _, Below.refl _ _⟩
  case round =>
    obtain ⟨k, hk, rfl, hown, hbw⟩ := hrel
    have hz := hbw.size
    have HKk := Lib.hid (HK.out (k : Nat))
    have hlen := stepsTo_len num fr to k
    by_cases hkM : k < M
    · have hsucc := stepsTo_succ num fr to k
      by_cases h1 : to.length ≤ k
      · have hst : stepAt num fr to k = [(16, key4 num k, ByteArray.empty)] := by simp [stepAt, h1]
        have h1i : decide ((to.length : Int) ≤ (k : Int)) = true := by simp; omega
        rw [hst] at hsucc
        have HS := Lib.hid hsucc
        clear hsucc hst
        generalize stepsTo num fr to k = R at *
        generalize key4 num (k : Int) = ky at *
        go_wp2_with fail
        refine (HKk.out _).mono ?_; rintro e w3 ⟨rfl, hb3⟩
        have hz3 := hb3.size
        have hown3 := own_below1 hown hb3
        have hbw3 : Below w.heap.size w w3 := hbw.trans (hb3.mono hz)
        clear hb3 hown
        go_wp2_with (at_builtin; refine wpList_append_own _ rfl _ _ 32 rfl w.heap.size 47 i0 _ 3 40 Try.underlying32 hi hz0 hz1 hz2 rfl (by decide) _ _ _ rfl (hown3.alloc _) ⟨w3.heap.size, 0, none⟩ 1 1 (stpCs (16, ky, ByteArray.empty)).toList rfl rfl ?c1 ?c2 ?c3 ?c4 ?c5 ?_)
        case c1 => exact World.news_of_block (cs := stpCs (16, ky, ByteArray.empty)) (t := 47) (fr := (0, 0)) (heap_alloc_new w3 _)
        case c2 => intro u hu; simp [stpCs] at hu; rcases hu with rfl | rfl | rfl <;> rfl
        case c3 => simp only [maxLen]; omega
        case c4 => omega
        case c5 => first | omega | (simp; omega)
        intro v' w5 hown' hgrow _
        have hb5 : Below w.heap.size w w5 := (hbw3.alloc (by omega) _).grown hgrow (by go_size) (fun q hq => (hown3.lt q hq).1)
        clear hown3 hgrow
        go_wp2_with fail
        refine ⟨⟨k + 1, by omega, by go_num, ?_, hb5⟩, ?_⟩
        · rw [HS.out, stpRow_append]; simpa [stpRow] using hown'
        · simp [intOf]; omega
      · have hTr := HT.out
        obtain ⟨bt, rfl, hbt, hcell⟩ := hTr.2.resolve_left (by omega)
        have hct := (hbw.cell (p := ⟨bt, k, none⟩) hbt).trans (hcell k (by omega))
        have hbtr : bt < wr.heap.size := by omega
        have h1i : decide ((to.length : Int) ≤ (k : Int)) = false := by simp; omega
        have hgd : to.getD k ByteArray.empty = to[k] := by simp [List.getD, List.getElem?_eq_getElem (by omega : k < to.length)]
        clear hTr hcell
        by_cases h2 : fr.length ≤ k
        · have hst : stepAt num fr to k = [(13, key4 num k, to[k])] := by
            unfold stepAt; rw [if_neg h1, if_pos h2, hgd]
          have h2i : decide ((fr.length : Int) ≤ (k : Int)) = true := by simp; omega
          rw [hst] at hsucc
          have HS := Lib.hid hsucc
          clear hsucc hst hgd
          generalize stepsTo num fr to k = R at *
          generalize key4 num (k : Int) = ky at *
          have hk0 : (0 : Int) ≤ (k : Int) := Int.natCast_nonneg _
          have hk1 : (k : Int) < (to.length : Int) := by omega
          generalize to[k] = x at *
          go_wp2_with fail
          have hne := own_lo17 hown hbt
          have hone : ∀ u ∈ (stpCs (13, ky, x)).toList, u.oneCell' = true := by
            intro u hu; simp [stpCs] at hu; rcases hu with rfl | rfl | rfl <;> rfl
          go_region_held3 (fun W => W.cell? ⟨bt, k, none⟩ = some (.string x))
            (first
              | assumption
              | exact (hb3.cell (p := ⟨bt, k, none⟩) hbtr).trans hct
              | go_keep
              | exact hc7)
            (first
              | ((go_at_call 15; refine (HKk.out _).mono ?_; rintro e w3 ⟨rfl, hb3⟩; have hz3 : wr.heap.size ≤ w3.heap.size := hb3.size; have hown3 := own_below1 hown.drew hb3; have hc3 := (hb3.cell (p := ⟨bt, k, none⟩) hbtr).trans hct))
              | ((refine step_append_lies _ (by rfl) _ _ _ (by rfl) w.heap.size 47 i0 _ 3 40 Try.underlying32 hi hz0 hz1 hz2 rfl (by omega) _ R.length _ (by rfl) (hown3.alloc _) ⟨w3.heap.size, 0, none⟩ 1 1 (stpCs (13, ky, x)).toList (by rfl) (by rfl) (World.news_of_block (cs := stpCs (13, ky, x)) (t := 47) (fr := (0, 0)) (heap_alloc_new w3 _)) hone (by omega) (by simp only [maxLen]; omega) (by omega) (by simp; omega) (w3.heap.size + 1) (by simp) ?_; intro gg cap w7 hown7 hgrow hat hltg; have hc7 : w7.cell? ⟨bt, k, none⟩ = some (.string x) := by rw [hgrow.cell_far _ (by simp; omega) hne]; exact (((Below.refl w3.heap.size w3).alloc (Nat.le_refl _) _).cell (p := ⟨bt, k, none⟩) (by show bt < w3.heap.size; omega)).trans hc3)))
          all_goals
            have hb5 : Below w.heap.size w w7 := ((hbw.drew.trans (hb3.mono hz)).alloc (by omega) _).grown hgrow (by simp; omega) (fun q hq => (hown3.lt q hq).1)
            clear hown3 hgrow hown
            go_wp2_with fail
            refine ⟨⟨k + 1, by omega, by go_num, ?_, hb5⟩, ?_⟩
            · rw [HS.out, stpRow_append]; simpa [stpRow] using hown7
            · simp [intOf]; omega
        · have hTf := HF.out
          obtain ⟨bf, rfl, hbf, hcelf⟩ := hTf.2.resolve_left (by omega)
          have hcf := (hbw.cell (p := ⟨bf, k, none⟩) hbf).trans (hcelf k (by omega))
          have hbfr : bf < wr.heap.size := by omega
          have h2i : decide ((fr.length : Int) ≤ (k : Int)) = false := by simp; omega
          have hgf : fr.getD k ByteArray.empty = fr[k] := by simp [List.getD, List.getElem?_eq_getElem (by omega : k < fr.length)]
          clear hTf hcelf
          have hk0 : (0 : Int) ≤ (k : Int) := Int.natCast_nonneg _
          have hk1 : (k : Int) < (to.length : Int) := by omega
          have hk2 : (k : Int) < (fr.length : Int) := by omega
          have hne := own_lo17 hown hbt
          have hbeq := beq_eq fr[k] to[k]
          by_cases he : fr[k] = to[k]
          · have hst : stepAt num fr to k = [] := by
              unfold stepAt; rw [if_neg h1, if_neg h2, hgd, hgf, if_pos he]
            have hq : (fr[k].toList != to[k].toList) = false := by rw [he]; simp
            have hq2 : (fr[k].toList == to[k].toList) = true := by rw [he]; simp
            rw [hst, List.append_nil] at hsucc
            have HS := Lib.hid hsucc
            clear hsucc hst hgd hgf he hbeq
            generalize stepsTo num fr to k = R at *
            generalize fr[k] = y at *
            generalize to[k] = x at *
            go_wp2_with fail
            go_region_held3 (fun W => W.cell? ⟨bt, k, none⟩ = some (.string x) ∧ W.cell? ⟨bf, k, none⟩ = some (.string y))
              (exact ⟨hct, hcf⟩)
              (fail)
            all_goals
              go_wp2_with fail
              refine ⟨⟨k + 1, by omega, by go_num, ?_, hbw.drew⟩, ?_⟩
              · rw [HS.out]; exact hown.drew
              · simp [intOf]; omega
          · have hst : stepAt num fr to k = [(15, key4 num k, to[k])] := by
              unfold stepAt; rw [if_neg h1, if_neg h2, hgd, hgf, if_neg he]
            have hq : (fr[k].toList != to[k].toList) = true := by simp only [bne, hbeq]; simp [he]
            have hq2 : (fr[k].toList == to[k].toList) = false := by rw [hbeq]; simp [he]
            rw [hst] at hsucc
            have HS := Lib.hid hsucc
            clear hsucc hst hgd hgf he hbeq
            generalize stepsTo num fr to k = R at *
            generalize fr[k] = y at *
            generalize to[k] = x at *
            generalize key4 num (k : Int) = ky at *
            go_wp2_with fail
            go_region_held3 (fun W => W.cell? ⟨bt, k, none⟩ = some (.string x) ∧ W.cell? ⟨bf, k, none⟩ = some (.string y))
              (exact ⟨hct, hcf⟩)
              (fail)
            all_goals
              have hone : ∀ u ∈ (stpCs (15, ky, x)).toList, u.oneCell' = true := by
                intro u hu; simp [stpCs] at hu; rcases hu with rfl | rfl | rfl <;> rfl
              go_wp2_with fail
              go_region_held3 (fun W => W.cell? ⟨bt, k, none⟩ = some (.string x))
                (first
                  | exact hct
                  | exact (hb3.cell (p := ⟨bt, k, none⟩) hbtr).trans hct
                  | go_keep
                  | exact hc7)
                (first
                  | ((go_at_call 15; refine (HKk.out _).mono ?_; rintro e w3 ⟨rfl, hb3⟩; have hz3 : wr.heap.size ≤ w3.heap.size := hb3.size; have hown3 := own_below1 hown.drew.drew hb3; have hc3 := (hb3.cell (p := ⟨bt, k, none⟩) hbtr).trans hct))
                  | ((refine step_append_lies _ (by rfl) _ _ _ (by rfl) w.heap.size 47 i0 _ 3 40 Try.underlying32 hi hz0 hz1 hz2 rfl (by omega) _ R.length _ (by rfl) (hown3.alloc _) ⟨w3.heap.size, 0, none⟩ 1 1 (stpCs (15, ky, x)).toList (by rfl) (by rfl) (World.news_of_block (cs := stpCs (15, ky, x)) (t := 47) (fr := (0, 0)) (heap_alloc_new w3 _)) hone (by omega) (by simp only [maxLen]; omega) (by omega) (by simp; omega) (w3.heap.size + 1) (by simp) ?_; intro gg cap w7 hown7 hgrow hat hltg; have hc7 : w7.cell? ⟨bt, k, none⟩ = some (.string x) := by rw [hgrow.cell_far _ (by simp; omega) hne]; exact (((Below.refl w3.heap.size w3).alloc (Nat.le_refl _) _).cell (p := ⟨bt, k, none⟩) (by show bt < w3.heap.size; omega)).trans hc3)))
              all_goals
                have hb5 : Below w.heap.size w w7 := ((hbw.drew.drew.trans (hb3.mono hz)).alloc (by omega) _).grown hgrow (by simp; omega) (fun q hq => (hown3.lt q hq).1)
                clear hown3 hgrow hown
                go_wp2_with fail
                refine ⟨⟨k + 1, by omega, by go_num, ?_, hb5⟩, ?_⟩
                · rw [HS.out, stpRow_append]; simpa [stpRow] using hown7
                · simp [intOf]; omega
    · have hke : k = M := by omega
      subst hke
      go_wp2_with fail
      go_ret
      exact ⟨_, rfl, hbw, hown⟩
end

/-!
  Layer 17 (lob): all bytes of an object, read off the tree.
-/
section
open Go.RowKit Go.Joins
set_option linter.unusedVariables false
set_option linter.unusedSimpArgs false

/-- the pieces from one on, joined -/
def readF (F : List NC) (num : Int) : Nat → Nat → ByteArray → ByteArray
  | 0, _, acc => acc
  | f + 1, i, acc => match getL (key4 num i) F with
    | some v => readF F num f (i + 1) (acc ++ v)
    | none => acc
/-- what a call answers: bytes and an error's number -/
def bytesR (F : List NC) (num : Int) : ByteArray × Int :=
  if num < 0 ∨ 1000 ≤ num then (ByteArray.empty, 1) else match getL (key4 num 0) F with
    | some v => (readF F num 256 1 v, 0)
    | none => (ByteArray.empty, 150)
theorem key4_ok (n p : Int) : KeyOk (key4 n p) := ⟨fun e => by have := congrArg ByteArray.size e; rw [key4_size] at this; simp at this, by rw [key4_size]; omega⟩
theorem getL_size {st : Int} {S : Vol} {N : Nat} {T : Tr N} (h : TrAt S st N T) {key v : ByteArray} (hg : getL key (flat (Tr.leaves N T)) = some v) : v.size ≤ 20 := by
  unfold getL at hg
  cases hs : seekL key (flat (Tr.leaves N T)) with
  | none => rw [hs] at hg; cases hg
  | some c =>
    rw [hs] at hg
    simp only at hg
    split at hg
    · cases hg
      have hm : c ∈ flat (Tr.leaves N T) := List.mem_of_find?_eq_some hs
      obtain ⟨x, hx, hc⟩ := mem_flat.1 hm
      exact ((h.leafOk x hx).1.2.2.1 rfl c hc).2.2.2
    · cases hg

set_option maxHeartbeats 4000000 in
set_option maxRecDepth 100000 in
theorem lbytes_any {S : Vol} {st : Int} {N : Nat} {T : Tr N} (h : TrAt S st N T) (b mb hb pb : Nat) (kd : Int) (hkd : kd = 2 ∨ kd = 3)
    (hf : ∀ w', StageAt w' b mb hb pb S → Calls Try.prog 68 #[.pointer (some ⟨b, 0, none⟩), .int .i64 st] w' fun e w2 => e = .returned (.tuple #[.int .i64 kd, .int .i64 (Tr.id N T), .int .i64 1, .int .i64 0]) ∧ Below w'.heap.size w' w2)
    (num : Int) (w : World) (hs : StageAt w b mb hb pb S) :
    Calls Try.prog 60 #[.pointer (some ⟨b, 0, none⟩), .int .i64 st, .int .i64 num] w fun e w' => e = .returned (.tuple #[.string (bytesR (flat (Tr.leaves N T)) num).1, .int .i64 (bytesR (flat (Tr.leaves N T)) num).2]) ∧ Below w.heap.size w w' := by
  obtain ⟨R, hR⟩ : ∃ R, bytesR (flat (Tr.leaves N T)) num = R := ⟨_, rfl⟩
  rw [hR]
  unfold bytesR at hR
  by_cases hbad : num < 0 ∨ 1000 ≤ num
  · rw [if_pos hbad] at hR
    subst hR
    rcases hbad with h1 | h1
    · have h1i : decide (num < 0) = true := by simp [h1]
      clear hf
      go_enter Try.func60, Try.ntmps60
      go_wp2_with fail
      go_ret2
      exact ⟨rfl, Below.refl _ _⟩
    · have h1i : decide (num < 0) = false := by simp; omega
      have h2i : decide (1000 ≤ num) = true := by simp [h1]
      clear hf
      go_enter Try.func60, Try.ntmps60
      go_wp2_with fail
      go_ret2
      exact ⟨rfl, Below.refl _ _⟩
  · rw [if_neg hbad] at hR
    have h1i : decide (num < 0) = false := by simp; omega
    have h2i : decide (1000 ≤ num) = false := by simp; omega
    have HS := Lib.hid hs
    have hlt := hs.lt
    have HG := Lib.hid (fun (i : Nat) w' hs' => tget_any h b mb hb pb kd hkd hf (key4 num i) (key4_ok num i) w' hs')
    have HSz := Lib.hid (fun key v (hg : getL key (flat (Tr.leaves N T)) = some v) => getL_size h hg)
    have HK := Lib.hid (fun (i : Nat) w' => lkey_any num (i : Int) w')
    clear hf hs h
    generalize flat (Tr.leaves N T) = F at *
    go_enter Try.func60, Try.ntmps60
    go_wp2_with fail
    go_loopw [8, 9] (fun s v wr => ∃ (k : Nat) (acc : ByteArray), k ≤ 257 ∧ v = .int .i64 k ∧ s = .string acc ∧ acc.size ≤ 20 * k ∧ Below w.heap.size w wr ∧ ((k = 0 ∧ acc = ByteArray.empty) ∨ (0 < k ∧ R = (readF F num (257 - k) k acc, 0)))) (fun _ v _ => 257 - (intOf v).toNat)
    case atStart => exact ⟨0, ByteArray.empty, by omega, rfl, rfl, by simp, Below.refl _ _, .inl ⟨rfl, rfl⟩⟩
    case round =>
      obtain ⟨k, acc, hk, rfl, rfl, hacc, hbw, hst⟩ := hrel
      have hz := hbw.size
      have SR := Lib.hid (HS.out.below hbw hlt)
      have BW := Lib.hid hbw
      by_cases hk7 : k ≤ 256
      · have hki : decide ((k : Int) ≤ 256) = true := by simp; omega
        have HKk := Lib.hid (HK.out k)
        have HGk := Lib.hid (HG.out k)
        have hszk := HSz.out (key4 num k)
        cases hg : getL (key4 num k) F with
        | none =>
          rw [hg] at HGk
          unfold getV at HGk
          rcases hst with ⟨rfl, rfl⟩ | ⟨hk0, hRk⟩
          · rw [show ((0 : Nat) : Int) = 0 from rfl] at hg
            rw [hg] at hR
            simp only at hR
            generalize key4 num ((0 : Nat) : Int) = ky at *
            clear hg hszk hbw
            go_wp2_with fail
            refine (HKk.out _).mono ?_; rintro e w3 ⟨rfl, hb3⟩
            have S3 := Lib.hid (SR.out.below hb3 SR.out.lt)
            have B3 := Lib.hid (BW.out.trans (hb3.mono hz))
            clear hb3
            go_wp2_with fail
            refine (HGk.out _ S3.out).mono ?_; rintro e w4 ⟨rfl, hb4⟩
            have B4 := Lib.hid (B3.out.trans (hb4.mono B3.out.size))
            clear hb4
            go_wp2_with fail
            go_ret2
            exact ⟨by rw [← hR]; rfl, B4.out⟩
          · have hk0i : decide ((0 : Int) < (k : Int)) = true := by simp; omega
            have hR2 : R = (acc, 0) := by
              rw [hRk, show 257 - k = (256 - k) + 1 from by omega]
              simp only [readF, hg]
            generalize key4 num (k : Int) = ky at *
            clear hg hszk hbw hRk hR
            go_wp2_with fail
            refine (HKk.out _).mono ?_; rintro e w3 ⟨rfl, hb3⟩
            have S3 := Lib.hid (SR.out.below hb3 SR.out.lt)
            have B3 := Lib.hid (BW.out.trans (hb3.mono hz))
            clear hb3
            go_wp2_with fail
            refine (HGk.out _ S3.out).mono ?_; rintro e w4 ⟨rfl, hb4⟩
            have B4 := Lib.hid (B3.out.trans (hb4.mono B3.out.size))
            clear hb4
            go_wp2_with fail
            go_ret2
            exact ⟨by rw [hR2]; rfl, B4.out⟩
        | some v =>
          rw [hg] at HGk
          unfold getV at HGk
          have hvs := hszk v hg
          have hnew : R = (readF F num (257 - (k + 1)) (k + 1) (acc ++ v), 0) := by
            rcases hst with ⟨rfl, rfl⟩ | ⟨hk0, hRk⟩
            · rw [show ((0 : Nat) : Int) = 0 from rfl] at hg
              rw [hg] at hR
              rw [← hR]
              simp
            · rw [hRk, show 257 - k = (257 - (k + 1)) + 1 from by omega]
              simp only [readF, hg]
          have hsz2 : (acc ++ v).size = acc.size + v.size := ByteArray.size_append
          have hts : ¬ 9223372036854775807 < acc.size + v.size := by omega
          generalize key4 num (k : Int) = ky at *
          clear hg hszk hbw hst hR
          go_wp2_with fail
          refine (HKk.out _).mono ?_; rintro e w3 ⟨rfl, hb3⟩
          have S3 := Lib.hid (SR.out.below hb3 SR.out.lt)
          have B3 := Lib.hid (BW.out.trans (hb3.mono hz))
          clear hb3
          go_wp2_with fail
          refine (HGk.out _ S3.out).mono ?_; rintro e w4 ⟨rfl, hb4⟩
          have B4 := Lib.hid (B3.out.trans (hb4.mono B3.out.size))
          clear hb4
          go_wp2_with fail
          refine ⟨⟨k + 1, acc ++ v, by omega, by go_num, rfl, by rw [hsz2]; omega, B4.out, .inr ⟨by omega, hnew⟩⟩, ?_⟩
          simp [intOf]; omega
      · have hke : k = 257 := by omega
        subst hke
        have hR2 : R = (acc, 0) := by
          rcases hst with ⟨h0, -⟩ | ⟨-, hRk⟩
          · omega
          · rw [hRk]; rfl
        clear hst hbw hR
        go_wp2_with fail
        go_ret2
        exact ⟨by rw [hR2]; rfl, BW.out⟩
end
end Go.Proofs.Ytljommhbhpappaa
