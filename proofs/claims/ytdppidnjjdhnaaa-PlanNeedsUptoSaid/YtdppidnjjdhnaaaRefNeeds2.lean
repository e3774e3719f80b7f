/-
  Layer 20's reference: the contract of jettyref20.Needs: names and modes are those of needsL.
-/
import Derived.Test.YtdppidnjjdhnaaaAbove
import Derived.Test.YtdppidnjjdhnaaaRef08ab
import Derived.Deep.DeepCutAuto
import Derived.Deep.CutBlock
namespace Go.Proofs.Ytdppidnjjdhnaaa
open Go.RowKit Go.Joins
set_option linter.unusedVariables false
set_option linter.unusedSimpArgs false

def nameC (l : List (Int × ByteArray × Int)) : List Value := l.flatMap fun x => [.int .i64 x.1, .string x.2.1]
def modeC (l : List (Int × ByteArray × Int)) : List Value := l.map fun x => .int .i64 x.2.2
theorem nameC_append (l r : List (Int × ByteArray × Int)) : nameC (l ++ r) = nameC l ++ nameC r := by simp [nameC]
theorem modeC_append (l r : List (Int × ByteArray × Int)) : modeC (l ++ r) = modeC l ++ modeC r := by simp [modeC]

/-- what the reference's contract says of a list of needs -/
def RefPost (w : World) (l : List (Int × ByteArray × Int)) (e : Ending) (w' : World) : Prop :=
  ∃ v1 v2, e = .returned (.tuple #[v1, v2]) ∧ w'.ownsRow w.heap.size 38 2 v1 l.length (nameC l) ∧ w'.ownsRow w.heap.size 3 1 v2 l.length (modeC l) ∧ Below w.heap.size w w'

/-- next, or the item behind all keys -/
def nxE (next : ByteArray) : ByteArray := if next = ByteArray.empty then endL else next
theorem nxE_t {next : ByteArray} (h : next.toList.isEmpty = true) : nxE next = endL := by
  have : next = ByteArray.empty := Go.WideShapes.bytes_inj (by rw [← ByteArray.toList_eq, List.isEmpty_iff.1 h]; rfl)
  simp [nxE, this]
theorem nxE_f {next : ByteArray} (h : next.toList.isEmpty = false) : nxE next = next := by
  have : next ≠ ByteArray.empty := by rintro rfl; rw [ByteArray.toList_eq] at h; cases h
  simp [nxE, this]
def asksB (kind : Int) : Bool := kind == 14 || kind == 15 || kind == 16 || kind == 13 || kind == 17

/-- where the switch leaves its block: the mode, the items, and what they make of the needs -/
def RefCut (w w2 : World) (kind st : Int) (key : ByteArray) (num : Int) (next : ByteArray) (ss : List ByteArray) (err : Int) (s13 s14 : Value) (wc : World) : Prop :=
  ∃ (M : Int) (I : List ByteArray), s13 = .int .i64 M ∧ wc.ownsRow w.heap.size 9 1 s14 I.length (I.map Value.string) ∧ I.length ≤ 1048578 ∧
    needsL kind st key num next ss err = aboveN st M ++ (if (err != 0) = true ∧ asksB kind = true then [] else I.map fun s => (st, s, M)) ∧ Below (w.heap.size + 2) w2 wc

def NxCut (w : World) (w2 : World) (next : ByteArray) (s1 : Value) (wc : World) : Prop := s1 = .string (nxE next) ∧ Below (w.heap.size + 2) w2 wc

/-! lits -/
/-- the items of the first k keys -/
def rkV (ss : List ByteArray) (k : Nat) : List Value := (ss.take k).map fun s => Value.string (rangeK s)
theorem own_below {w w' : World} {b s n : Nat} {e : TypeId} {v : Value} {xs : List Value} (h : w.ownsRow b e s v n xs) (hb : Below w.heap.size w w') : w'.ownsRow b e s v n xs :=
  h.kept (w' := w') (row := none) ⟨hb.os, hb.tape, hb.output, hb.size, fun q hq _ => hb.block q hq⟩ (by cases v.ownBlock <;> simp)
theorem strs_len {w : World} {ao : Option Addr} {kn kc : Nat} {ss : List ByteArray} (h : StrsAt w (.slice ao kn kc) ss) : kn = ss.length := by
  rcases h with ⟨a, c, h1, rfl, _⟩ | ⟨b, off, cap, h1, _⟩
  · simp at h1; simp [h1]
  · simp at h1; exact h1.2.1
theorem strs_cell {w : World} {ao : Option Addr} {kn kc : Nat} {ss : List ByteArray} (h : StrsAt w (.slice ao kn kc) ss) : ∀ k (hk : k < ss.length), ∃ b off, ao = some ⟨b, off, none⟩ ∧ b < w.heap.size ∧ w.cell? ⟨b, off + k, none⟩ = some (.string ss[k]) := by
  intro k hk
  rcases h with ⟨a, c, h1, rfl, _⟩ | ⟨b, off, cap, h1, hb, hc⟩
  · simp at hk
  · simp at h1; exact ⟨b, off, h1.1, hb, hc k hk⟩
theorem Try.infoName : (Try.prog.info? 38).map (fun i => (i.zero, i.size, i.bytes)) = some (some (.agg #[.int .i64 0, .string ByteArray.empty]), 2, 24) := by kernel_rfl
theorem Try.infoInt : (Try.prog.info? 3).map (fun i => (i.zero, i.size, i.bytes)) = some (some (.int .i64 0), 1, 8) := by kernel_rfl
def AskCut (kind : Int) (w6 : World) (s16 : Value) (wc : World) : Prop := s16 = .bool (asksB kind) ∧ w6 = wc
def NoCut (w6 : World) (s : Value) (wc : World) : Prop := s = .bool false ∧ w6 = wc
/-- the needs of the first k items -/
def itV (st M : Int) (I : List ByteArray) (k : Nat) : List (Int × ByteArray × Int) := (I.take k).map fun s => (st, s, M)
theorem itV_succ (st M : Int) (I : List ByteArray) (k : Nat) (h : k < I.length) : itV st M I (k + 1) = itV st M I k ++ [(st, I[k], M)] := by
  unfold itV; rw [List.take_succ_eq_append_getElem h, List.map_append]; rfl
theorem rabove_s (m : Int) (w : World) : Calls Try.prog 18 #[.int .i64 m] w fun e w' => e = .returned (.int .i64 (aboveL m)) ∧ w = w' := (rabove_any m w).mono fun _ _ h => ⟨h.1, h.2.symm⟩
theorem own_grown0 {w w' : World} {b s n a c : Nat} {e : TypeId} {v : Value} {xs : List Value} (h : w.ownsRow b e s v n xs) (hg : w.grownBy w' (Value.ownBlock (.slice none a c))) : w'.ownsRow b e s v n xs :=
  h.kept hg (by cases v.ownBlock <;> simp [Value.ownBlock])
theorem own_lo {w : World} {b s n k : Nat} {e : TypeId} {v : Value} {xs : List Value} (h : w.ownsRow b e s v n xs) (hk : k < b) : some k ≠ v.ownBlock := fun h2 => by
  have := (h.lt _ h2.symm).1; omega
theorem own_ne_some {w : World} {b b' s s' n n' g c : Nat} {e e' : TypeId} {v' : Value} {xs xs' : List Value} (h : w.ownsRow b e s (.slice (some ⟨g, 0, none⟩) n c) n xs) (h' : w.ownsRow b' e' s' v' n' xs') (he : e ≠ e') : some g ≠ v'.ownBlock := fun h2 => by
  rcases own_ne h h' he with h3 | h3
  · simp [Value.ownBlock] at h3
  · exact h3 h2
theorem own_lit (w : World) (cs : List Value) (e : TypeId) (size n g : Nat) (hg : g = w.heap.size) (hl : cs.length = n * size) (hn : n ≤ 1000) : (w.alloc (.cells cs.toArray e)).ownsRow g e size (.slice (some ⟨g, 0, none⟩) n n) n cs := by
  subst hg
  exact ⟨hl, .inr ⟨w.heap.size, n, _, rfl, Nat.le_refl _, heap_alloc_new w _, Nat.le_refl _, by simp [maxLen]; omega, by simpa using hl, by rw [← hl]; simp⟩⟩
theorem nl8 (st : Int) (key : ByteArray) (num : Int) (next : ByteArray) (ss : List ByteArray) (err : Int) : needsL 8 st key num next ss err = aboveN st 6 ++ (if (err != 0) = true ∧ asksB 8 = true then [] else ([]).map fun s => (st, s, 6)) := by
  by_cases h0 : err = 0
  · subst h0
    have hx : nxK next 0 = nxE next := by simp [nxK, nxE]
    simp [needsL, asksB, itemN, hx]
  · simp [needsL, asksB, itemN, h0]
theorem nl9 (st : Int) (key : ByteArray) (num : Int) (next : ByteArray) (ss : List ByteArray) (err : Int) : needsL 9 st key num next ss err = aboveN st 3 ++ (if (err != 0) = true ∧ asksB 9 = true then [] else ([itemL num]).map fun s => (st, s, 3)) := by
  by_cases h0 : err = 0
  · subst h0
    have hx : nxK next 0 = nxE next := by simp [nxK, nxE]
    simp [needsL, asksB, itemN, hx]
  · simp [needsL, asksB, itemN, h0]
theorem nl19 (st : Int) (key : ByteArray) (num : Int) (next : ByteArray) (ss : List ByteArray) (err : Int) : needsL 19 st key num next ss err = aboveN st 3 ++ (if (err != 0) = true ∧ asksB 19 = true then [] else ([itemL num]).map fun s => (st, s, 3)) := by
  by_cases h0 : err = 0
  · subst h0
    have hx : nxK next 0 = nxE next := by simp [nxK, nxE]
    simp [needsL, asksB, itemN, hx]
  · simp [needsL, asksB, itemN, h0]
theorem nl20 (st : Int) (key : ByteArray) (num : Int) (next : ByteArray) (ss : List ByteArray) (err : Int) : needsL 20 st key num next ss err = aboveN st 3 ++ (if (err != 0) = true ∧ asksB 20 = true then [] else ([itemL num]).map fun s => (st, s, 3)) := by
  by_cases h0 : err = 0
  · subst h0
    have hx : nxK next 0 = nxE next := by simp [nxK, nxE]
    simp [needsL, asksB, itemN, hx]
  · simp [needsL, asksB, itemN, h0]
theorem nl10 (st : Int) (key : ByteArray) (num : Int) (next : ByteArray) (ss : List ByteArray) (err : Int) : needsL 10 st key num next ss err = aboveN st 6 ++ (if (err != 0) = true ∧ asksB 10 = true then [] else ([itemL num]).map fun s => (st, s, 6)) := by
  by_cases h0 : err = 0
  · subst h0
    have hx : nxK next 0 = nxE next := by simp [nxK, nxE]
    simp [needsL, asksB, itemN, hx]
  · simp [needsL, asksB, itemN, h0]
theorem nl11 (st : Int) (key : ByteArray) (num : Int) (next : ByteArray) (ss : List ByteArray) (err : Int) : needsL 11 st key num next ss err = aboveN st 6 ++ (if (err != 0) = true ∧ asksB 11 = true then [] else ([itemL num]).map fun s => (st, s, 6)) := by
  by_cases h0 : err = 0
  · subst h0
    have hx : nxK next 0 = nxE next := by simp [nxK, nxE]
    simp [needsL, asksB, itemN, hx]
  · simp [needsL, asksB, itemN, h0]
theorem nl18 (st : Int) (key : ByteArray) (num : Int) (next : ByteArray) (ss : List ByteArray) (err : Int) : needsL 18 st key num next ss err = aboveN st 6 ++ (if (err != 0) = true ∧ asksB 18 = true then [] else ([itemL num]).map fun s => (st, s, 6)) := by
  by_cases h0 : err = 0
  · subst h0
    have hx : nxK next 0 = nxE next := by simp [nxK, nxE]
    simp [needsL, asksB, itemN, hx]
  · simp [needsL, asksB, itemN, h0]
theorem nl21 (st : Int) (key : ByteArray) (num : Int) (next : ByteArray) (ss : List ByteArray) (err : Int) : needsL 21 st key num next ss err = aboveN st 6 ++ (if (err != 0) = true ∧ asksB 21 = true then [] else ([itemL num]).map fun s => (st, s, 6)) := by
  by_cases h0 : err = 0
  · subst h0
    have hx : nxK next 0 = nxE next := by simp [nxK, nxE]
    simp [needsL, asksB, itemN, hx]
  · simp [needsL, asksB, itemN, h0]
theorem nl22 (st : Int) (key : ByteArray) (num : Int) (next : ByteArray) (ss : List ByteArray) (err : Int) : needsL 22 st key num next ss err = aboveN st 6 ++ (if (err != 0) = true ∧ asksB 22 = true then [] else ([itemL num]).map fun s => (st, s, 6)) := by
  by_cases h0 : err = 0
  · subst h0
    have hx : nxK next 0 = nxE next := by simp [nxK, nxE]
    simp [needsL, asksB, itemN, hx]
  · simp [needsL, asksB, itemN, h0]
theorem nl23 (st : Int) (key : ByteArray) (num : Int) (next : ByteArray) (ss : List ByteArray) (err : Int) : needsL 23 st key num next ss err = aboveN st 6 ++ (if (err != 0) = true ∧ asksB 23 = true then [] else ([itemL num]).map fun s => (st, s, 6)) := by
  by_cases h0 : err = 0
  · subst h0
    have hx : nxK next 0 = nxE next := by simp [nxK, nxE]
    simp [needsL, asksB, itemN, hx]
  · simp [needsL, asksB, itemN, h0]
theorem nl14 (st : Int) (key : ByteArray) (num : Int) (next : ByteArray) (ss : List ByteArray) (err : Int) : needsL 14 st key num next ss err = aboveN st 3 ++ (if (err != 0) = true ∧ asksB 14 = true then [] else ([nxE next]).map fun s => (st, s, 3)) := by
  by_cases h0 : err = 0
  · subst h0
    have hx : nxK next 0 = nxE next := by simp [nxK, nxE]
    simp [needsL, asksB, itemN, hx]
  · simp [needsL, asksB, itemN, h0]
theorem nl15s (st : Int) (key : ByteArray) (num : Int) (next : ByteArray) (ss : List ByteArray) (err : Int) (h : nxE next = key) : needsL 15 st key num next ss err = aboveN st 6 ++ (if (err != 0) = true ∧ asksB 15 = true then [] else ([nxE next]).map fun s => (st, s, 6)) := by
  by_cases h0 : err = 0
  · subst h0
    have hx : nxK next 0 = nxE next := by simp [nxK, nxE]
    simp [needsL, asksB, itemN, hx, h]
  · simp [needsL, asksB, itemN, h0]
theorem nl15dw (st : Int) (key : ByteArray) (num : Int) (next : ByteArray) (ss : List ByteArray) (err : Int) (h : ¬ nxE next = key) (he : (err != 0) = true) : needsL 15 st key num next ss err = aboveN st 6 ++ (if (err != 0) = true ∧ asksB 15 = true then [] else ([nxE next]).map fun s => (st, s, 6)) := by
  by_cases h0 : err = 0
  · subst h0
    simp at he

  · simp [needsL, asksB, itemN, h0]
theorem nl15do (st : Int) (key : ByteArray) (num : Int) (next : ByteArray) (ss : List ByteArray) (err : Int) (h : ¬ nxE next = key) (he : (err != 0) = false) : needsL 15 st key num next ss err = aboveN st 3 ++ (if (err != 0) = true ∧ asksB 15 = true then [] else ([nxE next]).map fun s => (st, s, 3)) := by
  by_cases h0 : err = 0
  · subst h0
    have hx : nxK next 0 = nxE next := by simp [nxK, nxE]
    simp [needsL, asksB, itemN, hx, h]
  · simp [h0] at he
theorem nl16s (st : Int) (key : ByteArray) (num : Int) (next : ByteArray) (ss : List ByteArray) (err : Int) (h : nxE next = key) : needsL 16 st key num next ss err = aboveN st 6 ++ (if (err != 0) = true ∧ asksB 16 = true then [] else ([nxE next]).map fun s => (st, s, 6)) := by
  by_cases h0 : err = 0
  · subst h0
    have hx : nxK next 0 = nxE next := by simp [nxK, nxE]
    simp [needsL, asksB, itemN, hx, h]
  · simp [needsL, asksB, itemN, h0]
theorem nl16dw (st : Int) (key : ByteArray) (num : Int) (next : ByteArray) (ss : List ByteArray) (err : Int) (h : ¬ nxE next = key) (he : (err != 0) = true) : needsL 16 st key num next ss err = aboveN st 6 ++ (if (err != 0) = true ∧ asksB 16 = true then [] else ([nxE next]).map fun s => (st, s, 6)) := by
  by_cases h0 : err = 0
  · subst h0
    simp at he

  · simp [needsL, asksB, itemN, h0]
theorem nl16do (st : Int) (key : ByteArray) (num : Int) (next : ByteArray) (ss : List ByteArray) (err : Int) (h : ¬ nxE next = key) (he : (err != 0) = false) : needsL 16 st key num next ss err = aboveN st 3 ++ (if (err != 0) = true ∧ asksB 16 = true then [] else ([nxE next]).map fun s => (st, s, 3)) := by
  by_cases h0 : err = 0
  · subst h0
    have hx : nxK next 0 = nxE next := by simp [nxK, nxE]
    simp [needsL, asksB, itemN, hx, h]
  · simp [h0] at he
theorem nl13s (st : Int) (key : ByteArray) (num : Int) (next : ByteArray) (ss : List ByteArray) (err : Int) (h : nxE next = key) : needsL 13 st key num next ss err = aboveN st 6 ++ (if (err != 0) = true ∧ asksB 13 = true then [] else ([key]).map fun s => (st, s, 6)) := by
  by_cases h0 : err = 0
  · subst h0
    have hx : nxK next 0 = nxE next := by simp [nxK, nxE]
    simp [needsL, asksB, itemN, hx, h]
  · simp [needsL, asksB, itemN, h0]
theorem nl13d (st : Int) (key : ByteArray) (num : Int) (next : ByteArray) (ss : List ByteArray) (err : Int) (h : ¬ nxE next = key) : needsL 13 st key num next ss err = aboveN st 6 ++ (if (err != 0) = true ∧ asksB 13 = true then [] else ([key, nxE next]).map fun s => (st, s, 6)) := by
  by_cases h0 : err = 0
  · subst h0
    have hx : nxK next 0 = nxE next := by simp [nxK, nxE]
    simp [needsL, asksB, itemN, hx, h]
  · simp [needsL, asksB, itemN, h0]
theorem nl17 (st : Int) (key : ByteArray) (num : Int) (next : ByteArray) (ss : List ByteArray) (err : Int) : needsL 17 st key num next ss err = aboveN st 3 ++ (if (err != 0) = true ∧ asksB 17 = true then [] else (ss.map rangeK).map fun s => (st, s, 3)) := by
  by_cases h0 : err = 0
  · subst h0
    have hx : nxK next 0 = nxE next := by simp [nxK, nxE]
    simp [needsL, asksB, itemN, hx, rangeK, List.map_map, Function.comp]
  · simp [needsL, asksB, itemN, h0]
set_option maxHeartbeats 40000000 in
set_option maxRecDepth 100000 in
theorem rneeds_any (kind st num a1 a2 err : Int) (key val next : ByteArray) (ao : Option Addr) (kn kc : Nat) (ss : List ByteArray) (w : World) (hk : StrsAt w (.slice ao kn kc) ss) (hz : ss.length ≤ 1048576)
    (n0 : -9223372036854775808 ≤ num) (n1 : num ≤ 9223372036854775807) (wb : Bool) (hwb : wb = (err != 0)) :
    Calls Try.prog 8 #[.agg #[.int .i64 kind, .int .i64 st, .string key, .string val, .int .i64 num, .int .i64 a1, .int .i64 a2], .string next, .slice ao kn kc, .bool wb] w
      (RefPost w (needsL kind st key num next ss err)) := by
  obtain ⟨w2, hw2⟩ : ∃ w2 : World, w2 = (w.alloc (.cells #[.int .i64 kind, .int .i64 st, .string key, .string val, .int .i64 num, .int .i64 a1, .int .i64 a2] 23)).alloc (.cells #[.int .i64 st, .string ByteArray.empty] 38) := ⟨_, rfl⟩
  have HW := Lib.hid hw2
  have HB := Lib.hid hwb
  clear hw2 hwb
  go_enter Try.func8, Try.ntmps8
  go_upto_if 22 with fail
  go_cut [1] (fun s1 wc => NxCut w w2 next s1 wc)
  case first =>
    go_wp2_with (go_at_call 12; refine (rend_any _).mono ?_; rintro e w1 ⟨rfl, hb1⟩)
    all_goals go_meet
    · have e1 : next.toList.isEmpty = true := by assumption
      obtain rfl := HW.out
      exact ⟨by rw [nxE_t e1], hb1.mono (by simp)⟩
    · have e1 : next.toList.isEmpty = false := by assumption
      obtain rfl := HW.out
      exact ⟨by rw [nxE_f e1], Below.refl _ _⟩
  case rest =>
    obtain ⟨rfl, hbc⟩ := hcut
    have g0 : w2.heap[w.heap.size]? = some (.cells #[.int .i64 kind, .int .i64 st, .string key, .string val, .int .i64 num, .int .i64 a1, .int .i64 a2] 23) := by rw [HW.out]; exact blk_old (by simp) (blk_new _ _ _ rfl)
    have g1 : w2.heap[w.heap.size + 1]? = some (.cells #[.int .i64 st, .string ByteArray.empty] 38) := by rw [HW.out]; exact blk_new _ _ _ (by simp)
    have hs2 : w2.heap.size = w.heap.size + 2 := by rw [HW.out]; simp
    have hw2 : Below w.heap.size w w2 := by rw [HW.out]; exact ((Below.refl _ _).alloc (Nat.le_refl _) _).alloc (by simp) _
    have hs3 := hbc.size
    obtain ⟨w3, rfl⟩ : ∃ w3 : World, w3 = wc := ⟨_, rfl⟩
    obtain ⟨c0, c1, c2, -, c4, -, -⟩ := cell7 ((hbc.block w.heap.size (by omega)).trans g0)
    have m0 := cell_of_block ((hbc.block (w.heap.size + 1) (by omega)).trans g1) 0
    have m1 := cell_of_block ((hbc.block (w.heap.size + 1) (by omega)).trans g1) 1
    simp only [List.getElem?_toArray, List.getElem?_cons_succ, List.getElem?_cons_zero] at m0 m1
    have hw3 : Below w.heap.size w w3 := hw2.trans (hbc.mono (by omega))
    have hl3 : w.heap.size < w3.heap.size := by omega
    have hl4 : w.heap.size + 1 < w3.heap.size := by omega
    have hn3 : ¬ w.heap.size = w3.heap.size := by omega
    clear HW
    go_upto_block 0 with fail
    go_cut [13, 14] (fun s13 s14 wc => RefCut w w2 kind st key num next ss err s13 s14 wc)
    case first =>
      by_cases k6 : kind = 6
      · as_aux_lemma =>
          subst k6
          go_wp2
          go_ret2
          exact ⟨_, _, rfl, ownsRow_le ((own_lit w3 [.int .i64 0, .string ByteArray.empty] 38 2 1 _ rfl rfl (by omega)).alloc _) (by omega), ownsRow_le (own_lit _ [.int .i64 6] 3 1 1 _ (by simp) rfl (by omega)) (by first | omega | (simp; omega)), ((hw3.alloc (by omega) _).alloc (by first | omega | (simp; omega)) _)⟩
      by_cases k7 : kind = 7
      · as_aux_lemma =>
          subst k7
          go_wp2
          go_ret2
          exact ⟨_, _, rfl, ownsRow_le ((own_lit w3 [.int .i64 0, .string ByteArray.empty, .int .i64 st, .string ByteArray.empty] 38 2 2 _ rfl rfl (by omega)).alloc _) (by omega), ownsRow_le (own_lit _ [.int .i64 2, .int .i64 6] 3 1 2 _ (by simp) rfl (by omega)) (by first | omega | (simp; omega)), ((hw3.alloc (by omega) _).alloc (by first | omega | (simp; omega)) _)⟩
      by_cases k12 : kind = 12
      · as_aux_lemma =>
          subst k12
          go_wp2
          go_ret2
          exact ⟨_, _, rfl, ownsRow_le ((own_lit w3 [.int .i64 0, .string ByteArray.empty, .int .i64 st, .string ByteArray.empty] 38 2 2 _ rfl rfl (by omega)).alloc _) (by omega), ownsRow_le (own_lit _ [.int .i64 1, .int .i64 3] 3 1 2 _ (by simp) rfl (by omega)) (by first | omega | (simp; omega)), ((hw3.alloc (by omega) _).alloc (by first | omega | (simp; omega)) _)⟩
      by_cases k8 : kind = 8
      · as_aux_lemma =>
          subst k8
          go_wp2
          go_meet
          exact ⟨6, [], rfl, World.ownsRow_nil _ _ _ _, by simp, nl8 _ _ _ _ _ _, hbc⟩
      by_cases k9 : kind = 9
      · as_aux_lemma =>
          subst k9
          go_wp2_with (go_at_call 17; refine (ritem_any _ _ n0 n1).mono ?_; rintro e w4 ⟨rfl, hb4⟩)
          go_meet
          exact ⟨3, [itemL num], rfl, ownsRow_le (own_lit w4 [.string (itemL num)] 9 1 1 _ rfl rfl (by omega)) (by have := hb4.size; omega), by simp, nl9 _ _ _ _ _ _, (hbc.trans (hb4.mono (by omega))).alloc (by have := hb4.size; omega) _⟩
      by_cases k19 : kind = 19
      · as_aux_lemma =>
          subst k19
          go_wp2_with (go_at_call 17; refine (ritem_any _ _ n0 n1).mono ?_; rintro e w4 ⟨rfl, hb4⟩)
          go_meet
          exact ⟨3, [itemL num], rfl, ownsRow_le (own_lit w4 [.string (itemL num)] 9 1 1 _ rfl rfl (by omega)) (by have := hb4.size; omega), by simp, nl19 _ _ _ _ _ _, (hbc.trans (hb4.mono (by omega))).alloc (by have := hb4.size; omega) _⟩
      by_cases k20 : kind = 20
      · as_aux_lemma =>
          subst k20
          go_wp2_with (go_at_call 17; refine (ritem_any _ _ n0 n1).mono ?_; rintro e w4 ⟨rfl, hb4⟩)
          go_meet
          exact ⟨3, [itemL num], rfl, ownsRow_le (own_lit w4 [.string (itemL num)] 9 1 1 _ rfl rfl (by omega)) (by have := hb4.size; omega), by simp, nl20 _ _ _ _ _ _, (hbc.trans (hb4.mono (by omega))).alloc (by have := hb4.size; omega) _⟩
      by_cases k10 : kind = 10
      · as_aux_lemma =>
          subst k10
          go_wp2_with (go_at_call 17; refine (ritem_any _ _ n0 n1).mono ?_; rintro e w4 ⟨rfl, hb4⟩)
          go_meet
          exact ⟨6, [itemL num], rfl, ownsRow_le (own_lit w4 [.string (itemL num)] 9 1 1 _ rfl rfl (by omega)) (by have := hb4.size; omega), by simp, nl10 _ _ _ _ _ _, (hbc.trans (hb4.mono (by omega))).alloc (by have := hb4.size; omega) _⟩
      by_cases k11 : kind = 11
      · as_aux_lemma =>
          subst k11
          go_wp2_with (go_at_call 17; refine (ritem_any _ _ n0 n1).mono ?_; rintro e w4 ⟨rfl, hb4⟩)
          go_meet
          exact ⟨6, [itemL num], rfl, ownsRow_le (own_lit w4 [.string (itemL num)] 9 1 1 _ rfl rfl (by omega)) (by have := hb4.size; omega), by simp, nl11 _ _ _ _ _ _, (hbc.trans (hb4.mono (by omega))).alloc (by have := hb4.size; omega) _⟩
      by_cases k18 : kind = 18
      · as_aux_lemma =>
          subst k18
          go_wp2_with (go_at_call 17; refine (ritem_any _ _ n0 n1).mono ?_; rintro e w4 ⟨rfl, hb4⟩)
          go_meet
          exact ⟨6, [itemL num], rfl, ownsRow_le (own_lit w4 [.string (itemL num)] 9 1 1 _ rfl rfl (by omega)) (by have := hb4.size; omega), by simp, nl18 _ _ _ _ _ _, (hbc.trans (hb4.mono (by omega))).alloc (by have := hb4.size; omega) _⟩
      by_cases k21 : kind = 21
      · as_aux_lemma =>
          subst k21
          go_wp2_with (go_at_call 17; refine (ritem_any _ _ n0 n1).mono ?_; rintro e w4 ⟨rfl, hb4⟩)
          go_meet
          exact ⟨6, [itemL num], rfl, ownsRow_le (own_lit w4 [.string (itemL num)] 9 1 1 _ rfl rfl (by omega)) (by have := hb4.size; omega), by simp, nl21 _ _ _ _ _ _, (hbc.trans (hb4.mono (by omega))).alloc (by have := hb4.size; omega) _⟩
      by_cases k22 : kind = 22
      · as_aux_lemma =>
          subst k22
          go_wp2_with (go_at_call 17; refine (ritem_any _ _ n0 n1).mono ?_; rintro e w4 ⟨rfl, hb4⟩)
          go_meet
          exact ⟨6, [itemL num], rfl, ownsRow_le (own_lit w4 [.string (itemL num)] 9 1 1 _ rfl rfl (by omega)) (by have := hb4.size; omega), by simp, nl22 _ _ _ _ _ _, (hbc.trans (hb4.mono (by omega))).alloc (by have := hb4.size; omega) _⟩
      by_cases k23 : kind = 23
      · as_aux_lemma =>
          subst k23
          go_wp2_with (go_at_call 17; refine (ritem_any _ _ n0 n1).mono ?_; rintro e w4 ⟨rfl, hb4⟩)
          go_meet
          exact ⟨6, [itemL num], rfl, ownsRow_le (own_lit w4 [.string (itemL num)] 9 1 1 _ rfl rfl (by omega)) (by have := hb4.size; omega), by simp, nl23 _ _ _ _ _ _, (hbc.trans (hb4.mono (by omega))).alloc (by have := hb4.size; omega) _⟩
      by_cases k14 : kind = 14
      · as_aux_lemma =>
          subst k14
          go_wp2
          go_meet
          exact ⟨3, [nxE next], rfl, ownsRow_le (own_lit w3 [.string (nxE next)] 9 1 1 _ rfl rfl (by omega)) (by omega), by simp, nl14 _ _ _ _ _ _, hbc.alloc (by omega) _⟩
      by_cases k15 : kind = 15
      · as_aux_lemma =>
          subst k15
          by_cases hs : nxE next = key
          · have b1 := seq_true hs
            have H := Lib.hid hs
            clear hs
            go_wp2
            go_meet
            exact ⟨6, [nxE next], rfl, ownsRow_le (own_lit w3 [.string (nxE next)] 9 1 1 _ rfl rfl (by omega)) (by omega), by simp, nl15s _ _ _ _ _ _ H.out, hbc.alloc (by omega) _⟩
          · have b1 := seq_false hs
            have H := Lib.hid hs
            clear hs
            cases wb
            · have HE := HB
              go_wp2
              go_meet
              exact ⟨3, [nxE next], rfl, ownsRow_le (own_lit w3 [.string (nxE next)] 9 1 1 _ rfl rfl (by omega)) (by omega), by simp, nl15do _ _ _ _ _ _ H.out HE.out.symm, hbc.alloc (by omega) _⟩
            · have HE := HB
              go_wp2
              go_meet
              exact ⟨6, [nxE next], rfl, ownsRow_le (own_lit w3 [.string (nxE next)] 9 1 1 _ rfl rfl (by omega)) (by omega), by simp, nl15dw _ _ _ _ _ _ H.out HE.out.symm, hbc.alloc (by omega) _⟩
      by_cases k16 : kind = 16
      · as_aux_lemma =>
          subst k16
          by_cases hs : nxE next = key
          · have b1 := seq_true hs
            have H := Lib.hid hs
            clear hs
            go_wp2
            go_meet
            exact ⟨6, [nxE next], rfl, ownsRow_le (own_lit w3 [.string (nxE next)] 9 1 1 _ rfl rfl (by omega)) (by omega), by simp, nl16s _ _ _ _ _ _ H.out, hbc.alloc (by omega) _⟩
          · have b1 := seq_false hs
            have H := Lib.hid hs
            clear hs
            cases wb
            · have HE := HB
              go_wp2
              go_meet
              exact ⟨3, [nxE next], rfl, ownsRow_le (own_lit w3 [.string (nxE next)] 9 1 1 _ rfl rfl (by omega)) (by omega), by simp, nl16do _ _ _ _ _ _ H.out HE.out.symm, hbc.alloc (by omega) _⟩
            · have HE := HB
              go_wp2
              go_meet
              exact ⟨6, [nxE next], rfl, ownsRow_le (own_lit w3 [.string (nxE next)] 9 1 1 _ rfl rfl (by omega)) (by omega), by simp, nl16dw _ _ _ _ _ _ H.out HE.out.symm, hbc.alloc (by omega) _⟩
      by_cases k13 : kind = 13
      · as_aux_lemma =>
          subst k13
          by_cases hs : nxE next = key
          · have b1 := seq_true hs
            have H := Lib.hid hs
            clear hs
            go_wp2
            go_meet
            exact ⟨6, [key], rfl, ownsRow_le (own_lit w3 [.string (key)] 9 1 1 _ rfl rfl (by omega)) (by omega), by simp, nl13s _ _ _ _ _ _ H.out, hbc.alloc (by omega) _⟩
          · have b1 := seq_false hs
            have H := Lib.hid hs
            clear hs
            obtain ⟨i0, hi, hz0, hz1, hz2⟩ := info_parts Try.infoStr
            have hown := own_lit w3 [.string key] 9 1 1 _ rfl rfl (by omega)
            go_wp2_with (at_builtin; refine wpList_append_own _ rfl _ _ 24 rfl w3.heap.size 9 i0 _ 1 16 Try.underlying24 hi hz0 hz1 hz2 rfl (by decide) _ 1 _ rfl (hown.alloc _) ⟨w3.heap.size + 1, 0, none⟩ 1 1 [.string (nxE next)] rfl rfl ?d1 ?d2 ?d3 ?d4 ?d5 ?_)
            case d1 => exact World.news_of_block (cs := #[.string (nxE next)]) (t := 9) (fr := (0, 0)) (blk_new _ _ _ (by simp))
            case d2 => simp [Value.oneCell']
            case d3 => simp [maxLen]
            case d4 => omega
            case d5 => simp; omega
            intro v' w5 hown' hgrow _
            have hb5 : Below (w.heap.size + 2) w2 w5 := ((hbc.alloc (by omega) _).alloc (by simp; omega) _).grown hgrow (by simp; omega) (fun q hq => by have := (hown.lt q hq).1; omega)
            go_wp2
            go_meet
            exact ⟨6, [key, nxE next], rfl, ownsRow_le hown' (by omega), by simp, nl13d _ _ _ _ _ _ H.out, hb5⟩
      by_cases k17 : kind = 17
      · as_aux_lemma =>
          subst k17
          obtain ⟨i0, hi, hz0, hz1, hz2⟩ := info_parts Try.infoStr
          have hkn : kn = ss.length := strs_len hk
          have HC := Lib.hid (strs_cell hk)
          subst hkn
          clear hk
          go_wp2_with fail
          go_loopw [14, 15] (fun l i wr => ∃ k : Nat, k ≤ ss.length ∧ i = .int .i64 k ∧ wr.ownsRow (w.heap.size + 2) 9 1 l k (rkV ss k) ∧ Below (w.heap.size + 2) w2 wr) (fun _ i _ => ss.length - (intOf i).toNat)
          case atStart => exact ⟨0, by omega, rfl, World.ownsRow_nil _ _ _ _, hbc⟩
          case round =>
            obtain ⟨k, hkk, rfl, hown, hbr⟩ := hrel
            have hsr := hbr.size
            by_cases hlt : k < ss.length
            · obtain ⟨b, off, hao, hbl, hcl⟩ := HC.out k hlt
              have hao' := Lib.hid hao
              subst hao
              have hcell : wr.cell? ⟨b, off + k, none⟩ = some (.string ss[k]) := (hbr.cell (p := ⟨b, off + k, none⟩) (by show b < _; omega)).trans ((hw2.cell (p := ⟨b, off + k, none⟩) hbl).trans hcl)
              have hblr : b < wr.heap.size := by omega
              have hsucc : rkV ss (k + 1) = rkV ss k ++ [.string (rangeK ss[k])] := by
                unfold rkV; rw [List.take_succ_eq_append_getElem hlt, List.map_append]; rfl
              have HS := Lib.hid hsucc
              clear hsucc
              by_cases hemp : ss[k] = ByteArray.empty
              · have he1 : ss[k].toList.isEmpty = true := by rw [hemp, ByteArray.toList_eq]; rfl
                have hrk : rangeK ss[k] = endL := by simp [rangeK, hemp]
                have HR := Lib.hid hrk
                clear hrk hemp
                go_wp2_with fail
                refine (rend_any _).mono ?_; rintro e w6 ⟨rfl, hb6⟩
                have hown6 := own_below hown hb6
                have hs6 := hb6.size
                go_wp2_with (at_builtin; refine wpList_append_own _ rfl _ _ 24 rfl (w.heap.size + 2) 9 i0 _ 1 16 Try.underlying24 hi hz0 hz1 hz2 rfl (by decide) _ k _ rfl (hown6.alloc _) ⟨w6.heap.size, 0, none⟩ 1 1 [.string endL] rfl rfl ?c1 ?c2 ?c3 ?c4 ?c5 ?_)
                (try case c1 => exact cell_one_new _ _ _)
                case c2 => simp [Value.oneCell']
                case c3 => simp only [maxLen]; omega
                case c4 => omega
                case c5 => first | omega | (simp; omega)
                intro v' w5 hown' hgrow _
                have hb5 : Below (w.heap.size + 2) w2 w5 := ((hbr.trans (hb6.mono (by omega))).alloc (by omega) _).grown hgrow (by simp; omega) (fun q hq => (hown.lt q hq).1)
                clear hown hcell
                go_wp2
                go_roundw
                case rel => exact ⟨k + 1, by omega, by go_num, by rw [HS.out, HR.out]; exact hown', hb5⟩
                case measure => simp [intOf]; omega
              · have he1 : ss[k].toList.isEmpty = false := sem_false hemp
                have hrk : rangeK ss[k] = ss[k] := by simp [rangeK, hemp]
                have HR := Lib.hid hrk
                clear hrk hemp
                go_wp2_with (at_builtin; refine wpList_append_own _ rfl _ _ 24 rfl (w.heap.size + 2) 9 i0 _ 1 16 Try.underlying24 hi hz0 hz1 hz2 rfl (by decide) _ k _ rfl (hown.alloc _) ⟨wr.heap.size, 0, none⟩ 1 1 [.string ss[k]] rfl rfl ?e1 ?e2 ?e3 ?e4 ?e5 ?_)
                (try case e1 => exact cell_one_new _ _ _)
                case e2 => simp [Value.oneCell']
                case e3 => simp only [maxLen]; omega
                case e4 => omega
                case e5 => first | omega | (simp; omega)
                intro v' w5 hown' hgrow _
                have hb5 : Below (w.heap.size + 2) w2 w5 := (hbr.alloc (by omega) _).grown hgrow (by simp; omega) (fun q hq => (hown.lt q hq).1)
                clear hown hcell
                go_wp2
                go_roundw
                case rel => exact ⟨k + 1, by omega, by go_num, by rw [HS.out, HR.out]; exact hown', hb5⟩
                case measure => simp [intOf]; omega
            · have hke : k = ss.length := by omega
              have HK := Lib.hid hke
              have hcond : decide ((k : Int) < (ss.length : Int)) = false := by simp; omega
              clear hke
              go_wp2
              go_meet
              refine ⟨3, ss.map rangeK, rfl, ?_, by simp; omega, nl17 _ _ _ _ _ _, hbr⟩
              have e3 : ss.take k = ss := List.take_of_length_le (by omega)
              unfold rkV at hown
              rw [e3] at hown
              have e4 : (ss.map rangeK).map Value.string = ss.map fun s => Value.string (rangeK s) := by rw [List.map_map]; rfl
              rw [e4, List.length_map, ← HK.out]
              exact ownsRow_le hown (by omega)
      have b6 : (kind == 6) = false := by simp [k6]
      have b7 : (kind == 7) = false := by simp [k7]
      have b12 : (kind == 12) = false := by simp [k12]
      have b8 : (kind == 8) = false := by simp [k8]
      have b9 : (kind == 9) = false := by simp [k9]
      have b19 : (kind == 19) = false := by simp [k19]
      have b20 : (kind == 20) = false := by simp [k20]
      have b10 : (kind == 10) = false := by simp [k10]
      have b11 : (kind == 11) = false := by simp [k11]
      have b18 : (kind == 18) = false := by simp [k18]
      have b21 : (kind == 21) = false := by simp [k21]
      have b22 : (kind == 22) = false := by simp [k22]
      have b23 : (kind == 23) = false := by simp [k23]
      have b14 : (kind == 14) = false := by simp [k14]
      have b15 : (kind == 15) = false := by simp [k15]
      have b16 : (kind == 16) = false := by simp [k16]
      have b13 : (kind == 13) = false := by simp [k13]
      have b17 : (kind == 17) = false := by simp [k17]
      have h : needsL kind st key num next ss err = [] := by simp [needsL, k6, k7, k12, k8, k9, k19, k20, k10, k11, k18, k21, k22, k23, k14, k15, k16, k13, k17]
      rw [h]
      clear h k6 k7 k12 k8 k9 k19 k20 k10 k11 k18 k21 k22 k23 k14 k15 k16 k13 k17
      go_wp2
      go_ret2
      exact ⟨_, _, rfl, World.ownsRow_nil _ _ _ _, World.ownsRow_nil _ _ _ _, hw3⟩
    case rest =>
     as_aux_lemma =>
      obtain ⟨M, I, rfl, hI, hIl, hNL, hb4⟩ := hcut
      obtain ⟨w4, rfl⟩ : ∃ w4 : World, w4 = wc := ⟨_, rfl⟩
      have hs4 := hb4.size
      have HNL := Lib.hid hNL
      obtain ⟨iN, hiN, hzN0, hzN1, hzN2⟩ := info_parts Try.infoName
      obtain ⟨iI, hiI, hzI0, hzI1, hzI2⟩ := info_parts Try.infoInt
      clear hNL hk c0 c1 c2 c4 m0 m1 hw3 hs3 hl3 hl4 hn3 hbc
      have m0 := cell_of_block ((hb4.block (w.heap.size + 1) (by omega)).trans g1) 0
      have m1 := cell_of_block ((hb4.block (w.heap.size + 1) (by omega)).trans g1) 1
      simp only [List.getElem?_toArray, List.getElem?_cons_succ, List.getElem?_cons_zero] at m0 m1
      go_wp2_with (first
        | (go_at_call 18; refine (rabove_s _ _).mono ?_; rintro e w' ⟨rfl, rfl⟩)
        | (at_builtin; refine wpList_append_own _ rfl (.tmp 118) (.tmp 121) 33 rfl (w.heap.size + 2) 38 iN _ 2 24 Try.underlying33 hiN hzN0 hzN1 hzN2 rfl (by decide) _ 0 [] rfl (World.ownsRow_nil _ _ _ _) ⟨w4.heap.size, 0, none⟩ 2 2 [.int .i64 0, .string ByteArray.empty, .int .i64 st, .string ByteArray.empty] rfl rfl ?t1 ?t2 ?t3 ?t4 ?t5 ?_))
      case t1 => exact World.news_of_block (cs := #[.int .i64 0, .string ByteArray.empty, .int .i64 st, .string ByteArray.empty]) (t := 38) (fr := (0, 0)) (blk_new _ _ _ rfl)
      case t2 => simp [Value.oneCell']
      case t3 => simp [maxLen]
      case t4 => omega
      case t5 => first | omega | (simp; omega)
      intro v5 w5 hN5 hg5 _
      have hb5 : Below (w.heap.size + 2) w2 w5 := (hb4.alloc (by omega) _).grown hg5 (by simp; omega) (fun q hq => by simp [Value.ownBlock] at hq)
      have hI5 := own_grown0 (hI.alloc _) hg5
      have hs5 := hb5.size
      clear hg5 hb4 hI hs4 m0 m1
      go_wp2_with (first
        | (go_at_call 18; refine (rabove_s _ _).mono ?_; rintro e w' ⟨rfl, rfl⟩)
        | (at_builtin; refine wpList_append_own _ rfl (.tmp 123) (.tmp 128) 34 rfl (w.heap.size + 2) 3 iI _ 1 8 Try.underlying34 hiI hzI0 hzI1 hzI2 rfl (by decide) _ 0 [] rfl (World.ownsRow_nil _ _ _ _) ⟨w5.heap.size, 0, none⟩ 2 2 [.int .i64 (aboveL M), .int .i64 (aboveL M)] rfl rfl ?m1 ?m2 ?m3 ?m4 ?m5 ?_))
      case m1 => exact cell_two_new _ _ _ _
      case m2 => simp [Value.oneCell']
      case m3 => simp [maxLen]
      case m4 => omega
      case m5 => first | omega | (simp; omega)
      intro v6 w6 hM6 hg6 _
      have hb6 : Below (w.heap.size + 2) w2 w6 := (hb5.alloc (by omega) _).grown hg6 (by simp; omega) (fun q hq => by simp [Value.ownBlock] at hq)
      have hI6 := own_grown0 (hI5.alloc _) hg6
      have hN6 := own_grown0 (hN5.alloc _) hg6
      have hs6 := hb6.size
      clear hg6 hb5 hI5 hN5 hs5
      obtain ⟨c0, c1, -, -, -, -, -⟩ := cell7 ((hb6.block w.heap.size (by omega)).trans g0)
      go_upto_region 55 with fail
      go_cut [16] (fun s16 wc => AskCut kind w6 s16 wc)
      case first =>
        by_cases k14 : kind = 14
        · subst k14; go_wp2; go_meet; exact ⟨rfl, rfl⟩
        by_cases k15 : kind = 15
        · subst k15; go_wp2; go_meet; exact ⟨rfl, rfl⟩
        by_cases k16 : kind = 16
        · subst k16; go_wp2; go_meet; exact ⟨rfl, rfl⟩
        by_cases k13 : kind = 13
        · subst k13; go_wp2; go_meet; exact ⟨rfl, rfl⟩
        by_cases k17 : kind = 17
        · subst k17; go_wp2; go_meet; exact ⟨rfl, rfl⟩
        have e : asksB kind = false := by simp [asksB, k14, k15, k16, k13, k17]
        have b14 : (kind == 14) = false := by simp [k14]
        have b15 : (kind == 15) = false := by simp [k15]
        have b16 : (kind == 16) = false := by simp [k16]
        have b13 : (kind == 13) = false := by simp [k13]
        have b17 : (kind == 17) = false := by simp [k17]
        have HE := Lib.hid e
        clear e k14 k15 k16 k13 k17
        go_wp2
        go_meet
        exact ⟨by rw [HE.out], rfl⟩
      case rest =>
        obtain ⟨rfl, rfl⟩ := hcut
        by_cases hwa : wb = true ∧ asksB kind = true
        · obtain ⟨hw1, hw2'⟩ := hwa
          have e1 : needsL kind st key num next ss err = aboveN st M := by rw [HNL.out, if_pos ⟨by rw [← HB.out]; exact hw1, hw2'⟩]; simp
          have HE1 := Lib.hid e1
          clear e1
          subst hw1
          go_wp2
          go_ret2
          rw [HE1.out]
          exact ⟨_, _, rfl, ownsRow_le hN6 (by omega), ownsRow_le hM6 (by omega), hw2.trans (hb6.mono (by omega))⟩
        · have e1 : needsL kind st key num next ss err = aboveN st M ++ I.map fun s => (st, s, M) := by rw [HNL.out, if_neg (by rw [← HB.out]; exact hwa)]
          have HE1 := Lib.hid e1
          clear e1
          obtain ⟨xi, capi, rfl, hxi⟩ := own_slice hI6
          have hcond : wb = false ∨ (wb = true ∧ asksB kind = false) := by
            cases wb
            · exact .inl rfl
            · cases h : asksB kind
              · exact .inr ⟨rfl, rfl⟩
              · exact absurd ⟨rfl, h⟩ hwa
          obtain ⟨ab, hab⟩ : ∃ ab, asksB kind = ab := ⟨_, rfl⟩
          rw [hab] at hcond
          rw [hab]
          have HC := Lib.hid hcond
          clear hcond hwa hab
          go_upto_region 56 with fail
          go_cut [156] (fun s156 wc => NoCut w6 s156 wc)
          case first =>
            rcases HC.out with h | ⟨h1, h2⟩
            · subst h; go_wp2; go_meet; exact ⟨rfl, rfl⟩
            · subst h1 h2; go_wp2; go_meet; exact ⟨rfl, rfl⟩
          case rest =>
            obtain ⟨rfl, rfl⟩ := hcut
            go_wp2_with fail
            go_loopw [10, 11, 17] (fun nv mv i wr => ∃ k : Nat, k ≤ I.length ∧ i = .int .i64 k ∧ wr.ownsRow (w.heap.size + 2) 38 2 nv (2 + k) (nameC (aboveN st M ++ itV st M I k)) ∧
                wr.ownsRow (w.heap.size + 2) 3 1 mv (2 + k) (modeC (aboveN st M ++ itV st M I k)) ∧ wr.ownsRow 0 9 1 (.slice xi I.length capi) I.length (I.map Value.string) ∧ Below (w.heap.size + 2) w2 wr) (fun _ _ i _ => I.length - (intOf i).toNat)
            case atStart => exact ⟨0, by omega, rfl, by simpa [itV, nameC, aboveN] using hN6, by simpa [itV, modeC, aboveN] using hM6, ownsRow_le hI6 (Nat.zero_le _), hb6⟩
            case round =>
              obtain ⟨k, hk, rfl, hN, hM, hIr, hbr⟩ := hrel
              clear hN6 hM6 hI6 hb6 c0 c1 hs6
              have hsr := hbr.size
              by_cases hlt : k < I.length
              · obtain ⟨g, rfl⟩ := hxi (by omega)
                have hcI : wr.cell? ⟨g, k, none⟩ = some (.string I[k]) := by
                  have := hIr.cells (g := g) rfl k (.string I[k]) (by rw [List.getElem?_map, List.getElem?_eq_getElem hlt]; rfl)
                  rw [Addr.add_lit] at this; simpa using this
                have hgl := (hIr.lt g rfl).2
                obtain ⟨-, c1, -, -, -, -, -⟩ := cell7 ((hbr.block w.heap.size (by omega)).trans g0)
                have hneN := own_ne hIr hN (by decide)
                have hneM := own_ne hIr hM (by decide)
                have hneNM := own_ne hM hN (by decide)
                have hne1 := own_lo hN (show w.heap.size < w.heap.size + 2 by omega)
                have hne2 := own_ne_some hIr hN (by decide)
                have hsucc := itV_succ st M I k hlt
                have HS := Lib.hid hsucc
                clear hsucc
                have hk0 : (0 : Int) ≤ (k : Int) := Int.natCast_nonneg _
                have hk1 : (k : Int) < (I.length : Int) := by omega
                have hl0 : w.heap.size < wr.heap.size := by omega
                go_wp2_with fail
                go_region_held3 (fun w' => w'.cell? ⟨w.heap.size, 1, none⟩ = some (.int .i64 st) ∧ w'.cell? ⟨g, k, none⟩ = some (.string I[k]))
                  (first
                    | go_keep
                    | (go_split_ands
                       refine ⟨?_, ?_⟩
                       · (rw [hgrow.cell_far _ (by simp; omega) hne1]; assumption)
                       · (rw [hgrow.cell_far _ (by simp; omega) hne2]; assumption)))
                  ((refine step_append_lies _ (by rfl) _ _ _ (by rfl) (w.heap.size + 2) 38 iN _ 2 24 Try.underlying33 hiN hzN0 hzN1 hzN2 rfl (by omega) _ (2 + k) _ (by rfl) ((hN.alloc _).drew)
                      ⟨wr.heap.size, 0, none⟩ 1 1 [.int .i64 st, .string I[k]] (by rfl) (by rfl) (World.news_of_block (cs := #[.int .i64 st, .string I[k]]) (t := 38) (fr := (0, 0)) (heap_alloc_new wr _)) (by simp [Value.oneCell'])
                      (by omega) (by simp only [maxLen]; omega) (by omega) (by simp; omega) (wr.heap.size + 1) (by simp) ?_; intro gg cap w7 hN7 hgrow hat hltg))
                have hM7 := ((hM.alloc (.cells #[.int .i64 st, .string I[k]] 38)).drew).kept hgrow hneNM
                have hI7 := ((hIr.alloc (.cells #[.int .i64 st, .string I[k]] 38)).drew).kept hgrow hneN
                have hb7 : Below (w.heap.size + 2) w2 w7 := ((hbr.alloc (by omega) (.cells #[.int .i64 st, .string I[k]] 38)).drew).grown hgrow (by simp; omega) (fun q hq => (hN.lt q hq).1)
                have hs7 := hb7.size
                clear hgrow hat hN hM hIr hbr hneN hneM hneNM hne1 hne2 hcI c1 hgl hsr hl0
                go_wp2_with (at_builtin; refine wpList_append_own _ rfl _ _ 34 rfl (w.heap.size + 2) 3 iI _ 1 8 Try.underlying34 hiI hzI0 hzI1 hzI2 rfl (by decide) _ (2 + k) _ rfl (hM7.alloc _) ⟨w7.heap.size, 0, none⟩ 1 1 [.int .i64 M] rfl rfl ?r1 ?r2 ?r3 ?r4 ?r5 ?_)
                (try case r1 => exact cell_one_new _ _ _)
                case r2 => simp [Value.oneCell']
                case r3 => simp only [maxLen]; omega
                case r4 => omega
                case r5 => first | omega | (simp; omega)
                intro v8 w8 hM8 hg8 _
                have hN8 := (hN7.alloc (.cells #[.int .i64 M] 3)).kept hg8 (own_ne hN7 hM7 (by decide))
                have hI8 := (hI7.alloc (.cells #[.int .i64 M] 3)).kept hg8 (own_ne hI7 hM7 (by decide))
                have hb8 : Below (w.heap.size + 2) w2 w8 := (hb7.alloc (by omega) (.cells #[.int .i64 M] 3)).grown hg8 (by simp; omega) (fun q hq => (hM7.lt q hq).1)
                clear hg8 hM7 hN7 hI7 hb7 hs7
                go_wp2
                go_roundw
                case rel => exact ⟨k + 1, by omega, by go_num, by rw [HS.out, ← List.append_assoc, nameC_append]; exact hN8, by rw [HS.out, ← List.append_assoc, modeC_append]; exact hM8, hI8, hb8⟩
                case measure => simp [intOf]; omega
              · have hcond : decide ((k : Int) < (I.length : Int)) = false := by simp; omega
                have e3 : itV st M I k = I.map fun s => (st, s, M) := by unfold itV; rw [List.take_of_length_le (by omega)]
                have e4 : (aboveN st M ++ itV st M I k).length = 2 + k := by simp [aboveN, itV]; omega
                have HE3 := Lib.hid e3
                have HE4 := Lib.hid e4
                clear e3 e4
                go_wp2
                go_ret2
                rw [HE1.out, ← HE3.out]
                exact ⟨_, _, rfl, by rw [HE4.out]; exact ownsRow_le hN (by omega), by rw [HE4.out]; exact ownsRow_le hM (by omega), hw2.trans (hbr.mono (by omega))⟩
end Go.Proofs.Ytdppidnjjdhnaaa
