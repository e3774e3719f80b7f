/-
  Several texts in one: Node1, Node2, BOrd, Node3, Node4, Node5, Node6.
-/
import Derived.Test.YtljommhbhpappaaPkSpaceB
import Derived.Test.YtljommhbhpappaaChecked
import Derived.WalkKit
import Derived.Sort.Walk0
import Derived.Lib.Bytealg
namespace Go.Proofs.Ytljommhbhpappaa
/-!
  Layer 5 (node): Count; Check and Find of a node without cells.
-/
section
open Go.RowKit Go.Joins
set_option linter.unusedVariables false
set_option linter.unusedSimpArgs false

set_option maxHeartbeats 2000000 in
set_option maxRecDepth 100000 in
theorem ncount_any (p : Pg) (n : Nat) (hn : n ≤ 6) (h1 : ∀ j, j < n → p.a j ≠ 0) (h2 : n < 6 → p.a n = 0) (w : World) :
    Calls Try.prog 88 #[p.v] w fun e w' => e = .returned (.int .i64 n) ∧ Below w.heap.size w w' := by
  have H1 := Lib.hid h1
  have H2 := Lib.hid h2
  clear h1 h2
  go_enter Try.func88, Try.ntmps88
  go_wp2_with fail
  go_loopw [3] (fun i wr => ∃ k : Nat, k ≤ n ∧ i = .int .i64 k ∧ wr = w.alloc (.cells p.cs 112)) (fun i _ => 6 - (intOf i).toNat)
  case atStart => exact ⟨0, by omega, rfl, by first | rfl | trivial⟩
  case round =>
    obtain ⟨k, hk, rfl, rfl⟩ := hrel
    have R1 := rowAt_at w p.cs 112 _ rfl
    by_cases hlt : k < n
    · have cA := (cell_row R1 (4 + k * 2)).trans (cs_a p k (by omega))
      have e1 : (p.a k == 0) = false := by simp [H1.out k hlt]
      generalize p.a k = a at *
      go_wp2_with fail
      go_roundw
      case rel => exact ⟨k + 1, by omega, by go_num, by first | rfl | trivial⟩
      case measure => simp [intOf]; omega
    · have hke : k = n := by omega
      subst hke
      by_cases h6 : k < 6
      · have cA := (cell_row R1 (4 + k * 2)).trans (cs_a p k h6)
        rw [H2.out h6] at cA
        go_wp2_with fail
        go_ret
        exact ⟨rfl, (Below.refl _ _).alloc (Nat.le_refl _) _⟩
      · have hke : k = 6 := by omega
        subst hke
        go_wp2_with fail
        go_ret
        exact ⟨rfl, (Below.refl _ _).alloc (Nat.le_refl _) _⟩

/-- a node without cells -/
def emptyN (st : Int) : Pg := { k := 4, s := st }
theorem emptyN_a (st : Int) (k : Nat) (hk : k < 6) : (emptyN st).a k = 0 := by
  rcases k with _ | _ | _ | _ | _ | _ | k
  all_goals first | rfl | omega
theorem emptyN_d (st : Int) (k : Nat) (hk : k < 6) : (emptyN st).d k = ByteArray.empty := by
  rcases k with _ | _ | _ | _ | _ | _ | k
  all_goals first | rfl | omega

set_option maxHeartbeats 2000000 in
set_option maxRecDepth 100000 in
theorem ncheck_empty (st : Int) (w : World) :
    Calls Try.prog 106 #[(emptyN st).v] w fun e w' => e = .returned (.int .i64 0) ∧ Below w.heap.size w w' := by
  have hk : (emptyN st).k = 4 := rfl
  have hl : (emptyN st).l = 0 := rfl
  have HA := Lib.hid (emptyN_a st)
  have HD := Lib.hid (emptyN_d st)
  generalize emptyN st = p at *
  go_enter Try.func106, Try.ntmps106
  go_wp2_with fail
  go_loopw [20] (fun i wr => ∃ k : Nat, k ≤ 6 ∧ i = .int .i64 k ∧ Below (w.heap.size + 1) (w.alloc (.cells p.cs 112)) wr) (fun i _ => 6 - (intOf i).toNat)
  case atStart => exact ⟨0, by omega, rfl, Below.refl _ _⟩
  case round =>
    obtain ⟨k, hk6, rfl, hb⟩ := hrel
    have hsz := hb.size
    rw [World.size_alloc] at hsz
    by_cases hlt : k < 6
    · have hidx := index6 p k hlt
      rw [HA.out k hlt, HD.out k hlt] at hidx
      go_wp2_with fail
      go_roundw
      case rel => exact ⟨k + 1, by omega, by go_num, hb.alloc hsz _⟩
      case measure => simp [intOf]; omega
    · have hke : k = 6 := by omega
      subst hke
      have R1 := (rowAt_below hb (n := w.heap.size) (by omega)).trans (rowAt_at w p.cs 112 _ rfl)
      have HB := Lib.hid (((Below.refl w.heap.size w).alloc (Nat.le_refl _) (.cells p.cs 112)).trans (hb.mono (by omega)))
      have c1 : wr.cell? ⟨w.heap.size, 1, none⟩ = some (.int .i64 0) := (cell_row R1 1).trans (by rw [← hl]; rfl)
      clear hb
      go_wp2_with fail
      go_ret
      exact ⟨rfl, HB.out⟩

set_option maxHeartbeats 2000000 in
set_option maxRecDepth 100000 in
theorem nfind_empty (p : Pg) (h0 : p.a 0 = 0) (key : ByteArray) (w : World) :
    Calls Try.prog 82 #[p.v, .string key] w fun e w' => e = .returned (.tuple #[.int .i64 0, .bool false]) ∧ Below w.heap.size w w' := by
  have HC := Lib.hid (fun w' => ncount_any p 0 (by omega) (fun j hj => by omega) (fun _ => h0) w')
  clear h0
  go_enter Try.func82, Try.ntmps82
  go_wp2_with fail
  refine (HC.out _).mono ?_; rintro e w1 ⟨rfl, hb1⟩
  have hz := hb1.size
  have HB := Lib.hid (((Below.refl w.heap.size w).alloc (Nat.le_refl _) (.cells p.cs 112)).trans (hb1.mono (by go_size)))
  have R1 := (rowAt_below hb1 (by simp)).trans (rowAt_at w p.cs 112 _ rfl)
  clear hb1
  go_wp2_with fail
  go_loopw [18] (fun i wr => i = .int .i64 0 ∧ wr = w1) (fun i _ => 0)
  case atStart => exact ⟨rfl, by first | rfl | trivial⟩
  case round =>
    obtain ⟨rfl, rfl⟩ := hrel
    go_wp2_with fail
    go_ret2
    exact ⟨rfl, HB.out⟩
end

/-!
  Layers 1 and 5: a reader over any bytes; a cell's key and what stands behind it; an inner cell's child.
-/
section
open Go.RowKit Go.Joins
set_option linter.unusedVariables false
set_option linter.unusedSimpArgs false

/-- a text with its length ahead -/
def tx (k : ByteArray) : ByteArray := ⟨#[UInt8.ofNat k.size]⟩ ++ k
theorem tx_size (k : ByteArray) : (tx k).size = k.size + 1 := by
  unfold tx
  rw [ByteArray.size_append]
  show 1 + k.size = _
  omega
theorem tx_ext1 (k r : ByteArray) : (tx k ++ r).extract 0 1 = ⟨#[UInt8.ofNat k.size]⟩ := by
  unfold tx
  rw [ByteArray.append_assoc]
  exact ByteArray.extract_append_eq_left rfl
theorem tx_ext2 (k r : ByteArray) : (tx k ++ r).extract 1 (tx k ++ r).size = k ++ r := by
  unfold tx
  rw [ByteArray.append_assoc, ByteArray.size_append]
  exact ByteArray.extract_append_eq_right rfl rfl
theorem ext_left (k r : ByteArray) : (k ++ r).extract 0 k.size = k := ByteArray.extract_append_eq_left rfl
theorem ext_right (k r : ByteArray) : (k ++ r).extract k.size (k ++ r).size = r := by
  rw [ByteArray.size_append]
  exact ByteArray.extract_append_eq_right rfl rfl
theorem ext_all (k : ByteArray) : k.extract 0 k.size = k := by simp
theorem ext_end (k : ByteArray) : k.extract k.size k.size = ByteArray.empty := by simp

/-- a reader in memory -/
def RdAt (w : World) (n : Nat) (s : ByteArray) : Prop := w.heap[n]? = some (.cells #[.string s, .bool false] 197)
theorem RdAt.lt {w : World} {n : Nat} {s : ByteArray} (h : RdAt w n s) : n < w.heap.size := (Array.getElem?_eq_some_iff.1 h).1
theorem RdAt.below {w w' : World} {n : Nat} {s : ByteArray} (h : RdAt w n s) (hb : Below w.heap.size w w') : RdAt w' n s := (hb.block n h.lt).trans h
theorem grown_size {w w1 : World} {r : Option Nat} (h : w.grownBy w1 r) : w.heap.size ≤ w1.heap.size := by
  obtain ⟨a1, a2, a3, a4, a5⟩ := h
  exact a4
theorem grown_trans {w w1 w2 : World} {r : Option Nat} (h : w.grownBy w1 r) (k : w1.grownBy w2 r) : w.grownBy w2 r := by
  obtain ⟨a1, a2, a3, a4, a5⟩ := h
  obtain ⟨b1, b2, b3, b4, b5⟩ := k
  exact ⟨b1.trans a1, b2.trans a2, b3.trans a3, Nat.le_trans a4 b4, fun i hi hn => (b5 i (Nat.lt_of_lt_of_le hi a4) hn).trans (a5 i hi hn)⟩
theorem grown_setCell (w : World) (n i : Nat) (v : Value) : w.grownBy (w.setCell ⟨n, i, none⟩ v) (some n) :=
  ⟨rfl, rfl, rfl, by rw [World.size_setCell]; exact Nat.le_refl _, fun j hj hn => by
    have : n ≠ j := fun e => hn (by rw [e])
    simp [World.setCell, Array.getElem?_modify, this]⟩

set_option maxHeartbeats 2000000 in
/-- Reader.Bytes, where so many are left -/
theorem rbytes (s : ByteArray) (i : Nat) (hi : i ≤ s.size) (hs : s.size < 1000000) (a r : ByteArray) (ha : s.extract 0 i = a) (hr : s.extract i s.size = r) (w : World) (n : Nat) (h : RdAt w n s) :
    Calls Try.prog 112 #[.pointer (some ⟨n, 0, none⟩), .int .i64 i] w fun e w' => e = .returned (.string a) ∧ w.grownBy w' (some n) ∧ RdAt w' n r := by
  have c0 := cell_of_block h 0
  have c1 := cell_of_block h 1
  simp only [List.getElem?_toArray, List.getElem?_cons_succ, List.getElem?_cons_zero] at c0 c1
  have f0 : w.frozen? ⟨n, 0, none⟩ = false := by unfold RdAt at h; simp [World.frozen?, h]
  have HS := Lib.hid (setCell_block h 0 (.string r))
  clear h
  go_enter Try.func112, Try.ntmps112
  go_wp2
  go_ret
  subst ha hr
  exact ⟨rfl, grown_setCell _ _ _ _, HS.out⟩

set_option maxHeartbeats 2000000 in
/-- Reader.Num of one byte -/
theorem rbyte (s : ByteArray) (b0 : UInt8) (r : ByteArray) (h0 : s.extract 0 1 = ⟨#[b0]⟩) (h1 : s.extract 1 s.size = r) (hz : 1 ≤ s.size) (hs : s.size < 1000000) (w : World) (n : Nat) (h : RdAt w n s) :
    Calls Try.prog 95 #[.pointer (some ⟨n, 0, none⟩), .int .i64 1] w fun e w' => e = .returned (.int .u64 b0.toNat) ∧ w.grownBy w' (some n) ∧ RdAt w' n r := by
  have H := Lib.hid (rbytes s 1 hz hs _ _ h0 h1 w n h)
  clear h h0 h1 hz
  go_enter Try.func95, Try.ntmps95
  go_wp2_with fail
  refine (H.out).mono ?_; rintro e w1 ⟨rfl, g1, r1⟩
  go_wp2_with fail
  refine (val1 b0 _).mono ?_; rintro e w2 ⟨rfl, hb2⟩
  go_wp2_with fail
  go_ret
  exact ⟨rfl, grown_below' g1 (hb2.mono (grown_size g1)), r1.below hb2⟩

set_option maxHeartbeats 2000000 in
/-- Reader.Text -/
theorem rtext (k r : ByteArray) (hk : k.size < 256) (hr : r.size < 1000) (w : World) (n : Nat) (h : RdAt w n (tx k ++ r)) :
    Calls Try.prog 111 #[.pointer (some ⟨n, 0, none⟩)] w fun e w' => e = .returned (.string k) ∧ w.grownBy w' (some n) ∧ RdAt w' n r := by
  have hsz : (tx k ++ r).size = k.size + 1 + r.size := by rw [ByteArray.size_append, tx_size]
  have H0 := Lib.hid (rbyte (tx k ++ r) (UInt8.ofNat k.size) (k ++ r) (tx_ext1 k r) (tx_ext2 k r) (by omega) (by omega) w n h)
  have hu : ((UInt8.ofNat k.size).toNat : Int) = (k.size : Int) := by
    rw [UInt8.toNat_ofNat']; omega
  rw [hu] at H0
  have hz2 : (k ++ r).size = k.size + r.size := by rw [ByteArray.size_append]
  have H1 := Lib.hid (fun w' (h' : RdAt w' n (k ++ r)) => rbytes (k ++ r) k.size (by omega) (by omega) _ _ (ext_left k r) (ext_right k r) w' n h')
  have hk2 : ((k.size : Nat) : Int) < 9223372036854775808 := by omega
  clear h hu hz2 hsz
  go_enter Try.func111, Try.ntmps111
  go_wp2_with fail
  refine (H0.out).mono ?_; rintro e w1 ⟨rfl, g1, r1⟩
  have R1 := Lib.hid r1
  clear r1
  go_wp2_with fail
  refine (H1.out _ R1.out).mono ?_; rintro e w2 ⟨rfl, g2, r2⟩
  go_wp2_with fail
  go_ret
  exact ⟨rfl, grown_trans g1 g2, r2⟩

theorem results_tmp3 {fn : Func} {p q u : Tmp} (h : fn.results = #[.tmp p, .tmp q, .tmp u]) (tmps : Array Value) (P : Program) (w : World) :
    (results fn tmps).run P w = .ok (.tuple #[tmps.getD p undef, tmps.getD q undef, tmps.getD u undef]) w := by
  simp only [results, h]
  simp [Sem.run_bind, Result.andThen]
/-- the end of a function that hands back three numbers -/
theorem ret_tmp3 {P : Program} {fn : Func} {R : Ending → World → Prop} {a : Act} {w : World} {p q u : Tmp} (h : fn.results = #[.tmp p, .tmp q, .tmp u]) (hd : a.defers = [])
    (hR : R (.returned (.tuple #[a.tmps.getD p undef, a.tmps.getD q undef, a.tmps.getD u undef])) w) : bodyPost P fn R .ret a w :=
  bodyPost_ret (results_tmp3 h a.tmps P w) hd hR

set_option maxHeartbeats 2000000 in
/-- a cell's key, and what stands behind it -/
theorem key_ok (st : Int) (k r : ByteArray) (hst : st ≠ 0) (hk : k.size ≤ 8) (hr : r.size < 1000) (w : World) :
    Calls Try.prog 89 #[.agg #[.int .i64 st, .string (tx k ++ r)]] w fun e w' => e = .returned (.tuple #[.string k, .string r, .bool true]) ∧ Below w.heap.size w w' := by
  have hs0 : (st == 0) = false := by simp [hst]
  have hk8 : decide ((8 : Int) < (k.size : Int)) = false := by simp; omega
  have HT := Lib.hid (fun w' n h => rtext k r (by omega) hr w' n h)
  have HB := Lib.hid (fun w' n h => rbytes r r.size (Nat.le_refl _) (by omega) _ _ (ext_all r) (ext_end r) w' n h)
  generalize hd : tx k ++ r = d at *
  clear hd hst
  go_enter Try.func89, Try.ntmps89
  go_wp2_with fail
  refine (reader_any _ _).mono ?_; rintro e w2 ⟨rfl, rfl⟩
  have R0 : Hid (RdAt ((w.alloc (.cells #[.int .i64 st, .string d] 84)).alloc (.cells #[.string d, .bool false] 197)) (w.heap.size + 1) d) := Lib.hid (by
    have := heap_alloc_new (w.alloc (.cells #[.int .i64 st, .string d] 84)) (.cells #[.string d, .bool false] 197)
    rw [World.size_alloc] at this
    exact this)
  have B0 : Hid (Below w.heap.size w ((w.alloc (.cells #[.int .i64 st, .string d] 84)).alloc (.cells #[.string d, .bool false] 197))) := Lib.hid (((Below.refl _ _).alloc (Nat.le_refl _) _).alloc (by go_size) _)
  go_wp2_with fail
  refine (HT.out _ _ R0.out).mono ?_; rintro e w3 ⟨rfl, g3, r3⟩
  have K3 : Hid (Below w.heap.size w w3) := Lib.hid (B0.out.grown g3 B0.out.size (fun q hq => by cases hq; omega))
  have R3 := Lib.hid r3
  have c0 := cell_of_block r3 0
  have c1 := cell_of_block r3 1
  simp only [List.getElem?_toArray, List.getElem?_cons_succ, List.getElem?_cons_zero] at c0 c1
  have hz3 := K3.out.size
  have f0 : w3.frozen? ⟨w.heap.size + 1, 0, none⟩ = false := by unfold RdAt at r3; simp [World.frozen?, r3]
  clear g3 r3
  go_wp2
  exact ret_tmp3 rfl rfl ⟨rfl, below_setCell K3.out _ _ (by simp)⟩
end

/-!
  The order of byte strings (plain law): strings.Compare and '<' are one strict linear order.
-/
section
set_option linter.unusedVariables false
set_option linter.unusedSimpArgs false

/-- the order of keys -/
def KLt (a b : ByteArray) : Prop := a.toList < b.toList
instance (a b : ByteArray) : Decidable (KLt a b) := inferInstanceAs (Decidable (a.toList < b.toList))
theorem blt_eq (a b : ByteArray) : Op.bytesLess a.toList b.toList = decide (KLt a b) := bytesLess_eq _ _
theorem toList_inj {a b : ByteArray} (h : a.toList = b.toList) : a = b := by
  rw [ByteArray.toList_eq, ByteArray.toList_eq] at h
  cases a; cases b
  simp only [ByteArray.mk.injEq]
  exact Array.toList_inj.1 h
theorem beq_eq (a b : ByteArray) : (a.toList == b.toList) = decide (a = b) := by
  by_cases h : a = b
  · subst h; simp
  · have : a.toList ≠ b.toList := fun e => h (toList_inj e)
    simp [h, this]
theorem KLt.irrefl (a : ByteArray) : ¬ KLt a a := List.lt_irrefl _
theorem KLt.trans {a b c : ByteArray} (h : KLt a b) (k : KLt b c) : KLt a c := List.lt_trans h k
theorem KLt.asymm {a b : ByteArray} (h : KLt a b) : ¬ KLt b a := fun k => KLt.irrefl _ (h.trans k)
theorem KLt.tri (a b : ByteArray) : KLt a b ∨ a = b ∨ KLt b a := by
  by_cases h : KLt a b
  · exact .inl h
  · by_cases k : KLt b a
    · exact .inr (.inr k)
    · exact .inr (.inl (toList_inj (List.le_antisymm (List.not_lt.1 k) (List.not_lt.1 h))))
theorem KLt.ne {a b : ByteArray} (h : KLt a b) : a ≠ b := fun e => by subst e; exact KLt.irrefl _ h
theorem KLt.of_not {a b : ByteArray} (h : ¬ KLt a b) (hn : a ≠ b) : KLt b a := by
  rcases KLt.tri a b with q | q | q
  · exact absurd q h
  · exact absurd q hn
  · exact q
/-- a before or at b -/
theorem KLt.lt_of_le {a b c : ByteArray} (h : ¬ KLt b a) (k : KLt b c) : KLt a c := by
  by_cases e : a = b
  · subst e; exact k
  · exact (KLt.of_not h (fun q => e q.symm)).trans k
theorem KLt.lt_of_lt {a b c : ByteArray} (h : KLt a b) (k : ¬ KLt c b) : KLt a c := by
  by_cases e : b = c
  · subst e; exact h
  · exact h.trans (KLt.of_not k (fun q => e q.symm))
theorem empty_toList : ByteArray.empty.toList = [] := by rw [ByteArray.toList_eq]; rfl
theorem KLt.empty (a : ByteArray) : ¬ KLt a ByteArray.empty := by
  unfold KLt
  rw [empty_toList]
  exact List.not_lt_nil _
theorem KLt.pos {a : ByteArray} (h : a ≠ ByteArray.empty) : KLt ByteArray.empty a := by
  rcases KLt.tri ByteArray.empty a with q | q | q
  · exact q
  · exact absurd q.symm h
  · exact absurd q (KLt.empty a)

theorem cmp_lists : ∀ (a b : List UInt8), Lib.compareBytes a b ≤ 0 ↔ ¬ b < a
  | [], [] => by simp [Lib.compareBytes]
  | [], _ :: _ => by simp [Lib.compareBytes]
  | _ :: _, [] => by simp [Lib.compareBytes]
  | x :: a, y :: b => by
    have ih := cmp_lists a b
    simp only [Lib.compareBytes, List.cons_lt_cons_iff]
    by_cases h1 : x < y
    · have h2 : ¬ y < x := UInt8.lt_asymm h1
      have h3 : ¬ y = x := fun e => by subst e; exact UInt8.lt_irrefl _ h1
      simp [h1, h2, h3]
    · by_cases h2 : y < x
      · simp [h1, h2]
      · have h3 : y = x := UInt8.le_antisymm (UInt8.not_lt.1 h1) (UInt8.not_lt.1 h2)
        simp [h1, h2, h3] at ih ⊢
        exact ih
theorem cmp_le (a b : ByteArray) : Lib.compareBytes a.data.toList b.data.toList ≤ 0 ↔ ¬ KLt b a := by
  rw [cmp_lists]
  unfold KLt
  rw [ByteArray.toList_eq, ByteArray.toList_eq]
end

/-!
  Layers 1 and 5: octet.Text; a leaf's cell, an inner node's cell, an inner cell's child.
-/
section
open Go.RowKit Go.Joins
set_option linter.unusedVariables false
set_option linter.unusedSimpArgs false

set_option maxHeartbeats 2000000 in
theorem otext (k : ByteArray) (hk : k.size < 256) (w : World) :
    Calls Try.prog 103 #[.string k] w fun e w' => e = .returned (.tuple #[.string (tx k), .int .i64 0]) ∧ Below w.heap.size w w' := by
  have hcv : ∀ (x0 : Int) (w : World), (convert 106 9 (.slice (some ⟨w.heap.size, 0, none⟩) 1 1)).run Try.prog (w.alloc (.cells #[.int .u8 x0] 5)) = .ok (.string ⟨#[UInt8.ofNat x0.toNat]⟩) (w.alloc (.cells #[.int .u8 x0] 5)) := by
    intro x0 w
    refine run_convert_bytes_arg _ 106 5 Try.underlying106 Try.underlying5 w.heap.size 0 1 1 [x0] rfl ?_ 9 Try.underlying9
    intro i hi
    rw [World.cell?_alloc_mark]
    rcases i with _ | i
    all_goals first | rfl | omega
  have h1 : decide ((255 : Int) < (k.size : Int)) = false := by simp; omega
  have h2 : IntKind.u8.wrap (k.size : Int) = (k.size : Int) := by rw [IntKind.wrap_u8]; omega
  go_enter Try.func103, Try.ntmps103
  go_wp2
  go_ret2
  exact ⟨rfl, (Below.refl _ _).alloc (Nat.le_refl _) _⟩

theorem infoCell3 : (Try.prog.info? 84).map (·.size) = some 2 := by kernel_rfl
/-- the end of a function that hands back a cell and a number -/
theorem ret_cell1 {fn : Func} {R : Ending → World → Prop} {a : Act} {w : World} {pt u : Tmp} (h : fn.results = #[.cell pt 84, .tmp u]) (hd : a.defers = []) (n : Nat) (x : Int) (y : ByteArray) (hp : a.tmps.getD pt undef = .pointer (some ⟨n, 0, none⟩)) (hr : rowAt w n = some #[.int .i64 x, .string y])
    (hR : R (.returned (.tuple #[.agg #[.int .i64 x, .string y], a.tmps.getD u undef])) w) : bodyPost Try.prog fn R .ret a w := by
  obtain ⟨t, ht⟩ := rowAt_heap hr
  have c0 := cell_row hr 0
  have c1 := cell_row hr 1
  refine bodyPost_ret ?_ hd hR
  rw [results_cell_tmp h, hp]
  have hl : (loadVar 84 ⟨n, 0, none⟩).run Try.prog w = .ok (.agg #[.int .i64 x, .string y]) w := by
    simp only [List.getElem?_toArray, List.getElem?_cons_succ, List.getElem?_cons_zero] at c0 c1
    simp [go_sem, c0, c1]
  simp only [asAddr, Sem.run_pure, Result.andThen_ok, hl]

set_option maxHeartbeats 2000000 in
/-- a leaf's cell -/
theorem nleaf_ok (k v : ByteArray) (st : Int) (hk0 : k ≠ ByteArray.empty) (hk : k.size ≤ 8) (hv : v.size ≤ 20) (hst : st = 1 ∨ st = 2) (w : World) :
    Calls Try.prog 78 #[.string k, .string v, .int .i64 st] w fun e w' => e = .returned (.tuple #[.agg #[.int .i64 st, .string (tx k ++ v)], .int .i64 0]) ∧ Below w.heap.size w w' := by
  have h1 : decide ((8 : Int) < (k.size : Int)) = false := by simp; omega
  have h2 : decide ((20 : Int) < (v.size : Int)) = false := by simp; omega
  have h3 := sem_f hk0
  have HT := Lib.hid (fun w' => otext k (by omega) w')
  have hts : ¬ 9223372036854775807 < (tx k).size + v.size := by rw [tx_size]; omega
  generalize tx k = t at *
  rcases hst with rfl | rfl
  all_goals
    go_enter Try.func78, Try.ntmps78
    go_wp2_with fail
    refine (HT.out _).mono ?_; rintro e w1 ⟨rfl, hb1⟩
    have R1 := (rowAt_below hb1 (by simp)).trans (rowAt_at w #[.int .i64 0, .string ⟨#[]⟩] 84 _ rfl)
    have hz1 := hb1.size
    rw [World.size_alloc] at hz1
    have B1 : Hid (Below w.heap.size w w1) := Lib.hid (((Below.refl _ _).alloc (Nat.le_refl _) _).trans (hb1.mono (by go_size)))
    have c0 := cell_row R1 0
    have c1 := cell_row R1 1
    have f0 := frozen_row R1 0
    have f1 := frozen_row R1 1
    simp only [List.getElem?_toArray, List.getElem?_cons_succ, List.getElem?_cons_zero] at c0 c1
    have R1' := Lib.hid R1
    clear hb1 R1
    go_wp2_with fail
    exact ret_cell1 rfl rfl w.heap.size _ (t ++ v) rfl (rowAt_setCell_here _ _ 1 _ _ (rowAt_setCell_here _ _ 0 _ _ R1'.out)) ⟨rfl, below_setCell (below_setCell B1.out _ _ (Nat.le_refl _)) _ _ (Nat.le_refl _)⟩

theorem le4_size (n : Int) : (le4 n).size = 4 := rfl
set_option maxHeartbeats 2000000 in
/-- an inner node's cell -/
theorem ninner_ok (k : ByteArray) (c : Int) (hk : k.size ≤ 8) (h1 : 1 ≤ c) (h2 : c < 1024) (w : World) :
    Calls Try.prog 107 #[.string k, .int .i64 c] w fun e w' => e = .returned (.tuple #[.agg #[.int .i64 1, .string (tx k ++ le4 c)], .int .i64 0]) ∧ Below w.heap.size w w' := by
  have h3 : decide ((8 : Int) < (k.size : Int)) = false := by simp; omega
  have h4 : decide (c < 1) = false := by simp; omega
  have h5 : decide (1024 ≤ c) = false := by simp; omega
  have h6 : IntKind.u64.wrap c = c := by rw [IntKind.wrap_u64]; omega
  have HT := Lib.hid (fun w' => otext k (by omega) w')
  have HN := Lib.hid (fun w' => num4 c w' (by omega) (by omega))
  have hts : ¬ 9223372036854775807 < (tx k).size + (le4 c).size := by rw [tx_size, le4_size]; omega
  generalize tx k = t at *
  generalize le4 c = v at *
  go_enter Try.func107, Try.ntmps107
  go_wp2_with fail
  refine (HT.out _).mono ?_; rintro e w1 ⟨rfl, hb1⟩
  have R1 := (rowAt_below hb1 (by simp)).trans (rowAt_at w #[.int .i64 0, .string ⟨#[]⟩] 84 _ rfl)
  have hz1 := hb1.size
  rw [World.size_alloc] at hz1
  have B1 : Hid (Below w.heap.size w w1) := Lib.hid (((Below.refl _ _).alloc (Nat.le_refl _) _).trans (hb1.mono (by go_size)))
  have R1' := Lib.hid R1
  clear hb1 R1
  go_wp2_with fail
  refine (HN.out _).mono ?_; rintro e w2 ⟨rfl, hb2⟩
  have R2 := (rowAt_below hb2 (by omega)).trans R1'.out
  have B2 : Hid (Below w.heap.size w w2) := Lib.hid (B1.out.trans (hb2.mono (by omega)))
  have c0 := cell_row R2 0
  have c1 := cell_row R2 1
  have f0 := frozen_row R2 0
  have f1 := frozen_row R2 1
  simp only [List.getElem?_toArray, List.getElem?_cons_succ, List.getElem?_cons_zero] at c0 c1
  have R2' := Lib.hid R2
  clear hb2 R2
  go_wp2_with fail
  exact ret_cell1 rfl rfl w.heap.size _ (t ++ v) rfl (rowAt_setCell_here _ _ 1 _ _ (rowAt_setCell_here _ _ 0 _ _ R2'.out)) ⟨rfl, below_setCell (below_setCell B2.out _ _ (Nat.le_refl _)) _ _ (Nat.le_refl _)⟩

theorem le4_val (c : Int) (h1 : 0 ≤ c) (h2 : c < 4294967296) : ∃ b0 b1 b2 b3 : UInt8, le4 c = ⟨#[b0, b1, b2, b3]⟩ ∧ ((b0.toNat + 256 * b1.toNat + 65536 * b2.toNat + 16777216 * b3.toNat : Nat) : Int) = c := by
  refine ⟨UInt8.ofNat (c % 256).toNat, UInt8.ofNat (c / 256 % 256).toNat, UInt8.ofNat (c / 65536 % 256).toNat, UInt8.ofNat (c / 16777216).toNat, rfl, ?_⟩
  simp only [UInt8.toNat_ofNat']
  omega
theorem val_le4 (c : Int) (h1 : 0 ≤ c) (h2 : c < 4294967296) (w : World) :
    Calls Try.prog 113 #[.string (le4 c)] w fun e w' => e = .returned (.tuple #[.int .u64 c, .int .i64 0]) ∧ Below w.heap.size w w' := by
  obtain ⟨b0, b1, b2, b3, e1, e2⟩ := le4_val c h1 h2
  have := val4 b0 b1 b2 b3 w
  rw [e2] at this
  rw [e1]
  exact this

set_option maxHeartbeats 2000000 in
/-- an inner cell's child -/
theorem nchild_ok (st : Int) (k : ByteArray) (c : Int) (hst : st ≠ 0) (hk : k.size ≤ 8) (h1 : 1 ≤ c) (h2 : c < 1024) (w : World) :
    Calls Try.prog 104 #[.agg #[.int .i64 st, .string (tx k ++ le4 c)]] w fun e w' => e = .returned (.int .i64 c) ∧ Below w.heap.size w w' := by
  have HK := Lib.hid (fun w' => key_ok st k (le4 c) hst hk (by rw [le4_size]; omega) w')
  have HV := Lib.hid (fun w' => val_le4 c (by omega) (by omega) w')
  have h3 : (le4 c).size = 4 := le4_size c
  have h4 : decide (c < 1) = false := by simp; omega
  have h5 : decide (1024 ≤ c) = false := by simp; omega
  have h6 : IntKind.i64.wrap c = c := by rw [IntKind.wrap_i64]; omega
  generalize le4 c = v at *
  generalize tx k ++ v = d at *
  go_enter Try.func104, Try.ntmps104
  go_wp2_with fail
  refine (HK.out _).mono ?_; rintro e w1 ⟨rfl, hb1⟩
  have hz1 := hb1.size
  rw [World.size_alloc] at hz1
  have B1 : Hid (Below w.heap.size w w1) := Lib.hid (((Below.refl _ _).alloc (Nat.le_refl _) _).trans (hb1.mono (by go_size)))
  clear hb1
  go_wp2_with fail
  refine (HV.out _).mono ?_; rintro e w2 ⟨rfl, hb2⟩
  have B2 : Hid (Below w.heap.size w w2) := Lib.hid (B1.out.trans (hb2.mono (by omega)))
  clear hb2
  go_wp2_with fail
  go_ret
  exact ⟨rfl, B2.out⟩
end

/-!
  Layer 5 (node): pages as lists of cells; Count, Find, Down.
-/
section
open Go.RowKit Go.Joins
set_option linter.unusedVariables false
set_option linter.unusedSimpArgs false

/-- a node's cell -/
structure NC where
  key : ByteArray
  st : Int
  rest : ByteArray
deriving DecidableEq
def NC.d (c : NC) : ByteArray := tx c.key ++ c.rest
def stL (L : List NC) (i : Nat) : Int := match L[i]? with | some c => c.st | none => 0
def dL (L : List NC) (i : Nat) : ByteArray := match L[i]? with | some c => c.d | none => ByteArray.empty
/-- a node's page -/
def ndPg (lv st nx : Int) (L : List NC) : Pg :=
  { k := 4, l := lv, s := st, n := nx, a0 := stL L 0, d0 := dL L 0, a1 := stL L 1, d1 := dL L 1, a2 := stL L 2, d2 := dL L 2, a3 := stL L 3, d3 := dL L 3, a4 := stL L 4, d4 := dL L 4, a5 := stL L 5, d5 := dL L 5 }
theorem six {P : Nat → Prop} (h0 : P 0) (h1 : P 1) (h2 : P 2) (h3 : P 3) (h4 : P 4) (h5 : P 5) (i : Nat) (hi : i < 6) : P i := by
  rcases i with _ | _ | _ | _ | _ | _ | i
  · exact h0
  · exact h1
  · exact h2
  · exact h3
  · exact h4
  · exact h5
  · omega
theorem nd_a (lv st nx : Int) (L : List NC) (i : Nat) (hi : i < 6) : (ndPg lv st nx L).a i = stL L i :=
  six (P := fun i => (ndPg lv st nx L).a i = stL L i) rfl rfl rfl rfl rfl rfl i hi
theorem nd_d (lv st nx : Int) (L : List NC) (i : Nat) (hi : i < 6) : (ndPg lv st nx L).d i = dL L i :=
  six (P := fun i => (ndPg lv st nx L).d i = dL L i) rfl rfl rfl rfl rfl rfl i hi
theorem stL_get {L : List NC} {i : Nat} (h : i < L.length) : stL L i = L[i].st := by simp [stL, h]
theorem dL_get {L : List NC} {i : Nat} (h : i < L.length) : dL L i = L[i].d := by simp [dL, h]
theorem stL_out {L : List NC} {i : Nat} (h : L.length ≤ i) : stL L i = 0 := by simp [stL, h]
theorem dL_out {L : List NC} {i : Nat} (h : L.length ≤ i) : dL L i = ByteArray.empty := by simp [dL, h]
/-- a cell that may stand in a node -/
def NC.ok (c : NC) : Prop := c.st ≠ 0 ∧ c.key.size ≤ 8 ∧ c.rest.size ≤ 25

theorem ncount_nd (lv st nx : Int) (L : List NC) (h6 : L.length ≤ 6) (hok : ∀ c ∈ L, c.ok) (w : World) :
    Calls Try.prog 88 #[(ndPg lv st nx L).v] w fun e w' => e = .returned (.int .i64 L.length) ∧ Below w.heap.size w w' := by
  refine ncount_any _ L.length h6 (fun j hj => ?_) (fun h => ?_) w
  · rw [nd_a _ _ _ _ _ (by omega), stL_get hj]
    exact (hok _ (List.getElem_mem hj)).1
  · rw [nd_a _ _ _ _ _ h, stL_out (Nat.le_refl _)]

/-- the place of a key, or where it would stand; is it there? -/
def findL (key : ByteArray) : List NC → Nat → Nat × Bool
  | [], i => (i, false)
  | c :: r, i => if KLt c.key key then findL key r (i + 1) else (i, decide (c.key = key))
theorem findL_le (key : ByteArray) : ∀ (L : List NC) (i : Nat), i ≤ (findL key L i).1 ∧ (findL key L i).1 ≤ i + L.length
  | [], i => by simp [findL]
  | c :: r, i => by
    have := findL_le key r (i + 1)
    simp only [findL]
    split
    · simp only [List.length_cons]; omega
    · simp

set_option maxHeartbeats 2000000 in
set_option maxRecDepth 100000 in
theorem nfind_any (lv st nx : Int) (L : List NC) (h6 : L.length ≤ 6) (hok : ∀ c ∈ L, c.ok) (key : ByteArray) (w : World) :
    Calls Try.prog 82 #[(ndPg lv st nx L).v, .string key] w fun e w' => e = .returned (.tuple #[.int .i64 (findL key L 0).1, .bool (findL key L 0).2]) ∧ Below w.heap.size w w' := by
  have HC := Lib.hid (fun w' => ncount_nd lv st nx L h6 hok w')
  have HK := Lib.hid (fun i (hi : i < L.length) w' => key_ok L[i].st L[i].key L[i].rest (hok _ (List.getElem_mem hi)).1 (hok _ (List.getElem_mem hi)).2.1 (by have := (hok _ (List.getElem_mem hi)).2.2; omega) w')
  have HA := Lib.hid (fun i (hi : i < L.length) => (nd_a lv st nx L i (by omega)).trans (stL_get hi))
  have HD := Lib.hid (fun i (hi : i < L.length) => (nd_d lv st nx L i (by omega)).trans (dL_get hi))
  generalize ndPg lv st nx L = p at *
  go_enter Try.func82, Try.ntmps82
  go_wp2_with fail
  refine (HC.out _).mono ?_; rintro e w1 ⟨rfl, hb1⟩
  have hz := hb1.size
  rw [World.size_alloc] at hz
  have HB := Lib.hid (((Below.refl w.heap.size w).alloc (Nat.le_refl _) (.cells p.cs 112)).trans (hb1.mono (by go_size)))
  have R1 := (rowAt_below hb1 (by simp)).trans (rowAt_at w p.cs 112 _ rfl)
  have HR := Lib.hid R1
  clear hb1
  have hn6 : ((L.length : Nat) : Int) ≤ 6 := by omega
  go_wp2_with fail
  go_loopw [18] (fun i wr => ∃ k : Nat, k ≤ L.length ∧ i = .int .i64 k ∧ Below w1.heap.size w1 wr ∧ findL key L 0 = findL key (L.drop k) k) (fun i _ => L.length - (intOf i).toNat)
  case atStart => exact ⟨0, by omega, rfl, Below.refl _ _, rfl⟩
  case round =>
    obtain ⟨k, hk, rfl, hb, hf⟩ := hrel
    have hsz := hb.size
    have KB := Lib.hid hb
    have RR := (rowAt_below hb (n := w.heap.size) (by omega)).trans HR.out
    by_cases hlt : k < L.length
    · have hk6 : k < 6 := by omega
      have cA := (cell_row RR (4 + k * 2)).trans (cs_a p k hk6)
      have cD := (cell_row RR (4 + k * 2 + 1)).trans (cs_d p k hk6)
      rw [HA.out k hlt] at cA
      rw [HD.out k hlt] at cD
      rw [List.drop_eq_getElem_cons hlt] at hf
      have HKk := Lib.hid (HK.out k hlt)
      have hd : L[k].d = tx L[k].key ++ L[k].rest := rfl
      rw [hd] at cD
      generalize L[k] = c at *
      obtain ⟨ck, cs, cr⟩ := c
      simp only at cA cD HKk hf hd
      generalize hdd : tx ck ++ cr = dd at *
      clear hd hdd hb
      go_wp2_with fail
      refine (HKk.out _).mono ?_; rintro e w3 ⟨rfl, hb3⟩
      have hz3 := hb3.size
      rw [World.size_alloc] at hz3
      have B3 : Hid (Below w1.heap.size w1 w3) := Lib.hid ((KB.out.alloc hsz _).trans (hb3.mono (by go_size)))
      clear hb3
      have HBo := blt_eq ck key
      have HEq := beq_eq ck key
      by_cases hl : KLt ck key
      · have hg : (!(Op.bytesLess ck.toList key.toList)) = false := by rw [HBo]; simp [hl]
        simp only [findL, hl, if_true] at hf
        go_wp2_with fail
        go_roundw
        case rel => exact ⟨k + 1, by omega, by go_num, B3.out, hf⟩
        case measure => simp [intOf]; omega
      · have hg : (!(Op.bytesLess ck.toList key.toList)) = true := by rw [HBo]; simp [hl]
        simp only [findL, hl, if_false] at hf
        go_wp2_with fail
        go_ret2
        refine ⟨?_, HB.out.trans (B3.out.mono (by omega))⟩
        rw [hf, ← HEq]
        rfl
    · have hke : k = L.length := by omega
      subst hke
      rw [List.drop_length] at hf
      go_wp2_with fail
      go_ret2
      refine ⟨?_, HB.out.trans (KB.out.mono (by omega))⟩
      rw [hf]
      rfl

/-- the cell whose child a key belongs to -/
def downL (key : ByteArray) (L : List NC) : Nat := if (findL key L 0).2 = true ∨ (findL key L 0).1 = 0 then (findL key L 0).1 else (findL key L 0).1 - 1
set_option maxHeartbeats 2000000 in
theorem ndown_any (lv st nx : Int) (L : List NC) (h6 : L.length ≤ 6) (hok : ∀ c ∈ L, c.ok) (key : ByteArray) (w : World) :
    Calls Try.prog 105 #[(ndPg lv st nx L).v, .string key] w fun e w' => e = .returned (.int .i64 (downL key L)) ∧ Below w.heap.size w w' := by
  have HF := Lib.hid (fun w' => nfind_any lv st nx L h6 hok key w')
  have hle := (findL_le key L 0).2
  unfold downL
  generalize ndPg lv st nx L = p at *
  generalize findL key L 0 = r at *
  obtain ⟨i, b⟩ := r
  simp only at hle HF ⊢
  generalize hx : (if b = true ∨ i = 0 then i else i - 1) = x
  go_enter Try.func105, Try.ntmps105
  go_wp2_with fail
  refine (HF.out _).mono ?_; rintro e w1 ⟨rfl, hb1⟩
  have HB := Lib.hid (((Below.refl w.heap.size w).alloc (Nat.le_refl _) (.cells p.cs 112)).trans (hb1.mono (by go_size)))
  clear hb1
  cases b with
  | true =>
    have e1 : i = x := by rw [← hx, if_pos (Or.inl rfl)]
    subst e1
    clear hx
    go_wp2_with fail
    go_ret
    exact ⟨rfl, HB.out⟩
  | false =>
    by_cases h0 : i = 0
    · have e1 : i = x := by rw [← hx, if_pos (Or.inr h0)]
      subst e1
      clear hx
      subst h0
      go_wp2_with fail
      go_ret
      exact ⟨rfl, HB.out⟩
    · have hi0 : ((i : Int) == 0) = false := by simp; omega
      have e1 : ((i : Int) - 1) = (x : Int) := by rw [← hx, if_neg (by simp [h0])]; omega
      clear hx
      go_wp2_with fail
      go_ret
      exact ⟨by rw [← e1]; rfl, HB.out⟩
end

/-!
  Layer 5 (node): Check of a node that is one.
-/
section
open Go.RowKit Go.Joins
set_option linter.unusedVariables false
set_option linter.unusedSimpArgs false

set_option maxHeartbeats 1000000 in
set_option maxRecDepth 100000 in
theorem cmpString (a b : ByteArray) (w : World) :
    Calls Try.prog 124 #[.string a, .string b] w fun e w' => e = .returned (.int .i64 (Lib.compareBytes a.data.toList b.data.toList)) ∧ w = w' := by
  go_enter Try.func124, Try.ntmps124
  go_wp2
  rw [run_callFunc_extern Try.func137 (by kernel_rfl) (by kernel_rfl) (by kernel_rfl) (e := Extern.BytealgCompare.compare) (by kernel_rfl), Lib.run_compareString]
  simp only [Result.andThen]
  rw [Oper.upon_value]
  go_wp2
  go_ret
  exact ⟨rfl, rfl⟩
set_option maxHeartbeats 1000000 in
theorem scompare (a b : ByteArray) (w : World) :
    Calls Try.prog 118 #[.string a, .string b] w fun e w' => e = .returned (.int .i64 (Lib.compareBytes a.data.toList b.data.toList)) ∧ w = w' := by
  go_enter Try.func118, Try.ntmps118
  go_wp2_with fail
  refine (cmpString _ _ _).mono ?_; rintro e w' ⟨rfl, rfl⟩
  go_wp2_with fail
  go_ret
  exact ⟨rfl, rfl⟩

/-- keys that rise -/
def Rising (L : List NC) : Prop := L.Pairwise fun a b => KLt a.key b.key
theorem Rising.next {L : List NC} (h : Rising L) {k : Nat} (hk : k + 1 < L.length) : KLt L[k].key L[k + 1].key := List.pairwise_iff_getElem.1 h k (k + 1) (by omega) hk (by omega)
/-- a leaf's cell that may be -/
def NC.leaf (c : NC) : Prop := (c.st = 1 ∨ c.st = 2) ∧ c.key ≠ ByteArray.empty ∧ c.key.size ≤ 8 ∧ c.rest.size ≤ 20
theorem NC.leaf.ok {c : NC} (h : c.leaf) : c.ok := ⟨by rcases h.1 with e | e <;> rw [e] <;> decide, h.2.2.1, by have := h.2.2.2; omega⟩

/-- the last key that was looked at, and whether there was one -/
def lastK (L : List NC) (k : Nat) : ByteArray × Bool := match (L.take k).getLast? with | some c => (c.key, true) | none => (ByteArray.empty, false)
theorem lastK_zero (L : List NC) : lastK L 0 = (ByteArray.empty, false) := by simp [lastK]
theorem lastK_succ {L : List NC} {k : Nat} (h : k < L.length) : lastK L (k + 1) = (L[k].key, true) := by
  unfold lastK
  have e : L.take (k + 1) = L.take k ++ [L[k]] := by rw [List.take_add_one, List.getElem?_eq_getElem h]; rfl
  rw [e, List.getLast?_concat]
theorem lastK_past {L : List NC} {k : Nat} (h : L.length ≤ k) : lastK L (k + 1) = lastK L k := by
  unfold lastK
  rw [List.take_of_length_le h, List.take_of_length_le (by omega)]
theorem lastK_any (L : List NC) (k : Nat) (h : k ≤ L.length) : (k = 0 ∧ lastK L k = (ByteArray.empty, false)) ∨ (∃ j, ∃ hj : j < L.length, k = j + 1 ∧ lastK L k = (L[j].key, true)) := by
  rcases k with _ | j
  · exact .inl ⟨rfl, lastK_zero L⟩
  · exact .inr ⟨j, h, rfl, lastK_succ h⟩

set_option maxHeartbeats 4000000 in
set_option maxRecDepth 100000 in
theorem ncheck_leaf (st nx : Int) (L : List NC) (h6 : L.length ≤ 6) (hok : ∀ c ∈ L, c.leaf) (hr : Rising L) (w : World) :
    Calls Try.prog 106 #[(ndPg 0 st nx L).v] w fun e w' => e = .returned (.int .i64 0) ∧ Below w.heap.size w w' := by
  have HK := Lib.hid (fun i (hi : i < L.length) w' => key_ok L[i].st L[i].key L[i].rest (hok _ (List.getElem_mem hi)).ok.1 (hok _ (List.getElem_mem hi)).2.2.1 (by have := (hok _ (List.getElem_mem hi)).2.2.2; omega) w')
  have HA := Lib.hid (fun i (hi : i < 6) => nd_a 0 st nx L i hi)
  have HD := Lib.hid (fun i (hi : i < 6) => nd_d 0 st nx L i hi)
  have HL := Lib.hid hok
  have HR := Lib.hid hr
  have hk : (ndPg 0 st nx L).k = 4 := rfl
  have hl : (ndPg 0 st nx L).l = 0 := rfl
  clear hok hr
  generalize ndPg 0 st nx L = p at *
  go_enter Try.func106, Try.ntmps106
  go_wp2_with fail
  go_loopw [3, 4, 20] (fun last sm i wr => ∃ k : Nat, k ≤ 6 ∧ i = .int .i64 k ∧ Below (w.heap.size + 1) (w.alloc (.cells p.cs 112)) wr ∧ last = .string (lastK L k).1 ∧ sm = .bool (lastK L k).2) (fun _ _ i _ => 6 - (intOf i).toNat)
  case atStart => exact ⟨0, by omega, rfl, Below.refl _ _, by rw [lastK_zero]; exact ⟨rfl, rfl⟩⟩
  case round =>
    obtain ⟨k, hk6, rfl, hb, rfl, rfl⟩ := hrel
    have hsz := hb.size
    rw [World.size_alloc] at hsz
    by_cases hlt : k < 6
    · by_cases hkL : k < L.length
      · have hidx := index6 p k hlt
        rw [HA.out k hlt, HD.out k hlt, stL_get hkL, dL_get hkL] at hidx
        have hd : L[k].d = tx L[k].key ++ L[k].rest := rfl
        rw [hd] at hidx
        have HKk := Lib.hid (HK.out k hkL)
        have HLS := Lib.hid (lastK_succ hkL)
        have hlf := HL.out _ (List.getElem_mem hkL)
        have hprev : ∀ j, (hj : j < L.length) → k = j + 1 → KLt L[j].key L[k].key := fun j hj e => by subst e; exact HR.out.next hkL
        generalize L[k] = c at *
        obtain ⟨ck, cs, cr⟩ := c
        obtain ⟨l1, l2, l3, l4⟩ := hlf
        simp only at hidx HKk HLS hprev l1 l2 l3 l4
        have hne := sem_f l2
        have hcs : (cs == 0) = false := by rcases l1 with e | e <;> subst e <;> rfl
        have hcr : decide ((20 : Int) < (cr.size : Int)) = false := by simp; omega
        generalize hdd : tx ck ++ cr = dd at *
        clear hd hdd
        rcases lastK_any L k (by omega) with ⟨hk0, hlk⟩ | ⟨j, hj, hkj, hlk⟩
        · rw [hlk]
          clear hprev
          have hidx0 := hidx
          rw [show ((k : Nat) : Int) = 0 from by omega] at hidx0
          go_wp2_with fail
          refine (HKk.out _).mono ?_; rintro e w3 ⟨rfl, hb3⟩
          have hz3 := hb3.size
          rw [World.size_alloc] at hz3
          have RR := ((rowAt_below hb3 (by go_size)).trans ((rowAt_past _ _ _ (by omega)).trans (rowAt_below hb (n := w.heap.size) (by omega)))).trans (rowAt_at w p.cs 112 _ rfl)
          have c1 : w3.cell? ⟨w.heap.size, 1, none⟩ = some (.int .i64 0) := (cell_row RR 1).trans (by rw [← hl]; rfl)
          have B3 : Hid (Below (w.heap.size + 1) (w.alloc (.cells p.cs 112)) w3) := Lib.hid ((hb.alloc hsz _).trans (hb3.mono (by go_size)))
          have RC := (rowAt_below hb3 (n := wr.heap.size) (by go_size)).trans (rowAt_at wr #[.int .i64 cs, .string dd] 84 _ rfl)
          have c0 := cell_row RC 0
          simp only [List.getElem?_toArray, List.getElem?_cons_succ, List.getElem?_cons_zero] at c0
          clear hb3 RR hb
          have HLS1 := HLS.out
          rw [hk0] at HLS1
          go_wp2_with fail
          all_goals
            refine ⟨⟨1, by omega, rfl, B3.out, ?_⟩, ?_⟩
            · rw [HLS1]; exact ⟨rfl, rfl⟩
            · rw [hk0]; simp [intOf]
        · rw [hlk]
          have hpr := hprev j hj hkj
          subst hkj
          have hidx0 := hidx
          rw [show ((j + 1 : Nat) : Int) = (j : Int) + 1 from by omega] at hidx0
          have RR0 := (rowAt_below hb (n := w.heap.size) (by omega)).trans (rowAt_at w p.cs 112 _ rfl)
          have RR1 := (rowAt_past wr (.cells #[.int .i64 cs, .string dd] 84) w.heap.size (by omega)).trans RR0
          have cP := (cell_row RR1 (4 + j * 2)).trans (cs_a p j (by omega))
          rw [HA.out j (by omega), stL_get hj] at cP
          have hsj : (L[j].st == 0) = false := by simpa using (HL.out _ (List.getElem_mem hj)).ok.1
          generalize L[j].st = sj at *
          generalize hjk : L[j].key = jk at *
          have hcm : decide (Lib.compareBytes ck.data.toList jk.data.toList ≤ 0) = false := by simp only [decide_eq_false_iff_not]; rw [cmp_le]; exact fun h => h hpr
          have HCm := Lib.hid (fun w' => scompare ck jk w')
          generalize Lib.compareBytes ck.data.toList jk.data.toList = cmp at *
          clear hprev
          go_wp2_with fail
          refine (HKk.out _).mono ?_; rintro e w3 ⟨rfl, hb3⟩
          have hz3 := hb3.size
          rw [World.size_alloc] at hz3
          have RR := ((rowAt_below hb3 (by go_size)).trans RR1)
          have c1 : w3.cell? ⟨w.heap.size, 1, none⟩ = some (.int .i64 0) := (cell_row RR 1).trans (by rw [← hl]; rfl)
          have B3 : Hid (Below (w.heap.size + 1) (w.alloc (.cells p.cs 112)) w3) := Lib.hid ((hb.alloc hsz _).trans (hb3.mono (by go_size)))
          have RC := (rowAt_below hb3 (n := wr.heap.size) (by go_size)).trans (rowAt_at wr #[.int .i64 cs, .string dd] 84 _ rfl)
          have c0 := cell_row RC 0
          simp only [List.getElem?_toArray, List.getElem?_cons_succ, List.getElem?_cons_zero] at c0
          clear hb3 RR hb
          go_wp2_with fail
          refine (HCm.out _).mono ?_; rintro e w4 ⟨rfl, rfl⟩
          go_wp2_with fail
          all_goals
            refine ⟨⟨j + 1 + 1, by omega, by go_num, B3.out, ?_⟩, ?_⟩
            · rw [HLS.out]; exact ⟨rfl, rfl⟩
            · simp [intOf]; omega
      · have hidx := index6 p k hlt
        rw [HA.out k hlt, HD.out k hlt, stL_out (by omega), dL_out (by omega)] at hidx
        have HLP := Lib.hid (lastK_past (L := L) (k := k) (by omega))
        go_wp2_with fail
        go_roundw
        case rel =>
          refine ⟨k + 1, by omega, by go_num, hb.alloc hsz _, ?_⟩
          rw [HLP.out]; exact ⟨rfl, rfl⟩
        case measure => simp [intOf]; omega
    · have hke : k = 6 := by omega
      subst hke
      have R1 := (rowAt_below hb (n := w.heap.size) (by omega)).trans (rowAt_at w p.cs 112 _ rfl)
      have HB := Lib.hid (((Below.refl w.heap.size w).alloc (Nat.le_refl _) (.cells p.cs 112)).trans (hb.mono (by omega)))
      have c1 : wr.cell? ⟨w.heap.size, 1, none⟩ = some (.int .i64 0) := (cell_row R1 1).trans (by rw [← hl]; rfl)
      clear hb
      go_wp2_with fail
      go_ret
      exact ⟨rfl, HB.out⟩
end

/-!
  Layer 5 (node): Check of an inner node that is one.
-/
section
open Go.RowKit Go.Joins
set_option linter.unusedVariables false
set_option linter.unusedSimpArgs false

/-- an inner node's cell that may be -/
def NC.inner (c : NC) : Prop := c.st = 1 ∧ c.key.size ≤ 8 ∧ ∃ ch : Int, 1 ≤ ch ∧ ch < 1024 ∧ c.rest = le4 ch
theorem NC.inner.ok {c : NC} (h : c.inner) : c.ok := by
  obtain ⟨h1, h2, ch, h3, h4, h5⟩ := h
  exact ⟨by rw [h1]; decide, h2, by rw [h5, le4_size]; omega⟩
/-- only the first key is empty -/
theorem Rising.full {L : List NC} (h : Rising L) {j k : Nat} (hk : k < L.length) (hj : j < k) : L[k].key ≠ ByteArray.empty := fun e => by
  have := List.pairwise_iff_getElem.1 h j k (by omega) hk hj
  rw [e] at this
  exact KLt.empty _ this

theorem lastK_six {L : List NC} (h : 0 < L.length) (h6 : L.length ≤ 6) : (lastK L 6).2 = true := by
  unfold lastK
  rw [List.take_of_length_le h6, List.getLast?_eq_some_getLast (List.ne_nil_of_length_pos h)]

set_option maxHeartbeats 4000000 in
set_option maxRecDepth 100000 in
theorem ncheck_inner (lv st nx : Int) (hlv : 0 < lv) (L : List NC) (h6 : L.length ≤ 6) (hok : ∀ c ∈ L, c.inner) (hr : Rising L) (h0 : ∃ hp : 0 < L.length, L[0].key = ByteArray.empty) (w : World) :
    Calls Try.prog 106 #[(ndPg lv st nx L).v] w fun e w' => e = .returned (.int .i64 0) ∧ Below w.heap.size w w' := by
  have HK := Lib.hid (fun i (hi : i < L.length) w' => key_ok L[i].st L[i].key L[i].rest (hok _ (List.getElem_mem hi)).ok.1 (hok _ (List.getElem_mem hi)).2.1 (by have := (hok _ (List.getElem_mem hi)).ok.2.2; omega) w')
  have HA := Lib.hid (fun i (hi : i < 6) => nd_a lv st nx L i hi)
  have HD := Lib.hid (fun i (hi : i < 6) => nd_d lv st nx L i hi)
  have HL := Lib.hid hok
  have HR := Lib.hid hr
  have hk : (ndPg lv st nx L).k = 4 := rfl
  have hl : (ndPg lv st nx L).l = lv := rfl
  obtain ⟨hp0, hk00⟩ := h0
  have hll1 : (lv == 0) = false := by simp; omega
  have hll2 : decide (lv < 0) = false := by simp; omega
  have hll3 : decide (0 < lv) = true := by simp; omega
  have hlv0 : ¬ lv = 0 := by omega
  have hlv1 : ¬ lv < 0 := by omega
  clear hok hr
  generalize ndPg lv st nx L = p at *
  go_enter Try.func106, Try.ntmps106
  go_wp2_with fail
  go_loopw [3, 4, 20] (fun last sm i wr => ∃ k : Nat, k ≤ 6 ∧ i = .int .i64 k ∧ Below (w.heap.size + 1) (w.alloc (.cells p.cs 112)) wr ∧ last = .string (lastK L k).1 ∧ sm = .bool (lastK L k).2) (fun _ _ i _ => 6 - (intOf i).toNat)
  case atStart => exact ⟨0, by omega, rfl, Below.refl _ _, by rw [lastK_zero]; exact ⟨rfl, rfl⟩⟩
  case round =>
    obtain ⟨k, hk6, rfl, hb, rfl, rfl⟩ := hrel
    have hsz := hb.size
    rw [World.size_alloc] at hsz
    by_cases hlt : k < 6
    · by_cases hkL : k < L.length
      · have hidx := index6 p k hlt
        rw [HA.out k hlt, HD.out k hlt, stL_get hkL, dL_get hkL] at hidx
        have hd : L[k].d = tx L[k].key ++ L[k].rest := rfl
        rw [hd] at hidx
        have HKk := Lib.hid (HK.out k hkL)
        have HLS := Lib.hid (lastK_succ hkL)
        have hlf := HL.out _ (List.getElem_mem hkL)
        have hprev : ∀ j, (hj : j < L.length) → k = j + 1 → KLt L[j].key L[k].key := fun j hj e => by subst e; exact HR.out.next hkL
        have hemp : 0 < k → L[k].key ≠ ByteArray.empty := fun h => HR.out.full hkL h
        have hemp0 : k = 0 → L[k].key = ByteArray.empty := fun e => by subst e; exact hk00
        generalize L[k] = c at *
        obtain ⟨ck, cs, cr⟩ := c
        obtain ⟨l1, l2, ch, l3, l4, l5⟩ := hlf
        simp only at hidx HKk HLS hprev hemp hemp0 l1 l2 l5
        subst l5 l1
        have HCh := Lib.hid (fun w' => nchild_ok 1 ck ch (by decide) l2 l3 l4 w')
        have hch : (ch == 0) = false := by simp; omega
        generalize le4 ch = cr at *
        generalize hdd : tx ck ++ cr = dd at *
        clear hd hdd
        rcases lastK_any L k (by omega) with ⟨hk0, hlk⟩ | ⟨j, hj, hkj, hlk⟩
        · rw [hlk]
          clear hprev
          have hce := hemp0 hk0
          subst hce
          have hidx0 := hidx
          rw [show ((k : Nat) : Int) = 0 from by omega] at hidx0
          go_wp2_with fail
          refine (HKk.out _).mono ?_; rintro e w3 ⟨rfl, hb3⟩
          have hz3 := hb3.size
          rw [World.size_alloc] at hz3
          have RR := ((rowAt_below hb3 (by go_size)).trans ((rowAt_past _ _ _ (by omega)).trans (rowAt_below hb (n := w.heap.size) (by omega)))).trans (rowAt_at w p.cs 112 _ rfl)
          have c1 : w3.cell? ⟨w.heap.size, 1, none⟩ = some (.int .i64 lv) := (cell_row RR 1).trans (by rw [← hl]; rfl)
          have B3 : Hid (Below (w.heap.size + 1) (w.alloc (.cells p.cs 112)) w3) := Lib.hid ((hb.alloc hsz _).trans (hb3.mono (by go_size)))
          have RC := (rowAt_below hb3 (n := wr.heap.size) (by go_size)).trans (rowAt_at wr #[.int .i64 1, .string dd] 84 _ rfl)
          have c0 := cell_row RC 0
          have c01 := cell_row RC 1
          simp only [List.getElem?_toArray, List.getElem?_cons_succ, List.getElem?_cons_zero] at c0 c01
          clear hb3 RR hb
          have HLS1 := HLS.out
          rw [hk0] at HLS1
          go_wp2_with fail
          refine (HCh.out _).mono ?_; rintro e w5 ⟨rfl, hb5⟩
          have B5 : Hid (Below (w.heap.size + 1) (w.alloc (.cells p.cs 112)) w5) := Lib.hid (B3.out.trans (hb5.mono (by have := B3.out.size; rw [World.size_alloc] at this; exact this)))
          clear hb5
          go_wp2_with fail
          all_goals
            refine ⟨⟨1, by omega, rfl, B5.out, ?_⟩, ?_⟩
            · rw [HLS1]; exact ⟨rfl, rfl⟩
            · rw [hk0]; simp [intOf]
        · rw [hlk]
          have hpr := hprev j hj hkj
          have hne := sem_f (hemp (by omega))
          subst hkj
          have hidx0 := hidx
          rw [show ((j + 1 : Nat) : Int) = (j : Int) + 1 from by omega] at hidx0
          have RR0 := (rowAt_below hb (n := w.heap.size) (by omega)).trans (rowAt_at w p.cs 112 _ rfl)
          have RR1 := (rowAt_past wr (.cells #[.int .i64 1, .string dd] 84) w.heap.size (by omega)).trans RR0
          have cP := (cell_row RR1 (4 + j * 2)).trans (cs_a p j (by omega))
          rw [HA.out j (by omega), stL_get hj] at cP
          have hsj : (L[j].st == 0) = false := by simpa using (NC.inner.ok (HL.out _ (List.getElem_mem hj))).1
          generalize L[j].st = sj at *
          generalize hjk : L[j].key = jk at *
          have hcm : decide (Lib.compareBytes ck.data.toList jk.data.toList ≤ 0) = false := by simp only [decide_eq_false_iff_not]; rw [cmp_le]; exact fun h => h hpr
          have HCm := Lib.hid (fun w' => scompare ck jk w')
          generalize Lib.compareBytes ck.data.toList jk.data.toList = cmp at *
          clear hprev
          go_wp2_with fail
          refine (HKk.out _).mono ?_; rintro e w3 ⟨rfl, hb3⟩
          have hz3 := hb3.size
          rw [World.size_alloc] at hz3
          have RR := ((rowAt_below hb3 (by go_size)).trans RR1)
          have c1 : w3.cell? ⟨w.heap.size, 1, none⟩ = some (.int .i64 lv) := (cell_row RR 1).trans (by rw [← hl]; rfl)
          have B3 : Hid (Below (w.heap.size + 1) (w.alloc (.cells p.cs 112)) w3) := Lib.hid ((hb.alloc hsz _).trans (hb3.mono (by go_size)))
          have RC := (rowAt_below hb3 (n := wr.heap.size) (by go_size)).trans (rowAt_at wr #[.int .i64 1, .string dd] 84 _ rfl)
          have c0 := cell_row RC 0
          have c01 := cell_row RC 1
          simp only [List.getElem?_toArray, List.getElem?_cons_succ, List.getElem?_cons_zero] at c0 c01
          clear hb3 RR hb
          go_wp2_with fail
          refine (HCm.out _).mono ?_; rintro e w4 ⟨rfl, rfl⟩
          go_wp2_with fail
          refine (HCh.out _).mono ?_; rintro e w5 ⟨rfl, hb5⟩
          have B5 : Hid (Below (w.heap.size + 1) (w.alloc (.cells p.cs 112)) w5) := Lib.hid (B3.out.trans (hb5.mono (by have := B3.out.size; rw [World.size_alloc] at this; exact this)))
          clear hb5
          go_wp2_with fail
          all_goals
            refine ⟨⟨j + 1 + 1, by omega, by go_num, B5.out, ?_⟩, ?_⟩
            · rw [HLS.out]; exact ⟨rfl, rfl⟩
            · simp [intOf]; omega
      · have hidx := index6 p k hlt
        rw [HA.out k hlt, HD.out k hlt, stL_out (by omega), dL_out (by omega)] at hidx
        have HLP := Lib.hid (lastK_past (L := L) (k := k) (by omega))
        go_wp2_with fail
        go_roundw
        case rel =>
          refine ⟨k + 1, by omega, by go_num, hb.alloc hsz _, ?_⟩
          rw [HLP.out]; exact ⟨rfl, rfl⟩
        case measure => simp [intOf]; omega
    · have hke : k = 6 := by omega
      subst hke
      have hl6 := lastK_six hp0 h6
      have R1 := (rowAt_below hb (n := w.heap.size) (by omega)).trans (rowAt_at w p.cs 112 _ rfl)
      have HB := Lib.hid (((Below.refl w.heap.size w).alloc (Nat.le_refl _) (.cells p.cs 112)).trans (hb.mono (by omega)))
      have c1 : wr.cell? ⟨w.heap.size, 1, none⟩ = some (.int .i64 lv) := (cell_row R1 1).trans (by rw [← hl]; rfl)
      clear hb
      go_wp2_with fail
      go_ret
      exact ⟨rfl, HB.out⟩
end
end Go.Proofs.Ytljommhbhpappaa
