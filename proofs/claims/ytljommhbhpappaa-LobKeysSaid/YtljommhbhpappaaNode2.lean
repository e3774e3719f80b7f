/-
  Layers 1 and 5: a reader over any bytes; a cell's key and what stands behind it; an inner cell's child.
-/
import Derived.Test.YtljommhbhpappaaSpace13
namespace Go.Proofs.Ytljommhbhpappaa
open Go.RowKit Go.Joins
set_option linter.unusedVariables false
set_option linter.unusedSimpArgs false

/-- a text with its length ahead -/
def tx (k : ByteArray) : ByteArray := ⟨#[UInt8.ofNat k.size]⟩ ++ k
theorem tx_size (k : ByteArray) : (tx k).size = k.size + 1 := by
  unfold tx
  rw [ByteArray.size_append]
  show 1 + k.size = _
  omega
theorem tx_ext1 (k r : ByteArray) : (tx k ++ r).extract 0 1 = ⟨#[UInt8.ofNat k.size]⟩ := by
  unfold tx
  rw [ByteArray.append_assoc]
  exact ByteArray.extract_append_eq_left rfl
theorem tx_ext2 (k r : ByteArray) : (tx k ++ r).extract 1 (tx k ++ r).size = k ++ r := by
  unfold tx
  rw [ByteArray.append_assoc, ByteArray.size_append]
  exact ByteArray.extract_append_eq_right rfl rfl
theorem ext_left (k r : ByteArray) : (k ++ r).extract 0 k.size = k := ByteArray.extract_append_eq_left rfl
theorem ext_right (k r : ByteArray) : (k ++ r).extract k.size (k ++ r).size = r := by
  rw [ByteArray.size_append]
  exact ByteArray.extract_append_eq_right rfl rfl
theorem ext_all (k : ByteArray) : k.extract 0 k.size = k := by simp
theorem ext_end (k : ByteArray) : k.extract k.size k.size = ByteArray.empty := by simp

/-- a reader in memory -/
def RdAt (w : World) (n : Nat) (s : ByteArray) : Prop := w.heap[n]? = some (.cells #[.string s, .bool false] 197)
theorem RdAt.lt {w : World} {n : Nat} {s : ByteArray} (h : RdAt w n s) : n < w.heap.size := (Array.getElem?_eq_some_iff.1 h).1
theorem RdAt.below {w w' : World} {n : Nat} {s : ByteArray} (h : RdAt w n s) (hb : Below w.heap.size w w') : RdAt w' n s := (hb.block n h.lt).trans h
theorem grown_size {w w1 : World} {r : Option Nat} (h : w.grownBy w1 r) : w.heap.size ≤ w1.heap.size := by
  obtain ⟨a1, a2, a3, a4, a5⟩ := h
  exact a4
theorem grown_trans {w w1 w2 : World} {r : Option Nat} (h : w.grownBy w1 r) (k : w1.grownBy w2 r) : w.grownBy w2 r := by
  obtain ⟨a1, a2, a3, a4, a5⟩ := h
  obtain ⟨b1, b2, b3, b4, b5⟩ := k
  exact ⟨b1.trans a1, b2.trans a2, b3.trans a3, Nat.le_trans a4 b4, fun i hi hn => (b5 i (Nat.lt_of_lt_of_le hi a4) hn).trans (a5 i hi hn)⟩
theorem grown_setCell (w : World) (n i : Nat) (v : Value) : w.grownBy (w.setCell ⟨n, i, none⟩ v) (some n) :=
  ⟨rfl, rfl, rfl, by rw [World.size_setCell]; exact Nat.le_refl _, fun j hj hn => by
    have : n ≠ j := fun e => hn (by rw [e])
    simp [World.setCell, Array.getElem?_modify, this]⟩

set_option maxHeartbeats 2000000 in
/-- Reader.Bytes, where so many are left -/
theorem rbytes (s : ByteArray) (i : Nat) (hi : i ≤ s.size) (hs : s.size < 1000000) (a r : ByteArray) (ha : s.extract 0 i = a) (hr : s.extract i s.size = r) (w : World) (n : Nat) (h : RdAt w n s) :
    Calls Try.prog 112 #[.pointer (some ⟨n, 0, none⟩), .int .i64 i] w fun e w' => e = .returned (.string a) ∧ w.grownBy w' (some n) ∧ RdAt w' n r := by
  have c0 := cell_of_block h 0
  have c1 := cell_of_block h 1
  simp only [List.getElem?_toArray, List.getElem?_cons_succ, List.getElem?_cons_zero] at c0 c1
  have f0 : w.frozen? ⟨n, 0, none⟩ = false := by unfold RdAt at h; simp [World.frozen?, h]
  have HS := Lib.hid (setCell_block h 0 (.string r))
  clear h
  go_enter Try.func112, Try.ntmps112
  go_wp2
  go_ret
  subst ha hr
  exact ⟨rfl, grown_setCell _ _ _ _, HS.out⟩

set_option maxHeartbeats 2000000 in
/-- Reader.Num of one byte -/
theorem rbyte (s : ByteArray) (b0 : UInt8) (r : ByteArray) (h0 : s.extract 0 1 = ⟨#[b0]⟩) (h1 : s.extract 1 s.size = r) (hz : 1 ≤ s.size) (hs : s.size < 1000000) (w : World) (n : Nat) (h : RdAt w n s) :
    Calls Try.prog 95 #[.pointer (some ⟨n, 0, none⟩), .int .i64 1] w fun e w' => e = .returned (.int .u64 b0.toNat) ∧ w.grownBy w' (some n) ∧ RdAt w' n r := by
  have H := Lib.hid (rbytes s 1 hz hs _ _ h0 h1 w n h)
  clear h h0 h1 hz
  go_enter Try.func95, Try.ntmps95
  go_wp2_with fail
  refine (H.out).mono ?_; rintro e w1 ⟨rfl, g1, r1⟩
  go_wp2_with fail
  refine (val1 b0 _).mono ?_; rintro e w2 ⟨rfl, hb2⟩
  go_wp2_with fail
  go_ret
  exact ⟨rfl, grown_below' g1 (hb2.mono (grown_size g1)), r1.below hb2⟩

set_option maxHeartbeats 2000000 in
/-- Reader.Text -/
theorem rtext (k r : ByteArray) (hk : k.size < 256) (hr : r.size < 1000) (w : World) (n : Nat) (h : RdAt w n (tx k ++ r)) :
    Calls Try.prog 111 #[.pointer (some ⟨n, 0, none⟩)] w fun e w' => e = .returned (.string k) ∧ w.grownBy w' (some n) ∧ RdAt w' n r := by
  have hsz : (tx k ++ r).size = k.size + 1 + r.size := by rw [ByteArray.size_append, tx_size]
  have H0 := Lib.hid (rbyte (tx k ++ r) (UInt8.ofNat k.size) (k ++ r) (tx_ext1 k r) (tx_ext2 k r) (by omega) (by omega) w n h)
  have hu : ((UInt8.ofNat k.size).toNat : Int) = (k.size : Int) := by
    rw [UInt8.toNat_ofNat']; omega
  rw [hu] at H0
  have hz2 : (k ++ r).size = k.size + r.size := by rw [ByteArray.size_append]
  have H1 := Lib.hid (fun w' (h' : RdAt w' n (k ++ r)) => rbytes (k ++ r) k.size (by omega) (by omega) _ _ (ext_left k r) (ext_right k r) w' n h')
  have hk2 : ((k.size : Nat) : Int) < 9223372036854775808 := by omega
  clear h hu hz2 hsz
  go_enter Try.func111, Try.ntmps111
  go_wp2_with fail
  refine (H0.out).mono ?_; rintro e w1 ⟨rfl, g1, r1⟩
  have R1 := Lib.hid r1
  clear r1
  go_wp2_with fail
  refine (H1.out _ R1.out).mono ?_; rintro e w2 ⟨rfl, g2, r2⟩
  go_wp2_with fail
  go_ret
  exact ⟨rfl, grown_trans g1 g2, r2⟩

theorem results_tmp3 {fn : Func} {p q u : Tmp} (h : fn.results = #[.tmp p, .tmp q, .tmp u]) (tmps : Array Value) (P : Program) (w : World) :
    (results fn tmps).run P w = .ok (.tuple #[tmps.getD p undef, tmps.getD q undef, tmps.getD u undef]) w := by
  simp only [results, h]
  simp [Sem.run_bind, Result.andThen]
/-- the end of a function that hands back three numbers -/
theorem ret_tmp3 {P : Program} {fn : Func} {R : Ending → World → Prop} {a : Act} {w : World} {p q u : Tmp} (h : fn.results = #[.tmp p, .tmp q, .tmp u]) (hd : a.defers = [])
    (hR : R (.returned (.tuple #[a.tmps.getD p undef, a.tmps.getD q undef, a.tmps.getD u undef])) w) : bodyPost P fn R .ret a w :=
  bodyPost_ret (results_tmp3 h a.tmps P w) hd hR

set_option maxHeartbeats 2000000 in
/-- a cell's key, and what stands behind it -/
theorem key_ok (st : Int) (k r : ByteArray) (hst : st ≠ 0) (hk : k.size ≤ 8) (hr : r.size < 1000) (w : World) :
    Calls Try.prog 89 #[.agg #[.int .i64 st, .string (tx k ++ r)]] w fun e w' => e = .returned (.tuple #[.string k, .string r, .bool true]) ∧ Below w.heap.size w w' := by
  have hs0 : (st == 0) = false := by simp [hst]
  have hk8 : decide ((8 : Int) < (k.size : Int)) = false := by simp; omega
  have HT := Lib.hid (fun w' n h => rtext k r (by omega) hr w' n h)
  have HB := Lib.hid (fun w' n h => rbytes r r.size (Nat.le_refl _) (by omega) _ _ (ext_all r) (ext_end r) w' n h)
  generalize hd : tx k ++ r = d at *
  clear hd hst
  go_enter Try.func89, Try.ntmps89
  go_wp2_with fail
  refine (reader_any _ _).mono ?_; rintro e w2 ⟨rfl, rfl⟩
  have R0 : Hid (RdAt ((w.alloc (.cells #[.int .i64 st, .string d] 84)).alloc (.cells #[.string d, .bool false] 197)) (w.heap.size + 1) d) := Lib.hid (by
    have := heap_alloc_new (w.alloc (.cells #[.int .i64 st, .string d] 84)) (.cells #[.string d, .bool false] 197)
    rw [World.size_alloc] at this
    exact this)
  have B0 : Hid (Below w.heap.size w ((w.alloc (.cells #[.int .i64 st, .string d] 84)).alloc (.cells #[.string d, .bool false] 197))) := Lib.hid (((Below.refl _ _).alloc (Nat.le_refl _) _).alloc (by go_size) _)
  go_wp2_with fail
  refine (HT.out _ _ R0.out).mono ?_; rintro e w3 ⟨rfl, g3, r3⟩
  have K3 : Hid (Below w.heap.size w w3) := Lib.hid (B0.out.grown g3 B0.out.size (fun q hq => by cases hq; omega))
  have R3 := Lib.hid r3
  have c0 := cell_of_block r3 0
  have c1 := cell_of_block r3 1
  simp only [List.getElem?_toArray, List.getElem?_cons_succ, List.getElem?_cons_zero] at c0 c1
  have hz3 := K3.out.size
  have f0 : w3.frozen? ⟨w.heap.size + 1, 0, none⟩ = false := by unfold RdAt at r3; simp [World.frozen?, r3]
  clear g3 r3
  go_wp2
  exact ret_tmp3 rfl rfl ⟨rfl, below_setCell K3.out _ _ (by simp)⟩
end Go.Proofs.Ytljommhbhpappaa
