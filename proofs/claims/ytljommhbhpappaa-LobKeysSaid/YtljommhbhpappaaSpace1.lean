/-
  Layer 14 (space): the contracts of taken, mark, read.
-/
import Derived.Test.YtljommhbhpappaaStage3
import Derived.Lib.SlBytesRow
import Derived.Lib.ConvBytes
namespace Go.Proofs.Ytljommhbhpappaa
open Go.RowKit Go.Joins
set_option linter.unusedVariables false
set_option linter.unusedSimpArgs false

/-- a byte of a string; a page's bit in the map -/
def byteAt (d : ByteArray) (i : Nat) : Nat := (d.data.getD i 0).toNat
def bitD (d : ByteArray) (j : Nat) : Bool := (byteAt d (j / 8)).testBit (j % 8)
def bitAt (p : Pg) (id : Nat) : Bool := bitD (p.d (id / 272)) (id % 272)

theorem bit_tab : ∀ b : Fin 256, ∀ k : Fin 8, (bits .and .u8 ((b.val : Int) / 2 ^ k.val) 1 == 1) = b.val.testBit k.val := by decide +kernel
theorem bit_of (d : ByteArray) (id : Nat) (h : id % 272 / 8 < d.size) : (bits .and .u8 ((d[id % 272 / 8].toNat : Int) / 2 ^ (id % 8)) 1 == 1) = bitD d (id % 272) := by
  have e := bit_tab ⟨d[id % 272 / 8].toNat, d[id % 272 / 8].toNat_lt⟩ ⟨id % 8, Nat.mod_lt _ (by omega)⟩
  rw [e]
  unfold bitD byteAt
  have h2 : id % 272 / 8 < d.data.size := h
  rw [show id % 272 % 8 = id % 8 from by omega]
  have e2 : d.data.getD (id % 272 / 8) 0 = d[id % 272 / 8] := by
    unfold Array.getD
    rw [dif_pos h2]
    rfl
  rw [e2]

theorem cs_d (p : Pg) (k : Nat) (h : k < 6) : p.cs[4 + k * 2 + 1]? = some (.string (p.d k)) := by
  have h6 : k = 0 ∨ k = 1 ∨ k = 2 ∨ k = 3 ∨ k = 4 ∨ k = 5 := by omega
  rcases h6 with rfl | rfl | rfl | rfl | rfl | rfl <;> rfl
theorem cs_a (p : Pg) (k : Nat) (h : k < 6) : p.cs[4 + k * 2]? = some (.int .i64 (p.a k)) := by
  have h6 : k = 0 ∨ k = 1 ∨ k = 2 ∨ k = 3 ∨ k = 4 ∨ k = 5 := by omega
  rcases h6 with rfl | rfl | rfl | rfl | rfl | rfl <;> rfl

set_option maxHeartbeats 2000000 in
set_option maxRecDepth 100000 in
theorem taken_any (p : Pg) (id : Nat) (h : id < 1632) (hd : (p.d (id / 272)).size = 34) (w : World) :
    Calls Try.prog 77 #[p.v, .int .i64 id] w fun e w' => e = .returned (.bool (bitAt p id)) ∧ Below w.heap.size w w' := by
  have hcd := cs_d p (id / 272) (by omega)
  generalize hdd : p.d (id / 272) = d at *
  have HD := Lib.hid hdd
  clear hdd
  go_enter Try.func77, Try.ntmps77
  go_wp2_with fail
  go_ret
  rw [← HD.out] at hd
  have e := bit_of (p.d (id / 272)) id (by rw [hd]; omega)
  simp only [HD.out] at e
  exact ⟨by rw [bitAt, HD.out, ← e]; rfl, (Below.refl _ _).alloc (Nat.le_refl _) _⟩

/-- a byte of a map with a page's bit set, or not -/
def setByte (x k : Nat) (yes : Bool) : Nat := if yes then x ||| 2 ^ k else x &&& (255 - 2 ^ k)
def markD (d : ByteArray) (j : Nat) (yes : Bool) : ByteArray := ⟨d.data.setIfInBounds (j / 8) (UInt8.ofNat (setByte (byteAt d (j / 8)) (j % 8) yes))⟩
def Pg.setD (p : Pg) (k : Nat) (d : ByteArray) : Pg :=
  match k with
  | 0 => { p with d0 := d }
  | 1 => { p with d1 := d }
  | 2 => { p with d2 := d }
  | 3 => { p with d3 := d }
  | 4 => { p with d4 := d }
  | _ => { p with d5 := d }
def markPg (p : Pg) (id : Nat) (yes : Bool) : Pg := p.setD (id / 272) (markD (p.d (id / 272)) (id % 272) yes)

theorem byteAt_in (d : ByteArray) (i : Nat) (h : i < d.size) : byteAt d i = d[i].toNat := by
  have h2 : i < d.data.size := h
  unfold byteAt Array.getD
  rw [dif_pos h2]
  rfl
theorem mk_size (d : ByteArray) (i : Nat) (u : UInt8) : (ByteArray.mk (d.data.setIfInBounds i u)).size = d.size := Array.size_setIfInBounds
theorem toBytes (d : ByteArray) (W : World) : ∃ cap W', (convert 9 106 (.string d)).run Try.prog W = .ok (.slice (some ⟨W.heap.size, 0, none⟩) d.size cap) W' ∧ Below W.heap.size W W' ∧ W'.heap.size = W.heap.size + 1 ∧ Lib.Bytes W' W.heap.size 0 d ∧ ∀ j, j < d.size → W'.frozen? ⟨W.heap.size, j, none⟩ = false := by
  refine ⟨_, _, Go.run_bytes_of_string (P := Try.prog) W 9 106 5 d Try.underlying9 Try.underlying106 Try.underlying5, ?_, ?_, ?_, ?_⟩
  · exact ((Below.refl W.heap.size W).drew.alloc (Nat.le_refl _) _)
  · simp
  · intro i hi
    refine (World.cell?_alloc_mark W.drew _ _ _ _).trans ?_
    rw [Nat.zero_add]
    have h2 : i < d.data.size := hi
    simp only [bytesRow, Array.getElem?_append, Array.size_map, h2, if_true, Array.getElem?_map]
    rw [Array.getElem?_eq_getElem h2]
    rfl
  · intro j hj
    refine (World.frozen?_alloc_mark W.drew _ _ _ _ _).trans ?_
    have h2 : j < d.data.size := hj
    have : ¬ (bytesRow d (grownCap W d.size 0 5)).size ≤ j := by
      simp only [bytesRow, Array.size_append, Array.size_map]; omega
    simp [this]

theorem bytes_set {W : World} {n : Nat} {d : ByteArray} (h : Lib.Bytes W n 0 d) (i : Nat) (u : UInt8) : Lib.Bytes (W.setCell ⟨n, i, none⟩ (.int .u8 (u.toNat : Int))) n 0 ⟨d.data.setIfInBounds i u⟩ := by
  intro j hj
  have hj2 : j < d.size := by
    have e : (ByteArray.mk (d.data.setIfInBounds i u)).size = d.size := Array.size_setIfInBounds
    rw [e] at hj
    exact hj
  have e := h j hj2
  rw [Nat.zero_add] at e ⊢
  by_cases hij : i = j
  · subst hij
    rw [World.cell?_setCell_same _ _ _ e]
    simp [ByteArray.getElem_eq_getElem_data]
  · rw [World.cell?_setCell_other _ _ _ _ (by simp [hij]), e]
    have e3 : (ByteArray.mk (d.data.setIfInBounds i u))[j]'hj = d[j]'hj2 := Array.getElem_setIfInBounds_ne (xs := d.data) (i := i) hj2 hij
    rw [e3]
theorem back_of {W : World} {n : Nat} {d : ByteArray} (hB : Lib.Bytes W n 0 d) (h34 : d.size = 34) (cap : Nat) : (convert 106 9 (.slice (some ⟨n, 0, none⟩) 34 cap)).run Try.prog W = .ok (.string d) W := by
  rw [← h34]
  exact Lib.run_convert_whole W _ _ _ Try.underlying106 Try.underlying5 Try.underlying9 n 0 d hB cap
theorem below_setCell {B : Nat} {w w' : World} (h : Below B w w') (a : Addr) (v : Value) (ha : B ≤ a.block) : Below B w (w'.setCell a v) :=
  ⟨h.os, h.tape, h.output, by simpa [World.setCell] using h.size, fun i hi => by
    rw [← h.block i hi]
    have hne : ¬ a.block = i := by omega
    simp only [World.setCell, Array.getElem?_modify, hne, if_false]⟩
theorem rowAt_setCell_far (W : World) (a : Addr) (v : Value) (n : Nat) (h : a.block ≠ n) : rowAt (W.setCell a v) n = rowAt W n := by
  unfold rowAt World.setCell
  simp only [Array.getElem?_modify, h, if_false]
theorem rowAt_setCell_here (W : World) (n i : Nat) (v : Value) (c : Array Value) (h : rowAt W n = some c) : rowAt (W.setCell ⟨n, i, none⟩ v) n = some (c.setIfInBounds i v) := by
  obtain ⟨t, ht⟩ := rowAt_heap h
  unfold rowAt World.setCell
  simp [Array.getElem?_modify, ht]
theorem cs_setD (p : Pg) (k : Nat) (h : k < 6) (x : ByteArray) : p.cs.setIfInBounds (4 + k * 2 + 1) (.string x) = (p.setD k x).cs := by
  have h6 : k = 0 ∨ k = 1 ∨ k = 2 ∨ k = 3 ∨ k = 4 ∨ k = 5 := by omega
  rcases h6 with rfl | rfl | rfl | rfl | rfl | rfl <;> rfl
theorem cell_row {W : World} {n : Nat} {c : Array Value} (h : rowAt W n = some c) (i : Nat) : W.cell? ⟨n, i, none⟩ = c[i]? := by
  obtain ⟨t, ht⟩ := rowAt_heap h
  exact cell_of_block ht i
theorem frozen_row {W : World} {n : Nat} {c : Array Value} (h : rowAt W n = some c) (i : Nat) : W.frozen? ⟨n, i, none⟩ = false := by
  obtain ⟨t, ht⟩ := rowAt_heap h
  simp [World.frozen?, ht]

theorem not_tab : ∀ b : Fin 256, ∀ k : Fin 8, bits .andNot .u8 (b.val : Int) (2 ^ k.val % 256) = ((UInt8.ofNat (setByte b.val k.val false)).toNat : Int) := by decide +kernel
theorem or_tab : ∀ b : Fin 256, ∀ k : Fin 8, bits .or .u8 (bits .andNot .u8 (b.val : Int) (2 ^ k.val % 256)) (2 ^ k.val % 256) = ((UInt8.ofNat (setByte b.val k.val true)).toNat : Int) := by decide +kernel

set_option maxHeartbeats 2000000 in
set_option maxRecDepth 100000 in
theorem mark_yes (p : Pg) (id : Nat) (h : id < 1632) (hd : (p.d (id / 272)).size = 34) (w : World) :
    Calls Try.prog 71 #[p.v, .int .i64 id, .bool true] w fun e w' => e = .returned (markPg p id true).v ∧ Below w.heap.size w w' := by
  have hcd := cs_d p (id / 272) (by omega)
  generalize hdd : p.d (id / 272) = d at *
  have HD := Lib.hid hdd
  clear hdd
  obtain ⟨cap, W3, hcv, hb3, hs3, hy3, hf3⟩ := toBytes d ((w.alloc (.cells p.cs 112)).alloc (.cells Pg.zero.cs 112))
  simp only [World.size_alloc] at hcv hb3 hs3 hy3 hf3
  have hj : id % 272 / 8 < d.size := by omega
  have c1 := hy3 _ hj
  have f1 := hf3 _ hj
  rw [Nat.zero_add] at c1
  have r0 : rowAt W3 w.heap.size = some p.cs := (rowAt_below hb3 (by go_size)).trans (by simp [go_sem])
  have r1 : rowAt W3 (w.heap.size + 1) = some Pg.zero.cs := (rowAt_below hb3 (by go_size)).trans (by simp [go_sem])
  have c0 : W3.cell? ⟨w.heap.size, 4 + id / 272 * 2 + 1, none⟩ = some (.string d) := (cell_row r0 _).trans hcd
  have f0 := frozen_row r0 (4 + id / 272 * 2 + 1)
  have hbt := d[id % 272 / 8].toNat_lt
  have e1 := not_tab ⟨d[id % 272 / 8].toNat, hbt⟩ ⟨id % 8, Nat.mod_lt _ (by omega)⟩
  have e2 := or_tab ⟨d[id % 272 / 8].toNat, hbt⟩ ⟨id % 8, Nat.mod_lt _ (by omega)⟩
  simp only at e1 e2
  generalize hu1 : UInt8.ofNat (setByte d[id % 272 / 8].toNat (id % 8) false) = u1 at *
  generalize hu2 : UInt8.ofNat (setByte d[id % 272 / 8].toNat (id % 8) true) = u2 at *
  rw [e1] at e2
  have hB1 := bytes_set (bytes_set hy3 (id % 272 / 8) u1) (id % 272 / 8) u2
  have hcb := back_of (W := ((W3.setCell ⟨w.heap.size + 1 + 1, id % 272 / 8, none⟩ (.int .u8 (u1.toNat : Int))).setCell ⟨w.heap.size + 1 + 1, id % 272 / 8, none⟩ (.int .u8 (u2.toNat : Int))).drew.drew) hB1 (by rw [mk_size, mk_size, hd]) cap
  have e3 : (ByteArray.mk ((ByteArray.mk (d.data.setIfInBounds (id % 272 / 8) u1)).data.setIfInBounds (id % 272 / 8) u2)) = markD d (id % 272) true := by
    unfold markD
    rw [Array.setIfInBounds_setIfInBounds, ← hu2, byteAt_in d _ hj, show id % 272 % 8 = id % 8 from by omega]
  rw [e3] at hcb
  generalize hm2 : markD d (id % 272) true = d2 at *
  have R0 := (rowAt_setCell_far (W3.setCell ⟨w.heap.size + 1 + 1, id % 272 / 8, none⟩ (.int .u8 (u1.toNat : Int))) ⟨w.heap.size + 1 + 1, id % 272 / 8, none⟩ (.int .u8 (u2.toNat : Int)) w.heap.size (by simp; omega)).trans ((rowAt_setCell_far W3 ⟨w.heap.size + 1 + 1, id % 272 / 8, none⟩ (.int .u8 (u1.toNat : Int)) w.heap.size (by simp; omega)).trans r0)
  have A1 : (⟨w.heap.size + 1 + 1, id % 272 / 8, none⟩ : Addr).block ≠ w.heap.size + 1 := by simp
  have R1 := (rowAt_setCell_far (W3.setCell ⟨w.heap.size + 1 + 1, id % 272 / 8, none⟩ (.int .u8 (u1.toNat : Int))) ⟨w.heap.size + 1 + 1, id % 272 / 8, none⟩ (.int .u8 (u2.toNat : Int)) (w.heap.size + 1) A1).trans ((rowAt_setCell_far W3 ⟨w.heap.size + 1 + 1, id % 272 / 8, none⟩ (.int .u8 (u1.toNat : Int)) (w.heap.size + 1) A1).trans r1)
  have R2 := (rowAt_setCell_here _ _ (4 + id / 272 * 2 + 1) (.string d2) _ R0).trans (congrArg some (cs_setD p (id / 272) (by omega) d2))
  have R3 := (rowAt_setCell_far _ ⟨w.heap.size, 4 + id / 272 * 2 + 1, none⟩ (.string d2) (w.heap.size + 1) (by simp)).trans R1
  have B1 := below_setCell (below_setCell (below_setCell ((((Below.refl w.heap.size w).alloc (Nat.le_refl _) (.cells p.cs 112)).alloc (by go_size) (.cells Pg.zero.cs 112)).trans (hb3.mono (by omega))) ⟨w.heap.size + 1 + 1, id % 272 / 8, none⟩ (.int .u8 (u1.toNat : Int)) (by simp; omega)) ⟨w.heap.size + 1 + 1, id % 272 / 8, none⟩ (.int .u8 (u2.toNat : Int)) (by simp; omega)) ⟨w.heap.size, 4 + id / 272 * 2 + 1, none⟩ (.string d2) (by simp)
  clear A1 R0 R1
  have HB1 := Lib.hid B1
  have HB := Lib.hid hb3
  clear B1
  have HF := Lib.hid hf3
  have HM2 := Lib.hid hm2
  clear hb3 hy3 hf3 hu1 hu2 hbt hB1 e3 hm2
  rw [hd] at hcv
  go_enter Try.func71, Try.ntmps71
  go_wp2_with fail
  go_region
  go_wp2_with fail
  go_region
  go_wp2_with fail
  refine ret_page1 rfl rfl (w.heap.size + 1) (p.setD (id / 272) d2) rfl (by simp [go_sem, R2, R3]) ⟨?_, ?_⟩
  · rw [markPg, HD.out, HM2.out]
  · exact below_setRow (HB1.out.drew.drew) _ (by omega)
set_option maxHeartbeats 2000000 in
set_option maxRecDepth 100000 in
theorem mark_no (p : Pg) (id : Nat) (h : id < 1632) (hd : (p.d (id / 272)).size = 34) (w : World) :
    Calls Try.prog 71 #[p.v, .int .i64 id, .bool false] w fun e w' => e = .returned (markPg p id false).v ∧ Below w.heap.size w w' := by
  have hcd := cs_d p (id / 272) (by omega)
  generalize hdd : p.d (id / 272) = d at *
  have HD := Lib.hid hdd
  clear hdd
  obtain ⟨cap, W3, hcv, hb3, hs3, hy3, hf3⟩ := toBytes d ((w.alloc (.cells p.cs 112)).alloc (.cells Pg.zero.cs 112))
  simp only [World.size_alloc] at hcv hb3 hs3 hy3 hf3
  have hj : id % 272 / 8 < d.size := by omega
  have c1 := hy3 _ hj
  have f1 := hf3 _ hj
  rw [Nat.zero_add] at c1
  have r0 : rowAt W3 w.heap.size = some p.cs := (rowAt_below hb3 (by go_size)).trans (by simp [go_sem])
  have r1 : rowAt W3 (w.heap.size + 1) = some Pg.zero.cs := (rowAt_below hb3 (by go_size)).trans (by simp [go_sem])
  have c0 : W3.cell? ⟨w.heap.size, 4 + id / 272 * 2 + 1, none⟩ = some (.string d) := (cell_row r0 _).trans hcd
  have f0 := frozen_row r0 (4 + id / 272 * 2 + 1)
  have hbt := d[id % 272 / 8].toNat_lt
  have e1 := not_tab ⟨d[id % 272 / 8].toNat, hbt⟩ ⟨id % 8, Nat.mod_lt _ (by omega)⟩
  simp only at e1
  generalize hu1 : UInt8.ofNat (setByte d[id % 272 / 8].toNat (id % 8) false) = u1 at *
  have hB1 := bytes_set hy3 (id % 272 / 8) u1
  have hcb := back_of (W := (W3.setCell ⟨w.heap.size + 1 + 1, id % 272 / 8, none⟩ (.int .u8 (u1.toNat : Int))).drew) hB1 (by rw [mk_size, hd]) cap
  have e3 : (ByteArray.mk (d.data.setIfInBounds (id % 272 / 8) u1)) = markD d (id % 272) false := by
    unfold markD
    rw [← hu1, byteAt_in d _ hj, show id % 272 % 8 = id % 8 from by omega]
  rw [e3] at hcb
  generalize hm2 : markD d (id % 272) false = d2 at *
  have R0 := (rowAt_setCell_far W3 ⟨w.heap.size + 1 + 1, id % 272 / 8, none⟩ (.int .u8 (u1.toNat : Int)) w.heap.size (by simp; omega)).trans r0
  have A1 : (⟨w.heap.size + 1 + 1, id % 272 / 8, none⟩ : Addr).block ≠ w.heap.size + 1 := by simp
  have R1 := (rowAt_setCell_far W3 ⟨w.heap.size + 1 + 1, id % 272 / 8, none⟩ (.int .u8 (u1.toNat : Int)) (w.heap.size + 1) A1).trans r1
  have R2 := (rowAt_setCell_here _ _ (4 + id / 272 * 2 + 1) (.string d2) _ R0).trans (congrArg some (cs_setD p (id / 272) (by omega) d2))
  have R3 := (rowAt_setCell_far _ ⟨w.heap.size, 4 + id / 272 * 2 + 1, none⟩ (.string d2) (w.heap.size + 1) (by simp)).trans R1
  have B1 := below_setCell (below_setCell ((((Below.refl w.heap.size w).alloc (Nat.le_refl _) (.cells p.cs 112)).alloc (by go_size) (.cells Pg.zero.cs 112)).trans (hb3.mono (by omega))) ⟨w.heap.size + 1 + 1, id % 272 / 8, none⟩ (.int .u8 (u1.toNat : Int)) (by simp; omega)) ⟨w.heap.size, 4 + id / 272 * 2 + 1, none⟩ (.string d2) (by simp)
  clear A1 R0 R1
  have HB1 := Lib.hid B1
  have HB := Lib.hid hb3
  clear B1
  have HF := Lib.hid hf3
  have HM2 := Lib.hid hm2
  clear hb3 hy3 hf3 hu1 hbt hB1 e3 hm2
  rw [hd] at hcv
  go_enter Try.func71, Try.ntmps71
  go_wp2_with fail
  go_region
  go_wp2_with fail
  refine ret_page1 rfl rfl (w.heap.size + 1) (p.setD (id / 272) d2) rfl (by simp [go_sem, R2, R3]) ⟨?_, ?_⟩
  · rw [markPg, HD.out, HM2.out]
  · exact below_setRow (HB1.out.drew) _ (by omega)
/-- a page's bit is set, or taken out -/
theorem mark_any (p : Pg) (id : Nat) (yes : Bool) (h : id < 1632) (hd : (p.d (id / 272)).size = 34) (w : World) :
    Calls Try.prog 71 #[p.v, .int .i64 id, .bool yes] w fun e w' => e = .returned (markPg p id yes).v ∧ Below w.heap.size w w' := by
  cases yes
  · exact mark_no p id h hd w
  · exact mark_yes p id h hd w
end Go.Proofs.Ytljommhbhpappaa
