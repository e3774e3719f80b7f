/-
  Several texts in one: Space1, Space2, Space3, Octet14, Reader, Space4, Space5.
-/
import Derived.Test.YtljommhbhpappaaPkStage
import Derived.Lib.SlBytesRow
import Derived.Lib.ConvBytes
import Derived.WalkKit
import Derived.WalkSpells
import Derived.WalkLawsBesides
import Derived.BigQuiet
import Derived.Deep.QuietTactic
import Derived.Lib.Hide
import Derived.Laws.BitsAllLaws
namespace Go.Proofs.Ytljommhbhpappaa
/-!
  Layer 14 (space): the contracts of taken, mark, read.
-/
section
open Go.RowKit Go.Joins
set_option linter.unusedVariables false
set_option linter.unusedSimpArgs false

/-- a byte of a string; a page's bit in the map -/
def byteAt (d : ByteArray) (i : Nat) : Nat := (d.data.getD i 0).toNat
def bitD (d : ByteArray) (j : Nat) : Bool := (byteAt d (j / 8)).testBit (j % 8)
def bitAt (p : Pg) (id : Nat) : Bool := bitD (p.d (id / 272)) (id % 272)

theorem bit_tab : ∀ b : Fin 256, ∀ k : Fin 8, (bits .and .u8 ((b.val : Int) / 2 ^ k.val) 1 == 1) = b.val.testBit k.val := by decide +kernel
theorem bit_of (d : ByteArray) (id : Nat) (h : id % 272 / 8 < d.size) : (bits .and .u8 ((d[id % 272 / 8].toNat : Int) / 2 ^ (id % 8)) 1 == 1) = bitD d (id % 272) := by
  have e := bit_tab ⟨d[id % 272 / 8].toNat, d[id % 272 / 8].toNat_lt⟩ ⟨id % 8, Nat.mod_lt _ (by omega)⟩
  rw [e]
  unfold bitD byteAt
  have h2 : id % 272 / 8 < d.data.size := h
  rw [show id % 272 % 8 = id % 8 from by omega]
  have e2 : d.data.getD (id % 272 / 8) 0 = d[id % 272 / 8] := by
    unfold Array.getD
    rw [dif_pos h2]
    rfl
  rw [e2]

theorem cs_d (p : Pg) (k : Nat) (h : k < 6) : p.cs[4 + k * 2 + 1]? = some (.string (p.d k)) := by
  have h6 : k = 0 ∨ k = 1 ∨ k = 2 ∨ k = 3 ∨ k = 4 ∨ k = 5 := by omega
  rcases h6 with rfl | rfl | rfl | rfl | rfl | rfl <;> rfl
theorem cs_a (p : Pg) (k : Nat) (h : k < 6) : p.cs[4 + k * 2]? = some (.int .i64 (p.a k)) := by
  have h6 : k = 0 ∨ k = 1 ∨ k = 2 ∨ k = 3 ∨ k = 4 ∨ k = 5 := by omega
  rcases h6 with rfl | rfl | rfl | rfl | rfl | rfl <;> rfl

set_option maxHeartbeats 2000000 in
set_option maxRecDepth 100000 in
theorem taken_any (p : Pg) (id : Nat) (h : id < 1632) (hd : (p.d (id / 272)).size = 34) (w : World) :
    Calls Try.prog 77 #[p.v, .int .i64 id] w fun e w' => e = .returned (.bool (bitAt p id)) ∧ Below w.heap.size w w' := by
  have hcd := cs_d p (id / 272) (by omega)
  generalize hdd : p.d (id / 272) = d at *
  have HD := Lib.hid hdd
  clear hdd
  go_enter Try.func77, Try.ntmps77
  go_wp2_with fail
  go_ret
  rw [← HD.out] at hd
  have e := bit_of (p.d (id / 272)) id (by rw [hd]; omega)
  simp only [HD.out] at e
  exact ⟨by rw [bitAt, HD.out, ← e]; rfl, (Below.refl _ _).alloc (Nat.le_refl _) _⟩

/-- a byte of a map with a page's bit set, or not -/
def setByte (x k : Nat) (yes : Bool) : Nat := if yes then x ||| 2 ^ k else x &&& (255 - 2 ^ k)
def markD (d : ByteArray) (j : Nat) (yes : Bool) : ByteArray := ⟨d.data.setIfInBounds (j / 8) (UInt8.ofNat (setByte (byteAt d (j / 8)) (j % 8) yes))⟩
def Pg.setD (p : Pg) (k : Nat) (d : ByteArray) : Pg :=
  match k with
  | 0 => { p with d0 := d }
  | 1 => { p with d1 := d }
  | 2 => { p with d2 := d }
  | 3 => { p with d3 := d }
  | 4 => { p with d4 := d }
  | _ => { p with d5 := d }
def markPg (p : Pg) (id : Nat) (yes : Bool) : Pg := p.setD (id / 272) (markD (p.d (id / 272)) (id % 272) yes)

theorem byteAt_in (d : ByteArray) (i : Nat) (h : i < d.size) : byteAt d i = d[i].toNat := by
  have h2 : i < d.data.size := h
  unfold byteAt Array.getD
  rw [dif_pos h2]
  rfl
theorem mk_size (d : ByteArray) (i : Nat) (u : UInt8) : (ByteArray.mk (d.data.setIfInBounds i u)).size = d.size := Array.size_setIfInBounds
theorem toBytes (d : ByteArray) (W : World) : ∃ cap W', (convert 9 106 (.string d)).run Try.prog W = .ok (.slice (some ⟨W.heap.size, 0, none⟩) d.size cap) W' ∧ Below W.heap.size W W' ∧ W'.heap.size = W.heap.size + 1 ∧ Lib.Bytes W' W.heap.size 0 d ∧ ∀ j, j < d.size → W'.frozen? ⟨W.heap.size, j, none⟩ = false := by
  refine ⟨_, _, Go.run_bytes_of_string (P := Try.prog) W 9 106 5 d Try.underlying9 Try.underlying106 Try.underlying5, ?_, ?_, ?_, ?_⟩
  · exact ((Below.refl W.heap.size W).drew.alloc (Nat.le_refl _) _)
  · simp
  · intro i hi
    refine (World.cell?_alloc_mark W.drew _ _ _ _).trans ?_
    rw [Nat.zero_add]
    have h2 : i < d.data.size := hi
    simp only [bytesRow, Array.getElem?_append, Array.size_map, h2, if_true, Array.getElem?_map]
    rw [Array.getElem?_eq_getElem h2]
    rfl
  · intro j hj
    refine (World.frozen?_alloc_mark W.drew _ _ _ _ _).trans ?_
    have h2 : j < d.data.size := hj
    have : ¬ (bytesRow d (grownCap W d.size 0 5)).size ≤ j := by
      simp only [bytesRow, Array.size_append, Array.size_map]; omega
    simp [this]

theorem bytes_set {W : World} {n : Nat} {d : ByteArray} (h : Lib.Bytes W n 0 d) (i : Nat) (u : UInt8) : Lib.Bytes (W.setCell ⟨n, i, none⟩ (.int .u8 (u.toNat : Int))) n 0 ⟨d.data.setIfInBounds i u⟩ := by
  intro j hj
  have hj2 : j < d.size := by
    have e : (ByteArray.mk (d.data.setIfInBounds i u)).size = d.size := Array.size_setIfInBounds
    rw [e] at hj
    exact hj
  have e := h j hj2
  rw [Nat.zero_add] at e ⊢
  by_cases hij : i = j
  · subst hij
    rw [World.cell?_setCell_same _ _ _ e]
    simp [ByteArray.getElem_eq_getElem_data]
  · rw [World.cell?_setCell_other _ _ _ _ (by simp [hij]), e]
    have e3 : (ByteArray.mk (d.data.setIfInBounds i u))[j]'hj = d[j]'hj2 := Array.getElem_setIfInBounds_ne (xs := d.data) (i := i) hj2 hij
    rw [e3]
theorem back_of {W : World} {n : Nat} {d : ByteArray} (hB : Lib.Bytes W n 0 d) (h34 : d.size = 34) (cap : Nat) : (convert 106 9 (.slice (some ⟨n, 0, none⟩) 34 cap)).run Try.prog W = .ok (.string d) W := by
  rw [← h34]
  exact Lib.run_convert_whole W _ _ _ Try.underlying106 Try.underlying5 Try.underlying9 n 0 d hB cap
theorem below_setCell {B : Nat} {w w' : World} (h : Below B w w') (a : Addr) (v : Value) (ha : B ≤ a.block) : Below B w (w'.setCell a v) :=
  ⟨h.os, h.tape, h.output, by simpa [World.setCell] using h.size, fun i hi => by
    rw [← h.block i hi]
    have hne : ¬ a.block = i := by omega
    simp only [World.setCell, Array.getElem?_modify, hne, if_false]⟩
theorem rowAt_setCell_far (W : World) (a : Addr) (v : Value) (n : Nat) (h : a.block ≠ n) : rowAt (W.setCell a v) n = rowAt W n := by
  unfold rowAt World.setCell
  simp only [Array.getElem?_modify, h, if_false]
theorem rowAt_setCell_here (W : World) (n i : Nat) (v : Value) (c : Array Value) (h : rowAt W n = some c) : rowAt (W.setCell ⟨n, i, none⟩ v) n = some (c.setIfInBounds i v) := by
  obtain ⟨t, ht⟩ := rowAt_heap h
  unfold rowAt World.setCell
  simp [Array.getElem?_modify, ht]
theorem cs_setD (p : Pg) (k : Nat) (h : k < 6) (x : ByteArray) : p.cs.setIfInBounds (4 + k * 2 + 1) (.string x) = (p.setD k x).cs := by
  have h6 : k = 0 ∨ k = 1 ∨ k = 2 ∨ k = 3 ∨ k = 4 ∨ k = 5 := by omega
  rcases h6 with rfl | rfl | rfl | rfl | rfl | rfl <;> rfl
theorem cell_row {W : World} {n : Nat} {c : Array Value} (h : rowAt W n = some c) (i : Nat) : W.cell? ⟨n, i, none⟩ = c[i]? := by
  obtain ⟨t, ht⟩ := rowAt_heap h
  exact cell_of_block ht i
theorem frozen_row {W : World} {n : Nat} {c : Array Value} (h : rowAt W n = some c) (i : Nat) : W.frozen? ⟨n, i, none⟩ = false := by
  obtain ⟨t, ht⟩ := rowAt_heap h
  simp [World.frozen?, ht]

theorem not_tab : ∀ b : Fin 256, ∀ k : Fin 8, bits .andNot .u8 (b.val : Int) (2 ^ k.val % 256) = ((UInt8.ofNat (setByte b.val k.val false)).toNat : Int) := by decide +kernel
theorem or_tab : ∀ b : Fin 256, ∀ k : Fin 8, bits .or .u8 (bits .andNot .u8 (b.val : Int) (2 ^ k.val % 256)) (2 ^ k.val % 256) = ((UInt8.ofNat (setByte b.val k.val true)).toNat : Int) := by decide +kernel

set_option maxHeartbeats 2000000 in
set_option maxRecDepth 100000 in
theorem mark_yes (p : Pg) (id : Nat) (h : id < 1632) (hd : (p.d (id / 272)).size = 34) (w : World) :
    Calls Try.prog 71 #[p.v, .int .i64 id, .bool true] w fun e w' => e = .returned (markPg p id true).v ∧ Below w.heap.size w w' := by
  have hcd := cs_d p (id / 272) (by omega)
  generalize hdd : p.d (id / 272) = d at *
  have HD := Lib.hid hdd
  clear hdd
  obtain ⟨cap, W3, hcv, hb3, hs3, hy3, hf3⟩ := toBytes d ((w.alloc (.cells p.cs 112)).alloc (.cells Pg.zero.cs 112))
  simp only [World.size_alloc] at hcv hb3 hs3 hy3 hf3
  have hj : id % 272 / 8 < d.size := by omega
  have c1 := hy3 _ hj
  have f1 := hf3 _ hj
  rw [Nat.zero_add] at c1
  have r0 : rowAt W3 w.heap.size = some p.cs := (rowAt_below hb3 (by go_size)).trans (by simp [go_sem])
  have r1 : rowAt W3 (w.heap.size + 1) = some Pg.zero.cs := (rowAt_below hb3 (by go_size)).trans (by simp [go_sem])
  have c0 : W3.cell? ⟨w.heap.size, 4 + id / 272 * 2 + 1, none⟩ = some (.string d) := (cell_row r0 _).trans hcd
  have f0 := frozen_row r0 (4 + id / 272 * 2 + 1)
  have hbt := d[id % 272 / 8].toNat_lt
  have e1 := not_tab ⟨d[id % 272 / 8].toNat, hbt⟩ ⟨id % 8, Nat.mod_lt _ (by omega)⟩
  have e2 := or_tab ⟨d[id % 272 / 8].toNat, hbt⟩ ⟨id % 8, Nat.mod_lt _ (by omega)⟩
  simp only at e1 e2
  generalize hu1 : UInt8.ofNat (setByte d[id % 272 / 8].toNat (id % 8) false) = u1 at *
  generalize hu2 : UInt8.ofNat (setByte d[id % 272 / 8].toNat (id % 8) true) = u2 at *
  rw [e1] at e2
  have hB1 := bytes_set (bytes_set hy3 (id % 272 / 8) u1) (id % 272 / 8) u2
  have hcb := back_of (W := ((W3.setCell ⟨w.heap.size + 1 + 1, id % 272 / 8, none⟩ (.int .u8 (u1.toNat : Int))).setCell ⟨w.heap.size + 1 + 1, id % 272 / 8, none⟩ (.int .u8 (u2.toNat : Int))).drew.drew) hB1 (by rw [mk_size, mk_size, hd]) cap
  have e3 : (ByteArray.mk ((ByteArray.mk (d.data.setIfInBounds (id % 272 / 8) u1)).data.setIfInBounds (id % 272 / 8) u2)) = markD d (id % 272) true := by
    unfold markD
    rw [Array.setIfInBounds_setIfInBounds, ← hu2, byteAt_in d _ hj, show id % 272 % 8 = id % 8 from by omega]
  rw [e3] at hcb
  generalize hm2 : markD d (id % 272) true = d2 at *
  have R0 := (rowAt_setCell_far (W3.setCell ⟨w.heap.size + 1 + 1, id % 272 / 8, none⟩ (.int .u8 (u1.toNat : Int))) ⟨w.heap.size + 1 + 1, id % 272 / 8, none⟩ (.int .u8 (u2.toNat : Int)) w.heap.size (by simp; omega)).trans ((rowAt_setCell_far W3 ⟨w.heap.size + 1 + 1, id % 272 / 8, none⟩ (.int .u8 (u1.toNat : Int)) w.heap.size (by simp; omega)).trans r0)
  have A1 : (⟨w.heap.size + 1 + 1, id % 272 / 8, none⟩ : Addr).block ≠ w.heap.size + 1 := by simp
  have R1 := (rowAt_setCell_far (W3.setCell ⟨w.heap.size + 1 + 1, id % 272 / 8, none⟩ (.int .u8 (u1.toNat : Int))) ⟨w.heap.size + 1 + 1, id % 272 / 8, none⟩ (.int .u8 (u2.toNat : Int)) (w.heap.size + 1) A1).trans ((rowAt_setCell_far W3 ⟨w.heap.size + 1 + 1, id % 272 / 8, none⟩ (.int .u8 (u1.toNat : Int)) (w.heap.size + 1) A1).trans r1)
  have R2 := (rowAt_setCell_here _ _ (4 + id / 272 * 2 + 1) (.string d2) _ R0).trans (congrArg some (cs_setD p (id / 272) (by omega) d2))
  have R3 := (rowAt_setCell_far _ ⟨w.heap.size, 4 + id / 272 * 2 + 1, none⟩ (.string d2) (w.heap.size + 1) (by simp)).trans R1
  have B1 := below_setCell (below_setCell (below_setCell ((((Below.refl w.heap.size w).alloc (Nat.le_refl _) (.cells p.cs 112)).alloc (by go_size) (.cells Pg.zero.cs 112)).trans (hb3.mono (by omega))) ⟨w.heap.size + 1 + 1, id % 272 / 8, none⟩ (.int .u8 (u1.toNat : Int)) (by simp; omega)) ⟨w.heap.size + 1 + 1, id % 272 / 8, none⟩ (.int .u8 (u2.toNat : Int)) (by simp; omega)) ⟨w.heap.size, 4 + id / 272 * 2 + 1, none⟩ (.string d2) (by simp)
  clear A1 R0 R1
  have HB1 := Lib.hid B1
  have HB := Lib.hid hb3
  clear B1
  have HF := Lib.hid hf3
  have HM2 := Lib.hid hm2
  clear hb3 hy3 hf3 hu1 hu2 hbt hB1 e3 hm2
  rw [hd] at hcv
  go_enter Try.func71, Try.ntmps71
  go_wp2_with fail
  go_region
  go_wp2_with fail
  go_region
  go_wp2_with fail
  refine ret_page1 rfl rfl (w.heap.size + 1) (p.setD (id / 272) d2) rfl (by simp [go_sem, R2, R3]) ⟨?_, ?_⟩
  · rw [markPg, HD.out, HM2.out]
  · exact below_setRow (HB1.out.drew.drew) _ (by omega)
set_option maxHeartbeats 2000000 in
set_option maxRecDepth 100000 in
theorem mark_no (p : Pg) (id : Nat) (h : id < 1632) (hd : (p.d (id / 272)).size = 34) (w : World) :
    Calls Try.prog 71 #[p.v, .int .i64 id, .bool false] w fun e w' => e = .returned (markPg p id false).v ∧ Below w.heap.size w w' := by
  have hcd := cs_d p (id / 272) (by omega)
  generalize hdd : p.d (id / 272) = d at *
  have HD := Lib.hid hdd
  clear hdd
  obtain ⟨cap, W3, hcv, hb3, hs3, hy3, hf3⟩ := toBytes d ((w.alloc (.cells p.cs 112)).alloc (.cells Pg.zero.cs 112))
  simp only [World.size_alloc] at hcv hb3 hs3 hy3 hf3
  have hj : id % 272 / 8 < d.size := by omega
  have c1 := hy3 _ hj
  have f1 := hf3 _ hj
  rw [Nat.zero_add] at c1
  have r0 : rowAt W3 w.heap.size = some p.cs := (rowAt_below hb3 (by go_size)).trans (by simp [go_sem])
  have r1 : rowAt W3 (w.heap.size + 1) = some Pg.zero.cs := (rowAt_below hb3 (by go_size)).trans (by simp [go_sem])
  have c0 : W3.cell? ⟨w.heap.size, 4 + id / 272 * 2 + 1, none⟩ = some (.string d) := (cell_row r0 _).trans hcd
  have f0 := frozen_row r0 (4 + id / 272 * 2 + 1)
  have hbt := d[id % 272 / 8].toNat_lt
  have e1 := not_tab ⟨d[id % 272 / 8].toNat, hbt⟩ ⟨id % 8, Nat.mod_lt _ (by omega)⟩
  simp only at e1
  generalize hu1 : UInt8.ofNat (setByte d[id % 272 / 8].toNat (id % 8) false) = u1 at *
  have hB1 := bytes_set hy3 (id % 272 / 8) u1
  have hcb := back_of (W := (W3.setCell ⟨w.heap.size + 1 + 1, id % 272 / 8, none⟩ (.int .u8 (u1.toNat : Int))).drew) hB1 (by rw [mk_size, hd]) cap
  have e3 : (ByteArray.mk (d.data.setIfInBounds (id % 272 / 8) u1)) = markD d (id % 272) false := by
    unfold markD
    rw [← hu1, byteAt_in d _ hj, show id % 272 % 8 = id % 8 from by omega]
  rw [e3] at hcb
  generalize hm2 : markD d (id % 272) false = d2 at *
  have R0 := (rowAt_setCell_far W3 ⟨w.heap.size + 1 + 1, id % 272 / 8, none⟩ (.int .u8 (u1.toNat : Int)) w.heap.size (by simp; omega)).trans r0
  have A1 : (⟨w.heap.size + 1 + 1, id % 272 / 8, none⟩ : Addr).block ≠ w.heap.size + 1 := by simp
  have R1 := (rowAt_setCell_far W3 ⟨w.heap.size + 1 + 1, id % 272 / 8, none⟩ (.int .u8 (u1.toNat : Int)) (w.heap.size + 1) A1).trans r1
  have R2 := (rowAt_setCell_here _ _ (4 + id / 272 * 2 + 1) (.string d2) _ R0).trans (congrArg some (cs_setD p (id / 272) (by omega) d2))
  have R3 := (rowAt_setCell_far _ ⟨w.heap.size, 4 + id / 272 * 2 + 1, none⟩ (.string d2) (w.heap.size + 1) (by simp)).trans R1
  have B1 := below_setCell (below_setCell ((((Below.refl w.heap.size w).alloc (Nat.le_refl _) (.cells p.cs 112)).alloc (by go_size) (.cells Pg.zero.cs 112)).trans (hb3.mono (by omega))) ⟨w.heap.size + 1 + 1, id % 272 / 8, none⟩ (.int .u8 (u1.toNat : Int)) (by simp; omega)) ⟨w.heap.size, 4 + id / 272 * 2 + 1, none⟩ (.string d2) (by simp)
  clear A1 R0 R1
  have HB1 := Lib.hid B1
  have HB := Lib.hid hb3
  clear B1
  have HF := Lib.hid hf3
  have HM2 := Lib.hid hm2
  clear hb3 hy3 hf3 hu1 hbt hB1 e3 hm2
  rw [hd] at hcv
  go_enter Try.func71, Try.ntmps71
  go_wp2_with fail
  go_region
  go_wp2_with fail
  refine ret_page1 rfl rfl (w.heap.size + 1) (p.setD (id / 272) d2) rfl (by simp [go_sem, R2, R3]) ⟨?_, ?_⟩
  · rw [markPg, HD.out, HM2.out]
  · exact below_setRow (HB1.out.drew) _ (by omega)
/-- a page's bit is set, or taken out -/
theorem mark_any (p : Pg) (id : Nat) (yes : Bool) (h : id < 1632) (hd : (p.d (id / 272)).size = 34) (w : World) :
    Calls Try.prog 71 #[p.v, .int .i64 id, .bool yes] w fun e w' => e = .returned (markPg p id yes).v ∧ Below w.heap.size w w' := by
  cases yes
  · exact mark_no p id h hd w
  · exact mark_yes p id h hd w
end

/-!
  Layer 14 (space): the contracts of read, Take, Give, Used.
-/
section
open Go.RowKit Go.Joins
set_option linter.unusedVariables false
set_option linter.unusedSimpArgs false

theorem cell?_setRow_far (W : World) (n : Nat) (c : Array Value) (a : Addr) (h : n ≠ a.block) : (W.setRow n c).cell? a = W.cell? a := by
  unfold World.cell? World.setRow
  simp only [Array.getElem?_modify, h, if_false]
theorem results_cell_tmp2 {fn : Func} {p u v : Tmp} {ty : TypeId} (h : fn.results = #[.cell p ty, .tmp u, .tmp v]) (tmps : Array Value) (P : Program) (w : World) :
    (results fn tmps).run P w = ((asAddr (tmps.getD p undef)).run P w).andThen fun a w₁ => ((loadVar ty a).run P w₁).andThen fun x w₂ => .ok (.tuple #[x, tmps.getD u undef, tmps.getD v undef]) w₂ := by
  simp only [results, h]
  simp [Sem.run_bind, Result.andThen]
/-- the end of a function that hands back a page and two numbers -/
theorem ret_page2 {fn : Func} {R : Ending → World → Prop} {a : Act} {w : World} {pt u v : Tmp} (h : fn.results = #[.cell pt 112, .tmp u, .tmp v]) (hd : a.defers = []) (n : Nat) (p : Pg) (hp : a.tmps.getD pt undef = .pointer (some ⟨n, 0, none⟩)) (hr : rowAt w n = some p.cs)
    (hR : R (.returned (.tuple #[p.v, a.tmps.getD u undef, a.tmps.getD v undef])) w) : bodyPost Try.prog fn R .ret a w := by
  refine bodyPost_ret ?_ hd hR
  rw [results_cell_tmp2 h, hp]
  have hl := run_loadPage w n (by rw [hr]; rfl)
  rw [hr] at hl
  simp only [asAddr, Sem.run_pure, Result.andThen_ok, hl]
  rfl

/-- a page that is a map -/
structure MapOk (m : Pg) : Prop where
  k : m.k = 2
  n0 : 0 ≤ m.n
  n1 : m.n < 1024
  sz : ∀ i, i < 6 → (m.d i).size = 34

set_option maxHeartbeats 2000000 in
set_option maxRecDepth 100000 in
theorem read_ok (S : Vol) (b mb hb pb : Nat) (m : Pg) (w : World) (hs : StageAt w b mb hb pb S) (h1 : stE S 1 = 0) (h2 : stPg S 1 = m) (hm : MapOk m) :
    Calls Try.prog 76 #[.pointer (some ⟨b, 0, none⟩)] w fun e w' => e = .returned (.tuple #[m.v, .int .i64 (m.n + 1), .int .i64 0]) ∧ Below w.heap.size w w' := by
  obtain ⟨l1, l2, l3, l4⟩ := hs.lt
  have HC := Lib.hid (fun w' h => get_any S b mb hb pb 1 w' h)
  rw [h1, h2] at HC
  have HS := Lib.hid hs
  obtain ⟨k1, k2, k3, k4⟩ := hm
  have HK := Lib.hid k4
  clear hs h1 h2 k4
  go_enter Try.func76, Try.ntmps76
  go_wp2_with fail
  refine (HC.out _ (HS.out.below (B := w.heap.size) ((Below.refl w.heap.size w).alloc (Nat.le_refl _) _) ⟨l1, l2, l3, l4⟩)).mono ?_; rintro e w1 ⟨rfl, hb1⟩
  have hr1 : rowAt w1 w.heap.size = some Pg.zero.cs := (rowAt_below hb1 (by go_size)).trans (by simp [go_sem])
  have hsz := hb1.size
  simp only [World.size_alloc] at hsz
  have hsz' : w.heap.size ≤ w1.heap.size := by omega
  have hb2 := (((Below.refl w.heap.size w).alloc (Nat.le_refl _) (.cells Pg.zero.cs 112)).trans (hb1.mono (by go_size))).alloc hsz' (.cells m.cs 112)
  have HB2 := Lib.hid hb2
  clear hb1 hb2
  go_wp2_with fail
  go_loopw [24] (fun i wr => ∃ k : Nat, k ≤ 6 ∧ i = .int .i64 k ∧ Below (w1.heap.size + 1) (w1.alloc (.cells m.cs 112)) wr) (fun i _ => 6 - (intOf i).toNat)
  case atStart => exact ⟨0, by omega, rfl, (Below.refl _ _)⟩
  case round =>
    obtain ⟨k, hk, rfl, hb⟩ := hrel
    have hz := hb.size
    simp only [World.size_alloc] at hz
    have R0 : rowAt wr w.heap.size = some Pg.zero.cs := (rowAt_below hb (by omega)).trans ((rowAt_past w1 _ _ (by omega)).trans hr1)
    have R1 : rowAt wr w1.heap.size = some m.cs := (rowAt_below hb (by omega)).trans (rowAt_at w1 m.cs _ _ rfl)
    have HB3 := Lib.hid hb
    clear hb
    by_cases hlt : k < 6
    · have hidx := index6 m k hlt
      have hsz2 := HK.out k hlt
      generalize m.a k = a at *
      generalize m.d k = d at *
      go_wp2
      go_roundw
      case rel => exact ⟨k + 1, by omega, by go_num, HB3.out.alloc (by omega) _⟩
      case measure => simp [intOf]; omega
    · have hk6 : k = 6 := by omega
      subst hk6
      have c3 : wr.cell? ⟨w1.heap.size, 3, none⟩ = some (.int .i64 m.n) := (cell_row R1 3).trans rfl
      have c4 : (wr.drew.setRow w.heap.size m.cs).cell? ⟨w1.heap.size, 3, none⟩ = some (.int .i64 m.n) := (cell?_setRow_far _ _ _ _ (by simp; omega)).trans c3
      go_wp2
      go_region
      all_goals
        go_wp2
        refine ret_page2 rfl rfl w.heap.size m rfl (by simp [go_sem, R0]) ⟨rfl, ?_⟩
        exact below_setRow (HB2.out.trans (HB3.out.mono (by omega))).drew _ (Nat.le_refl _)
end

/-!
  Layer 14 (space): the contracts of Take, Give, Used.
-/
section
open Go.RowKit Go.Joins
set_option linter.unusedVariables false
set_option linter.unusedSimpArgs false

/-- a stage whose page 1 is a map of so many pages -/
structure MapAt (S : Vol) (m : Pg) (n : Nat) : Prop where
  e : stE S 1 = 0
  p : stPg S 1 = m
  k : m.k = 2
  cnt : m.n + 1 = n
  lo : 1 ≤ n
  hi : n ≤ 1024
  sz : ∀ i, i < 6 → (m.d i).size = 34
  ok : okPg m = true

theorem MapAt.map {S : Vol} {m : Pg} {n : Nat} (h : MapAt S m n) : MapOk m := ⟨h.k, by have := h.cnt; have := h.lo; omega, by have := h.cnt; have := h.hi; omega, h.sz⟩

theorem d_setD (p : Pg) (k j : Nat) (hk : k < 6) (hj : j < 6) (x : ByteArray) : (p.setD k x).d j = if j = k then x else p.d j := by
  have h6 : k = 0 ∨ k = 1 ∨ k = 2 ∨ k = 3 ∨ k = 4 ∨ k = 5 := by omega
  have g6 : j = 0 ∨ j = 1 ∨ j = 2 ∨ j = 3 ∨ j = 4 ∨ j = 5 := by omega
  rcases h6 with rfl | rfl | rfl | rfl | rfl | rfl <;> rcases g6 with rfl | rfl | rfl | rfl | rfl | rfl <;> rfl
theorem a_setD (p : Pg) (k j : Nat) (hk : k < 6) (x : ByteArray) : (p.setD k x).a j = p.a j := by
  have h6 : k = 0 ∨ k = 1 ∨ k = 2 ∨ k = 3 ∨ k = 4 ∨ k = 5 := by omega
  rcases h6 with rfl | rfl | rfl | rfl | rfl | rfl <;> rfl
theorem h_setD (p : Pg) (k : Nat) (hk : k < 6) (x : ByteArray) : (p.setD k x).k = p.k ∧ (p.setD k x).l = p.l ∧ (p.setD k x).s = p.s ∧ (p.setD k x).n = p.n := by
  have h6 : k = 0 ∨ k = 1 ∨ k = 2 ∨ k = 3 ∨ k = 4 ∨ k = 5 := by omega
  rcases h6 with rfl | rfl | rfl | rfl | rfl | rfl <;> exact ⟨rfl, rfl, rfl, rfl⟩
theorem mark_size (d : ByteArray) (j : Nat) (yes : Bool) : (markD d j yes).size = d.size := Array.size_setIfInBounds

theorem mark_sz (m : Pg) (id : Nat) (yes : Bool) (h : id < 1632) (hs : ∀ i, i < 6 → (m.d i).size = 34) (i : Nat) (hi : i < 6) : ((markPg m id yes).d i).size = 34 := by
  rw [markPg, d_setD _ _ _ (by omega) hi]
  split
  · rw [mark_size, hs _ (by omega)]
  · exact hs i hi
theorem mark_k (m : Pg) (id : Nat) (yes : Bool) (h : id < 1632) : (markPg m id yes).k = m.k ∧ (markPg m id yes).n = m.n := ⟨(h_setD m _ (by omega) _).1, (h_setD m _ (by omega) _).2.2.2⟩
theorem okPg_of {p : Pg} (h : okH p = true) (hc : ∀ i, i < 6 → okC (p.a i) (p.d i) = true) : okPg p = true := by
  simp only [okPg, h, Bool.true_and, okCs, List.all_eq_true, List.mem_range'_1]
  intro i hi
  exact hc i (by omega)
theorem okPg_to {p : Pg} (h : okPg p = true) : okH p = true ∧ ∀ i, i < 6 → okC (p.a i) (p.d i) = true := by
  simp only [okPg, Bool.and_eq_true, okCs, List.all_eq_true, List.mem_range'_1] at h
  exact ⟨h.1, fun i hi => h.2 i (by omega)⟩
theorem mark_ok (m : Pg) (id : Nat) (yes : Bool) (h : id < 1632) (hs : ∀ i, i < 6 → (m.d i).size = 34) (ho : okPg m = true) : okPg (markPg m id yes) = true := by
  obtain ⟨h1, h2⟩ := okPg_to ho
  have hh := h_setD m (id / 272) (by omega) (markD (m.d (id / 272)) (id % 272) yes)
  refine okPg_of ?_ fun i hi => ?_
  · simp only [okH, markPg, hh] at h1 ⊢
    exact h1
  · have e1 : (markPg m id yes).a i = m.a i := a_setD m _ i (by omega) _
    have e2 := mark_sz m id yes h hs i hi
    have h3 := h2 i hi
    have h4 : (m.d i).toList.isEmpty = false := sem_f (by intro e; have := hs i hi; rw [e] at this; cases this)
    have h5 : ((markPg m id yes).d i).toList.isEmpty = false := sem_f (by intro e; rw [e] at e2; cases e2)
    simp only [okC, hs i hi, h4, Bool.or_false] at h3
    simp only [okC, e1, e2, h5, Bool.or_false]
    exact h3
theorem okSet_one {p : Pg} (h : okPg p = true) (id : Int) (h0 : 0 ≤ id) (h1 : id < 1024) : okSet id p = true := by
  simp [okSet, h, h0, h1]
theorem MapAt.mark {S : Vol} {m : Pg} {n : Nat} (h : MapAt S m n) (id : Nat) (yes : Bool) (hi : id < 1632) : MapAt (S.put 1 (markPg m id yes)) (markPg m id yes) n :=
  ⟨by rw [stE_put, if_pos rfl], by rw [stPg_put, if_pos rfl], by rw [(mark_k m id yes hi).1, h.k], by rw [(mark_k m id yes hi).2, h.cnt], h.lo, h.hi, mark_sz m id yes hi h.sz, mark_ok m id yes hi h.sz h.ok⟩

set_option maxHeartbeats 2000000 in
set_option maxRecDepth 100000 in
theorem take_some (S : Vol) (b mb hb pb : Nat) (m : Pg) (n : Nat) (w : World) (hs : StageAt w b mb hb pb S) (hm : MapAt S m n) (id : Nat) (hid : id < n) (hf : bitAt m id = false) (hbelow : ∀ j, j < id → bitAt m j = true) :
    Calls Try.prog 41 #[.pointer (some ⟨b, 0, none⟩)] w fun e w' => e = .returned (.tuple #[.int .i64 id, .int .i64 0]) ∧ w.grownBy w' (some mb) ∧ StageAt w' b mb hb pb (S.put 1 (markPg m id true)) := by
  have HR := Lib.hid (fun w' h => read_ok S b mb hb pb m w' h hm.e hm.p hm.map)
  rw [hm.cnt] at HR
  have hn := hm.hi
  have hl := hm.lo
  have HS := Lib.hid hs
  have HT := Lib.hid (fun j (hj : j < n) w => taken_any m j (by omega) (hm.sz _ (by omega)) w)
  have HM := Lib.hid (fun w => mark_any m id true (by omega) (hm.sz _ (by omega)) w)
  have HSet := Lib.hid (fun w' h => set_any S b mb hb pb 1 (markPg m id true) w' h)
  rw [okSet_one (mark_ok m id true (by omega) hm.sz hm.ok) 1 (by omega) (by omega)] at HSet
  have e0 : chkE true = 0 := rfl
  rw [e0] at HSet
  simp only [if_true] at HSet
  have hlt := hs.lt
  obtain ⟨l1, l2, l3, l4⟩ := hlt
  generalize markPg m id true = m2 at *
  have HF := Lib.hid hf
  have HBel := Lib.hid hbelow
  clear hs hf hbelow e0 hm
  go_enter Try.func41, Try.ntmps41
  go_wp2_with fail
  refine (HR.out _ HS.out).mono ?_; rintro e w1 ⟨rfl, hb1⟩
  have hsz := hb1.size
  have HB1 := Lib.hid hb1
  clear hb1
  go_wp2_with fail
  go_loopw [18] (fun i wr => ∃ k : Nat, k ≤ id ∧ i = .int .i64 k ∧ Below (w1.heap.size + 1) (w1.alloc (.cells m.cs 112)) wr) (fun i _ => n - (intOf i).toNat)
  case atStart => exact ⟨0, by omega, rfl, (Below.refl _ _)⟩
  case round =>
    obtain ⟨k, hk, rfl, hb⟩ := hrel
    have hz := hb.size
    simp only [World.size_alloc] at hz
    have R1 : rowAt wr w1.heap.size = some m.cs := (rowAt_below hb (by omega)).trans (rowAt_at w1 m.cs _ _ rfl)
    have HB3 := Lib.hid hb
    clear hb
    have hkn : k < n := by omega
    by_cases hki : k < id
    · have hbit := HBel.out k hki
      have HTk := Lib.hid (HT.out k hkn)
      rw [hbit] at HTk
      go_wp2_with fail
      refine (HTk.out _).mono ?_; rintro e w2 ⟨rfl, hb2⟩
      go_wp2_with fail
      go_roundw
      case rel => exact ⟨k + 1, by omega, by go_num, HB3.out.trans (hb2.mono (by omega))⟩
      case measure => simp [intOf]; omega
    · have hke : k = id := by omega
      subst hke
      have hbit := HF.out
      have HTk := Lib.hid (HT.out k hkn)
      rw [hbit] at HTk
      go_wp2_with fail
      refine (HTk.out _).mono ?_; rintro e w2 ⟨rfl, hb2⟩
      have hz2 := hb2.size
      have R2 : rowAt w2 w1.heap.size = some m.cs := (rowAt_below hb2 (by omega)).trans R1
      have HB4 := Lib.hid hb2
      clear hb2
      go_wp2_with fail
      refine (HM.out _).mono ?_; rintro e w3 ⟨rfl, hb3⟩
      have hz3 := hb3.size
      go_wp2_with fail
      have Ball : Below w.heap.size w w3 := (HB1.out.alloc (by omega) (.cells m.cs 112)).trans (((HB3.out.mono (by omega)).trans (HB4.out.mono (by omega))).trans (hb3.mono (by omega)))
      refine (HSet.out _ (HS.out.below Ball ⟨l1, l2, l3, l4⟩)).mono ?_; rintro e w4 ⟨rfl, hg4, hs4⟩
      go_wp2_with fail
      go_ret2
      exact ⟨rfl, (grown_of_below Ball _).trans hg4, hs4⟩

set_option maxHeartbeats 2000000 in
set_option maxRecDepth 100000 in
theorem take_none (S : Vol) (b mb hb pb : Nat) (m : Pg) (n : Nat) (w : World) (hs : StageAt w b mb hb pb S) (hm : MapAt S m n) (hbelow : ∀ j, j < n → bitAt m j = true) :
    Calls Try.prog 41 #[.pointer (some ⟨b, 0, none⟩)] w fun e w' => e = .returned (.tuple #[.int .i64 0, .int .i64 140]) ∧ Below w.heap.size w w' := by
  have HR := Lib.hid (fun w' h => read_ok S b mb hb pb m w' h hm.e hm.p hm.map)
  rw [hm.cnt] at HR
  have hn := hm.hi
  have hl := hm.lo
  have HS := Lib.hid hs
  have HT := Lib.hid (fun j (hj : j < n) w => taken_any m j (by omega) (hm.sz _ (by omega)) w)
  have hlt := hs.lt
  obtain ⟨l1, l2, l3, l4⟩ := hlt
  have HBel := Lib.hid hbelow
  clear hs hbelow hm
  go_enter Try.func41, Try.ntmps41
  go_wp2_with fail
  refine (HR.out _ HS.out).mono ?_; rintro e w1 ⟨rfl, hb1⟩
  have hsz := hb1.size
  have HB1 := Lib.hid hb1
  clear hb1
  go_wp2_with fail
  go_loopw [18] (fun i wr => ∃ k : Nat, k ≤ n ∧ i = .int .i64 k ∧ Below (w1.heap.size + 1) (w1.alloc (.cells m.cs 112)) wr) (fun i _ => n - (intOf i).toNat)
  case atStart => exact ⟨0, by omega, rfl, (Below.refl _ _)⟩
  case round =>
    obtain ⟨k, hk, rfl, hb⟩ := hrel
    have hz := hb.size
    simp only [World.size_alloc] at hz
    have R1 : rowAt wr w1.heap.size = some m.cs := (rowAt_below hb (by omega)).trans (rowAt_at w1 m.cs _ _ rfl)
    have HB3 := Lib.hid hb
    clear hb
    by_cases hki : k < n
    · have hbit := HBel.out k hki
      have HTk := Lib.hid (HT.out k hki)
      rw [hbit] at HTk
      go_wp2_with fail
      refine (HTk.out _).mono ?_; rintro e w2 ⟨rfl, hb2⟩
      go_wp2_with fail
      go_roundw
      case rel => exact ⟨k + 1, by omega, by go_num, HB3.out.trans (hb2.mono (by omega))⟩
      case measure => simp [intOf]; omega
    · have hke : k = n := by omega
      subst hke
      go_wp2_with fail
      go_ret2
      exact ⟨rfl, (HB1.out.alloc (by omega) (.cells m.cs 112)).trans (HB3.out.mono (by omega))⟩

set_option maxHeartbeats 2000000 in
set_option maxRecDepth 100000 in
theorem give_ok (S : Vol) (b mb hb pb : Nat) (m : Pg) (n : Nat) (w : World) (hs : StageAt w b mb hb pb S) (hm : MapAt S m n) (id : Nat) (h2 : 2 ≤ id) (hid : id < n) (hf : bitAt m id = true) :
    Calls Try.prog 43 #[.pointer (some ⟨b, 0, none⟩), .int .i64 id] w fun e w' => e = .returned (.int .i64 0) ∧ w.grownBy w' (some mb) ∧ StageAt w' b mb hb pb (S.put 1 (markPg m id false)) := by
  have HR := Lib.hid (fun w' h => read_ok S b mb hb pb m w' h hm.e hm.p hm.map)
  rw [hm.cnt] at HR
  have hn := hm.hi
  have hl := hm.lo
  have HS := Lib.hid hs
  have HT := Lib.hid (fun w => taken_any m id (by omega) (hm.sz _ (by omega)) w)
  rw [hf] at HT
  have HM := Lib.hid (fun w => mark_any m id false (by omega) (hm.sz _ (by omega)) w)
  have HSet := Lib.hid (fun w' h => set_any S b mb hb pb 1 (markPg m id false) w' h)
  rw [okSet_one (mark_ok m id false (by omega) hm.sz hm.ok) 1 (by omega) (by omega)] at HSet
  have e0 : chkE true = 0 := rfl
  rw [e0] at HSet
  simp only [if_true] at HSet
  have hlt := hs.lt
  obtain ⟨l1, l2, l3, l4⟩ := hlt
  generalize markPg m id false = m2 at *
  clear hs hf e0 hm
  go_enter Try.func43, Try.ntmps43
  go_wp2_with fail
  refine (HR.out _ HS.out).mono ?_; rintro e w1 ⟨rfl, hb1⟩
  have hsz := hb1.size
  have HB1 := Lib.hid hb1
  clear hb1
  go_wp2_with fail
  refine (HT.out _).mono ?_; rintro e w2 ⟨rfl, hb2⟩
  have hz2 := hb2.size
  simp only [World.size_alloc] at hz2
  have R2 : rowAt w2 w1.heap.size = some m.cs := (rowAt_below hb2 (by go_size)).trans (rowAt_at w1 m.cs _ _ rfl)
  have HB2 := Lib.hid hb2
  clear hb2
  go_wp2_with fail
  refine (HM.out _).mono ?_; rintro e w3 ⟨rfl, hb3⟩
  have hz3 := hb3.size
  go_wp2_with fail
  have Ball : Below w.heap.size w w3 := (HB1.out.alloc (by omega) (.cells m.cs 112)).trans ((HB2.out.mono (by go_size)).trans (hb3.mono (by omega)))
  refine (HSet.out _ (HS.out.below Ball ⟨l1, l2, l3, l4⟩)).mono ?_; rintro e w4 ⟨rfl, hg4, hs4⟩
  go_wp2_with fail
  go_ret
  exact ⟨rfl, (grown_of_below Ball _).trans hg4, hs4⟩

set_option maxHeartbeats 2000000 in
set_option maxRecDepth 100000 in
theorem give_bad (S : Vol) (b mb hb pb : Nat) (m : Pg) (n : Nat) (w : World) (hs : StageAt w b mb hb pb S) (hm : MapAt S m n) (id : Int) (hbad : id < 2 ∨ (n : Int) ≤ id ∨ bitAt m id.toNat = false) :
    Calls Try.prog 43 #[.pointer (some ⟨b, 0, none⟩), .int .i64 id] w fun e w' => e = .returned (.int .i64 1) ∧ Below w.heap.size w w' := by
  have HR := Lib.hid (fun w' h => read_ok S b mb hb pb m w' h hm.e hm.p hm.map)
  rw [hm.cnt] at HR
  have hn := hm.hi
  have hl := hm.lo
  have HS := Lib.hid hs
  have hlt := hs.lt
  obtain ⟨l1, l2, l3, l4⟩ := hlt
  by_cases h2 : id < 2
  · clear hs hm
    go_enter Try.func43, Try.ntmps43
    go_wp2_with fail
    refine (HR.out _ HS.out).mono ?_; rintro e w1 ⟨rfl, hb1⟩
    have hsz := hb1.size
    have HB1 := Lib.hid hb1
    clear hb1
    go_wp2_with fail
    go_ret
    exact ⟨rfl, HB1.out.alloc (by omega) _⟩
  by_cases h3 : (n : Int) ≤ id
  · clear hs hm
    go_enter Try.func43, Try.ntmps43
    go_wp2_with fail
    refine (HR.out _ HS.out).mono ?_; rintro e w1 ⟨rfl, hb1⟩
    have hsz := hb1.size
    have HB1 := Lib.hid hb1
    clear hb1
    go_wp2_with fail
    go_ret
    exact ⟨rfl, HB1.out.alloc (by omega) _⟩
  · have hf : bitAt m id.toNat = false := by
      rcases hbad with h | h | h
      · exact absurd h h2
      · exact absurd h h3
      · exact h
    have HT := Lib.hid (fun w => taken_any m id.toNat (by omega) (hm.sz _ (by omega)) w)
    rw [hf, Int.toNat_of_nonneg (by omega)] at HT
    clear hs hm hf hbad
    go_enter Try.func43, Try.ntmps43
    go_wp2_with fail
    refine (HR.out _ HS.out).mono ?_; rintro e w1 ⟨rfl, hb1⟩
    have hsz := hb1.size
    have HB1 := Lib.hid hb1
    clear hb1
    go_wp2_with fail
    refine (HT.out _).mono ?_; rintro e w2 ⟨rfl, hb2⟩
    have hz2 := hb2.size
    have HB2 := Lib.hid hb2
    clear hb2
    go_wp2_with fail
    go_ret
    exact ⟨rfl, (HB1.out.alloc (by omega) _).trans (HB2.out.mono (by go_size))⟩
end

/-!
  The contracts of octet.Num (layer 1) at the widths 1 and 4, and of space.entry.
-/
section
open Go.RowKit Go.Joins
set_option linter.unusedVariables false
set_option linter.unusedSimpArgs false

theorem Try.info5 : (Try.prog.info? 5).map (fun i => (i.zero, i.size, i.bytes)) = some (some (.int .u8 0), 1, 1) := by kernel_rfl

/-- four bytes of a number, the lowest first -/
def le4 (n : Int) : ByteArray := ⟨#[UInt8.ofNat (n % 256).toNat, UInt8.ofNat (n / 256 % 256).toNat, UInt8.ofNat (n / 65536 % 256).toNat, UInt8.ofNat (n / 16777216).toNat]⟩

set_option maxHeartbeats 1000000 in
theorem num4 (n : Int) (w : World) (h0 : 0 ≤ n) (h1 : n < 4294967296) :
    Calls Try.prog 102 #[.int .u64 n, .int .i64 4] w fun e w' =>
      e = .returned (.tuple #[.string (le4 n), .int .i64 0])
      ∧ Below w.heap.size w w' := by
  have hmk : ∀ w, (Instr.makeSlice 106 (.int .i64 4) (.int .i64 4)).run Try.prog w = .ok (.slice (some ⟨w.heap.size, 0, none⟩) 4 4) (w.alloc (.cells #[.int .u8 0, .int .u8 0, .int .u8 0, .int .u8 0] 5)) := fun _ => by kernel_rfl
  have hcv : ∀ (x0 x1 x2 x3 : Int) (w : World), (convert 106 9 (.slice (some ⟨w.heap.size, 0, none⟩) 4 4)).run Try.prog (w.alloc (.cells #[.int .u8 x0, .int .u8 x1, .int .u8 x2, .int .u8 x3] 5)) = .ok (.string ⟨#[UInt8.ofNat x0.toNat, UInt8.ofNat x1.toNat, UInt8.ofNat x2.toNat, UInt8.ofNat x3.toNat]⟩) (w.alloc (.cells #[.int .u8 x0, .int .u8 x1, .int .u8 x2, .int .u8 x3] 5)) := by
    intro x0 x1 x2 x3 w
    refine run_convert_bytes_arg _ 106 5 Try.underlying106 Try.underlying5 w.heap.size 0 4 4 [x0, x1, x2, x3] rfl ?_ 9 Try.underlying9
    intro i hi
    rw [World.cell?_alloc_mark]
    rcases i with _ | _ | _ | _ | i
    all_goals first | rfl | omega
  have h2 : (n / 4294967296 != 0) = false := by rw [bne_eq_false_iff_eq]; omega
  go_enter Try.func102, Try.ntmps102
  go_wp2
  refine wp_loop_rounds 5 ?_
  rw [rounds_succ]
  go_wp2
  rw [rounds_succ]
  go_wp2
  rw [rounds_succ]
  go_wp2
  rw [rounds_succ]
  go_wp2
  rw [rounds_succ]
  go_wp2
  go_ret2
  exact ⟨rfl, (Below.refl _ _).alloc (Nat.le_refl _) _⟩

/-- one byte of a number -/
def le1 (n : Int) : ByteArray := ⟨#[UInt8.ofNat n.toNat]⟩

set_option maxHeartbeats 1000000 in
theorem num1 (n : Int) (w : World) (h0 : 0 ≤ n) (h1 : n < 256) :
    Calls Try.prog 102 #[.int .u64 n, .int .i64 1] w fun e w' =>
      e = .returned (.tuple #[.string (le1 n), .int .i64 0])
      ∧ Below w.heap.size w w' := by
  have hmk : ∀ w, (Instr.makeSlice 106 (.int .i64 1) (.int .i64 1)).run Try.prog w = .ok (.slice (some ⟨w.heap.size, 0, none⟩) 1 1) (w.alloc (.cells #[.int .u8 0] 5)) := fun _ => by kernel_rfl
  have hcv : ∀ (x0 : Int) (w : World), (convert 106 9 (.slice (some ⟨w.heap.size, 0, none⟩) 1 1)).run Try.prog (w.alloc (.cells #[.int .u8 x0] 5)) = .ok (.string ⟨#[UInt8.ofNat x0.toNat]⟩) (w.alloc (.cells #[.int .u8 x0] 5)) := by
    intro x0 w
    refine run_convert_bytes_arg _ 106 5 Try.underlying106 Try.underlying5 w.heap.size 0 1 1 [x0] rfl ?_ 9 Try.underlying9
    intro i hi
    rw [World.cell?_alloc_mark]
    rcases i with _ | i
    all_goals first | rfl | omega
  have h2 : (n / 256 != 0) = false := by rw [bne_eq_false_iff_eq]; omega
  go_enter Try.func102, Try.ntmps102
  go_wp2
  refine wp_loop_rounds 2 ?_
  rw [rounds_succ]
  go_wp2
  rw [rounds_succ]
  go_wp2
  go_ret2
  exact ⟨rfl, (Below.refl _ _).alloc (Nat.le_refl _) _⟩

/-- a store's cell of the directory -/
def entryD (kind root : Int) : ByteArray := le1 kind ++ le4 root

set_option maxHeartbeats 1000000 in
theorem entry_any (kind root : Int) (w : World) (h0 : 0 ≤ kind) (h1 : kind < 256) (h2 : 0 ≤ root) (h3 : root < 4294967296) :
    Calls Try.prog 75 #[.int .i64 kind, .int .i64 root] w fun e w' => e = .returned (.string (entryD kind root)) ∧ Below w.heap.size w w' := by
  have n1 := Lib.hid (fun w => num1 kind w h0 h1)
  have n4 := Lib.hid (fun w => num4 root w h2 h3)
  go_enter Try.func75, Try.ntmps75
  go_wp2_with fail
  refine (n1.out _).mono ?_; rintro e w1 ⟨rfl, hb1⟩
  go_wp2_with fail
  refine (n4.out _).mono ?_; rintro e w2 ⟨rfl, hb2⟩
  go_wp2_with fail
  go_ret
  have hz := hb1.size
  exact ⟨rfl, hb1.trans (hb2.mono hz)⟩
end

/-!
  Layer 1 (octet): a reader over the five bytes of a store's cell: the contracts of Val, Reader.Bytes and Reader.Num.
-/
section
open Go.RowKit Go.Joins
set_option linter.unusedVariables false
set_option linter.unusedSimpArgs false

theorem or_mul (a b i m : Nat) (hm : m = 2 ^ i) (h : a < m) : a ||| (b * m) = b * m + a := by
  subst hm
  rw [Nat.or_comm, ← Nat.shiftLeft_eq, Nat.shiftLeft_add_eq_or_of_lt h]
theorem wrap_nat (n : Nat) (h : n < 18446744073709551616) : IntKind.u64.wrap (n : Int) = n := by
  rw [IntKind.wrap_u64]
  omega
theorem le_one (n0 : Nat) (h0 : n0 < 256) : bits .or .u64 0 (IntKind.u64.wrap (IntKind.u64.wrap (n0 : Int))) = n0 := by
  rw [wrap_nat n0 (by omega), wrap_nat n0 (by omega), show (0 : Int) = ((0 : Nat) : Int) from rfl, u64_or_nat 0 n0 (by omega) (by omega), Nat.zero_or]
theorem le_sum (n0 n1 n2 n3 : Nat) (h0 : n0 < 256) (h1 : n1 < 256) (h2 : n2 < 256) (h3 : n3 < 256) :
    bits .or .u64 (bits .or .u64 (bits .or .u64 (bits .or .u64 0 (IntKind.u64.wrap (IntKind.u64.wrap (n0 : Int)))) (IntKind.u64.wrap (IntKind.u64.wrap (n1 : Int) * 256))) (IntKind.u64.wrap (IntKind.u64.wrap (n2 : Int) * 65536))) (IntKind.u64.wrap (IntKind.u64.wrap (n3 : Int) * 16777216)) = ((n0 + 256 * n1 + 65536 * n2 + 16777216 * n3 : Nat) : Int) := by
  rw [le_one n0 h0, wrap_nat n1 (by omega), wrap_nat n2 (by omega), wrap_nat n3 (by omega), show ((n1 : Int) * 256) = ((n1 * 256 : Nat) : Int) by omega, show ((n2 : Int) * 65536) = ((n2 * 65536 : Nat) : Int) by omega, show ((n3 : Int) * 16777216) = ((n3 * 16777216 : Nat) : Int) by omega, wrap_nat _ (by omega), wrap_nat _ (by omega), wrap_nat _ (by omega),
    u64_or_nat n0 (n1 * 256) (by omega) (by omega), or_mul n0 n1 8 256 (by decide) (by omega), u64_or_nat _ (n2 * 65536) (by omega) (by omega), or_mul _ n2 16 65536 (by decide) (by omega), u64_or_nat _ (n3 * 16777216) (by omega) (by omega), or_mul _ n3 24 16777216 (by decide) (by omega)]
  omega

set_option maxHeartbeats 1000000 in
theorem val1 (b0 : UInt8) (w : World) :
    Calls Try.prog 113 #[.string ⟨#[b0]⟩] w fun e w' => e = .returned (.tuple #[.int .u64 b0.toNat, .int .i64 0]) ∧ Below w.heap.size w w' := by
  go_enter Try.func113, Try.ntmps113
  go_wp2
  refine wp_loop_rounds 2 ?_
  rw [rounds_succ]
  go_wp2
  rw [rounds_succ]
  go_wp2
  go_ret2
  exact ⟨congrArg (fun x => Ending.returned (.tuple #[.int .u64 x, .int .i64 0])) (le_one _ b0.toNat_lt), Below.refl _ _⟩

set_option maxHeartbeats 1000000 in
theorem val4 (b0 b1 b2 b3 : UInt8) (w : World) :
    Calls Try.prog 113 #[.string ⟨#[b0, b1, b2, b3]⟩] w fun e w' => e = .returned (.tuple #[.int .u64 (b0.toNat + 256 * b1.toNat + 65536 * b2.toNat + 16777216 * b3.toNat : Nat), .int .i64 0]) ∧ Below w.heap.size w w' := by
  go_enter Try.func113, Try.ntmps113
  go_wp2
  refine wp_loop_rounds 5 ?_
  rw [rounds_succ]
  go_wp2
  rw [rounds_succ]
  go_wp2
  rw [rounds_succ]
  go_wp2
  rw [rounds_succ]
  go_wp2
  rw [rounds_succ]
  go_wp2
  go_ret2
  exact ⟨congrArg (fun x => Ending.returned (.tuple #[.int .u64 x, .int .i64 0])) (le_sum _ _ _ _ b0.toNat_lt b1.toNat_lt b2.toNat_lt b3.toNat_lt), Below.refl _ _⟩

/-- the five bytes of a store's cell -/
def five (b0 b1 b2 b3 b4 : UInt8) : ByteArray := ⟨#[b0, b1, b2, b3, b4]⟩
def four (b1 b2 b3 b4 : UInt8) : ByteArray := ⟨#[b1, b2, b3, b4]⟩
def one (b0 : UInt8) : ByteArray := ⟨#[b0]⟩

set_option maxHeartbeats 2000000 in
theorem bytes1 (b0 b1 b2 b3 b4 : UInt8) (w : World) (n : Nat) (h : w.heap[n]? = some (.cells #[.string (five b0 b1 b2 b3 b4), .bool false] 197)) :
    Calls Try.prog 112 #[.pointer (some ⟨n, 0, none⟩), .int .i64 1] w fun e w' => e = .returned (.string (one b0)) ∧ w' = w.setCell ⟨n, 0, none⟩ (.string (four b1 b2 b3 b4)) := by
  have c0 := cell_of_block h 0
  have c1 := cell_of_block h 1
  simp only [List.getElem?_toArray, List.getElem?_cons_succ, List.getElem?_cons_zero] at c0 c1
  have f0 : w.frozen? ⟨n, 0, none⟩ = false := by simp [World.frozen?, h]
  have hsz : (five b0 b1 b2 b3 b4).size = 5 := rfl
  clear h
  go_enter Try.func112, Try.ntmps112
  go_wp2
  go_ret
  have e1 : (five b0 b1 b2 b3 b4).extract 0 1 = one b0 := rfl
  have e2 : (five b0 b1 b2 b3 b4).extract 1 5 = four b1 b2 b3 b4 := rfl
  exact ⟨congrArg (fun x => Ending.returned (.string x)) e1, by rw [e2]⟩

set_option maxHeartbeats 2000000 in
theorem bytes4 (b1 b2 b3 b4 : UInt8) (w : World) (n : Nat) (h : w.heap[n]? = some (.cells #[.string (four b1 b2 b3 b4), .bool false] 197)) :
    Calls Try.prog 112 #[.pointer (some ⟨n, 0, none⟩), .int .i64 4] w fun e w' => e = .returned (.string (four b1 b2 b3 b4)) ∧ w' = w.setCell ⟨n, 0, none⟩ (.string ByteArray.empty) := by
  have c0 := cell_of_block h 0
  have c1 := cell_of_block h 1
  simp only [List.getElem?_toArray, List.getElem?_cons_succ, List.getElem?_cons_zero] at c0 c1
  have f0 : w.frozen? ⟨n, 0, none⟩ = false := by simp [World.frozen?, h]
  have hsz : (four b1 b2 b3 b4).size = 4 := rfl
  clear h
  go_enter Try.func112, Try.ntmps112
  go_wp2
  go_ret
  have e1 : (four b1 b2 b3 b4).extract 0 4 = four b1 b2 b3 b4 := rfl
  exact ⟨congrArg (fun x => Ending.returned (.string x)) e1, rfl⟩

set_option maxHeartbeats 2000000 in
theorem rnum1 (b0 b1 b2 b3 b4 : UInt8) (w : World) (n : Nat) (h : w.heap[n]? = some (.cells #[.string (five b0 b1 b2 b3 b4), .bool false] 197)) :
    Calls Try.prog 95 #[.pointer (some ⟨n, 0, none⟩), .int .i64 1] w fun e w' => e = .returned (.int .u64 b0.toNat) ∧ Below w.heap.size (w.setCell ⟨n, 0, none⟩ (.string (four b1 b2 b3 b4))) w' := by
  have H := Lib.hid (bytes1 b0 b1 b2 b3 b4 w n h)
  clear h
  go_enter Try.func95, Try.ntmps95
  go_wp2_with fail
  refine (H.out).mono ?_; rintro e w1 ⟨rfl, rfl⟩
  go_wp2_with fail
  refine (val1 b0 _).mono ?_; rintro e w2 ⟨rfl, hb2⟩
  go_wp2_with fail
  go_ret
  exact ⟨rfl, hb2.mono (by go_size)⟩

set_option maxHeartbeats 2000000 in
theorem rnum4 (b1 b2 b3 b4 : UInt8) (w : World) (n : Nat) (h : w.heap[n]? = some (.cells #[.string (four b1 b2 b3 b4), .bool false] 197)) :
    Calls Try.prog 95 #[.pointer (some ⟨n, 0, none⟩), .int .i64 4] w fun e w' => e = .returned (.int .u64 (b1.toNat + 256 * b2.toNat + 65536 * b3.toNat + 16777216 * b4.toNat : Nat)) ∧ Below w.heap.size (w.setCell ⟨n, 0, none⟩ (.string ByteArray.empty)) w' := by
  have H := Lib.hid (bytes4 b1 b2 b3 b4 w n h)
  have HV := Lib.hid (fun w => val4 b1 b2 b3 b4 w)
  generalize b1.toNat + 256 * b2.toNat + 65536 * b3.toNat + 16777216 * b4.toNat = v at *
  clear h
  go_enter Try.func95, Try.ntmps95
  go_wp2_with fail
  refine (H.out).mono ?_; rintro e w1 ⟨rfl, rfl⟩
  go_wp2_with fail
  refine (HV.out _).mono ?_; rintro e w2 ⟨rfl, hb2⟩
  go_wp2_with fail
  go_ret
  exact ⟨rfl, hb2.mono (by go_size)⟩
end

/-!
  Layer 14 (space): the contracts of dir, Find, State, Make.
-/
section
open Go.RowKit Go.Joins
set_option linter.unusedVariables false
set_option linter.unusedSimpArgs false

/-- a stage whose page 0 is a directory -/
structure DirAt (S : Vol) (d : Pg) : Prop where
  e : stE S 0 = 0
  p : stPg S 0 = d
  k : d.k = 1

set_option maxHeartbeats 2000000 in
set_option maxRecDepth 100000 in
theorem dir_ok (S : Vol) (b mb hb pb : Nat) (d : Pg) (w : World) (hs : StageAt w b mb hb pb S) (hd : DirAt S d) :
    Calls Try.prog 74 #[.pointer (some ⟨b, 0, none⟩)] w fun e w' => e = .returned (.tuple #[d.v, .int .i64 0]) ∧ Below w.heap.size w w' := by
  obtain ⟨l1, l2, l3, l4⟩ := hs.lt
  have HC := Lib.hid (fun w' h => get_any S b mb hb pb 0 w' h)
  rw [hd.e, hd.p] at HC
  have HS := Lib.hid hs
  have k1 := hd.k
  clear hs hd
  go_enter Try.func74, Try.ntmps74
  go_wp2_with fail
  refine (HC.out _ (HS.out.below (B := w.heap.size) ((Below.refl w.heap.size w).alloc (Nat.le_refl _) _) ⟨l1, l2, l3, l4⟩)).mono ?_; rintro e w1 ⟨rfl, hb1⟩
  have hr1 : rowAt w1 w.heap.size = some Pg.zero.cs := (rowAt_below hb1 (by go_size)).trans (by simp [go_sem])
  have hsz := hb1.size
  simp only [World.size_alloc] at hsz
  have hb2 := (((Below.refl w.heap.size w).alloc (Nat.le_refl _) (.cells Pg.zero.cs 112)).trans (hb1.mono (by go_size)))
  have HB2 := Lib.hid hb2
  clear hb1 hb2
  have hlt1 : w.heap.size < w1.heap.size := by omega
  have hr2 : rowAt (w1.alloc (.cells d.cs 112)) w.heap.size = some Pg.zero.cs := (rowAt_past w1 _ _ hlt1).trans hr1
  go_wp2_with fail
  exact ret_page rfl rfl w.heap.size d rfl (by simp [go_sem, hr1, hlt1]) ⟨rfl, (below_setRow HB2.out _ (Nat.le_refl _)).alloc (by simp [World.setRow]; omega) _⟩

theorem results_tmp4 {fn : Func} {p q u v : Tmp} (h : fn.results = #[.tmp p, .tmp q, .tmp u, .tmp v]) (tmps : Array Value) (P : Program) (w : World) :
    (results fn tmps).run P w = .ok (.tuple #[tmps.getD p undef, tmps.getD q undef, tmps.getD u undef, tmps.getD v undef]) w := by
  simp only [results, h]
  simp [Sem.run_bind, Result.andThen]
/-- the end of a function that hands back four numbers -/
theorem ret_tmp4 {P : Program} {fn : Func} {R : Ending → World → Prop} {a : Act} {w : World} {p q u v : Tmp} (h : fn.results = #[.tmp p, .tmp q, .tmp u, .tmp v]) (hd : a.defers = [])
    (hR : R (.returned (.tuple #[a.tmps.getD p undef, a.tmps.getD q undef, a.tmps.getD u undef, a.tmps.getD v undef])) w) : bodyPost P fn R .ret a w :=
  bodyPost_ret (results_tmp4 h a.tmps P w) hd hR
theorem setCell_block {w : World} {n : Nat} {c : Array Value} {t : TypeId} (h : w.heap[n]? = some (.cells c t)) (i : Nat) (v : Value) : (w.setCell ⟨n, i, none⟩ v).heap[n]? = some (.cells (c.setIfInBounds i v) t) := by
  simp [World.setCell, Array.getElem?_modify, h]
theorem reader_any (s : ByteArray) (w : World) :
    Calls Try.prog 94 #[.string s] w fun e w' => e = .returned (.pointer (some ⟨w.heap.size, 0, none⟩)) ∧ w' = w.alloc (.cells #[.string s, .bool false] 197) := by
  go_enter Try.func94, Try.ntmps94
  go_wp2_with fail
  go_ret
  exact ⟨rfl, rfl⟩

set_option maxHeartbeats 2000000 in
set_option maxRecDepth 100000 in
/-- a store's kind, root and state, where its cell is five bytes -/
theorem find_ok (S : Vol) (b mb hb pb : Nat) (d : Pg) (w : World) (hs : StageAt w b mb hb pb S) (hd : DirAt S d) (k : Nat) (hk : k < 6) (ha : d.a k ≠ 0) (b0 b1 b2 b3 b4 : UInt8) (h5 : d.d k = five b0 b1 b2 b3 b4) :
    Calls Try.prog 68 #[.pointer (some ⟨b, 0, none⟩), .int .i64 (k + 1 : Nat)] w fun e w' => e = .returned (.tuple #[.int .i64 b0.toNat, .int .i64 (b1.toNat + 256 * b2.toNat + 65536 * b3.toNat + 16777216 * b4.toNat : Nat), .int .i64 (d.a k), .int .i64 0]) ∧ Below w.heap.size w w' := by
  obtain ⟨l1, l2, l3, l4⟩ := hs.lt
  have HD := Lib.hid (fun w' h => dir_ok S b mb hb pb d w' h hd)
  have HS := Lib.hid hs
  have ca := cs_a d k hk
  have cd := cs_d d k hk
  rw [h5] at cd
  have hn0 : (d.a k == 0) = false := by simp [ha]
  generalize d.a k = a at *
  have HV := Lib.hid (fun w n h => rnum4 b1 b2 b3 b4 w n h)
  have v0 := b0.toNat_lt
  have v1 : b1.toNat + 256 * b2.toNat + 65536 * b3.toNat + 16777216 * b4.toNat < 4294967296 := by
    have := b1.toNat_lt; have := b2.toNat_lt; have := b3.toNat_lt; have := b4.toNat_lt; omega
  generalize b1.toNat + 256 * b2.toNat + 65536 * b3.toNat + 16777216 * b4.toNat = v at *
  clear hs hd ha h5
  go_enter Try.func68, Try.ntmps68
  go_wp2_with fail
  refine (HD.out _ HS.out).mono ?_; rintro e w1 ⟨rfl, hb1⟩
  have hsz := hb1.size
  have HB1 := Lib.hid hb1
  clear hb1
  have hN := heap_alloc_new ((w1.alloc (.cells d.cs 112)).alloc (.cells #[.int .i64 a, .string (five b0 b1 b2 b3 b4)] 84)) (.cells #[.string (five b0 b1 b2 b3 b4), .bool false] 197)
  rw [World.size_alloc, World.size_alloc] at hN
  have HN := Lib.hid hN
  clear hN
  go_wp2_with fail
  refine (reader_any _ _).mono ?_; rintro e w2 ⟨rfl, rfl⟩
  go_wp2_with fail
  refine (rnum1 b0 b1 b2 b3 b4 _ _ HN.out).mono ?_; rintro e w3 ⟨rfl, hb3⟩
  have hz3 := hb3.size
  have hN3 := (hb3.block _ (by go_size)).trans (setCell_block HN.out 0 (.string (four b1 b2 b3 b4)))
  have hC3 : w3.cell? ⟨w1.heap.size + 1, 0, none⟩ = some (.int .i64 a) := by
    rw [hb3.cell (by go_size), World.cell?_setCell_far _ _ _ _ (by simp)]
    simp [go_sem]
  simp only [World.size_setCell, World.size_alloc] at hz3
  have B3 := Lib.hid (((HB1.out.alloc (by omega) (.cells d.cs 112)).alloc (by go_size) (.cells #[.int .i64 a, .string (five b0 b1 b2 b3 b4)] 84)).alloc (by go_size) (.cells #[.string (five b0 b1 b2 b3 b4), .bool false] 197) |> fun h => (below_setCell h ⟨w1.heap.size + 1 + 1, 0, none⟩ (.string (four b1 b2 b3 b4)) (by simp; omega)).trans (hb3.mono (by go_size)))
  have HN3 := Lib.hid hN3
  clear hb3 hN3
  go_wp2_with fail
  refine (HV.out _ _ HN3.out).mono ?_; rintro e w4 ⟨rfl, hb4⟩
  have hz4 := hb4.size
  have hN4 := (hb4.block _ (by go_size)).trans (setCell_block HN3.out 0 (.string ByteArray.empty))
  have hC4 : w4.cell? ⟨w1.heap.size + 1, 0, none⟩ = some (.int .i64 a) := by
    rw [hb4.cell (by go_size), World.cell?_setCell_far _ _ _ _ (by simp), hC3]
  have c0 := cell_of_block hN4 0
  have c1 := cell_of_block hN4 1
  simp only [List.setIfInBounds_toArray, List.set_cons_zero, List.getElem?_toArray, List.getElem?_cons_succ, List.getElem?_cons_zero] at c0 c1
  have B4 := Lib.hid (below_setCell B3.out ⟨w1.heap.size + 1 + 1, 0, none⟩ (.string ByteArray.empty) (by simp; omega) |>.trans (hb4.mono (by go_size)))
  clear hb4 hN4
  go_wp2
  go_region
  go_wp2
  exact ret_tmp4 rfl rfl ⟨rfl, B4.out.drew⟩
end

/-!
  Layer 14 (space): the contracts of State and Make.
-/
section
open Go.RowKit Go.Joins
set_option linter.unusedVariables false
set_option linter.unusedSimpArgs false

def Pg.setA (p : Pg) (k : Nat) (a : Int) : Pg :=
  match k with
  | 0 => { p with a0 := a }
  | 1 => { p with a1 := a }
  | 2 => { p with a2 := a }
  | 3 => { p with a3 := a }
  | 4 => { p with a4 := a }
  | _ => { p with a5 := a }
theorem cs_setA (p : Pg) (k : Nat) (h : k < 6) (x : Int) : p.cs.setIfInBounds (4 + k * 2) (.int .i64 x) = (p.setA k x).cs := by
  have h6 : k = 0 ∨ k = 1 ∨ k = 2 ∨ k = 3 ∨ k = 4 ∨ k = 5 := by omega
  rcases h6 with rfl | rfl | rfl | rfl | rfl | rfl <;> rfl

end
end Go.Proofs.Ytljommhbhpappaa
