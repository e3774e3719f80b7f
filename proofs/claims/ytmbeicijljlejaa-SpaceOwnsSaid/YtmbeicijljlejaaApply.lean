/-
  Layer 13 (stage): the contracts of Shelf.Apply (images that fit) and Stage.Drop.
-/
import Derived.Test.YtmbeicijljlejaaImages
import Derived.Test.YtmbeicijljlejaaSpace13
import Derived.Deep.MidRow
namespace Go.Proofs.Ytmbeicijljlejaa
open Go.RowKit Go.Joins
set_option linter.unusedVariables false
set_option linter.unusedSimpArgs false

@[go_sem] theorem imgCs_0 (id : Int) (p : Pg) : (imgCs id p)[0]? = some (.int .i64 id) := rfl
/-- loads, stores and new variables of an image's type, under names that the walk does not open -/
def loadImg (a : Value) : Sem Value := Instr.loadAt 93 a
def storeImg (a v : Value) : Sem Unit := Instr.storeAt 93 a v
def allocImg : Sem Value := Instr.alloc 93 true (.tuple #[])
@[go_sem ↓] theorem loadImg_eq (a : Value) : Instr.loadAt 93 a = loadImg a := rfl
@[go_sem ↓] theorem storeImg_eq (a v : Value) : Instr.storeAt 93 a v = storeImg a v := rfl
@[go_sem ↓] theorem allocImg_eq : Instr.alloc 93 true (.tuple #[]) = allocImg := rfl
@[go_sem] theorem run_allocImg (w : World) : allocImg.run Try.prog w = .ok (.pointer (some ⟨w.heap.size, 0, none⟩)) (w.alloc (.cells (imgCs 0 Pg.zero) 93)) := by kernel_rfl
theorem sizeImg : (Try.prog.info? 93).map (·.size) = some 17 := by kernel_rfl
def row17 (o : Option (Array Value)) : Bool := match o with | some c => c.size == 17 | none => false
@[go_sem] theorem row17_img (id : Int) (p : Pg) : row17 (some (imgCs id p)) = true := rfl
@[go_sem] theorem run_storeImg (w : World) (n : Nat) (id : Int) (p : Pg) (h : row17 (rowAt w n) = true) : (storeImg (.pointer (some ⟨n, 0, none⟩)) (imgV id p)).run Try.prog w = .ok () (w.setRow n (imgCs id p)) := by
  have hv : (storeVar 93 ⟨n, 0, none⟩ (imgV id p)).run Try.prog w = .ok () (w.setRow n (imgCs id p)) := by
    cases hr : rowAt w n with
    | none => rw [hr] at h; cases h
    | some c =>
      rw [hr] at h
      obtain ⟨t, ht⟩ := rowAt_heap hr
      have hs : c.size = 17 := by simpa [row17] using h
      have hst := run_storeCells_at Try.prog n 0 t (imgCs id p).toList 0 c w ht (by simp [hs, imgCs_size]) (by intro u hu; simp [imgCs] at hu; rcases hu with rfl | rfl | rfl | rfl | rfl | rfl | rfl | rfl | rfl | rfl | rfl | rfl | rfl | rfl | rfl | rfl | rfl <;> rfl)
      have e : c.toList.drop (0 + 0 + (imgCs id p).toList.length) = [] := by simp [hs, imgCs_size]
      rw [e] at hst
      cases hq : Try.prog.info? 93 with
      | none => have := sizeImg; simp [hq] at this
      | some i =>
        have hi : i.size = 17 := by have := sizeImg; simpa [hq] using this
        simp only [List.take_zero, List.nil_append, List.append_nil, Nat.add_zero, Array.toArray_toList] at hst
        simp [storeVar, Sem.run_bind, sizeOf, typeInfo, hq, hi, imgV_cells, imgCs_size, hst]
  simp only [storeImg, Instr.storeAt, Instr.sureAddr, Sem.run_bind, Sem.run_pure, Result.andThen_ok, hv]

theorem imgRow_get (I : List (Int × Pg)) (j k : Nat) (hj : j < I.length) (hk : k < 17) : (imgRow I)[j * 17 + k]? = (imgCs I[j].1 I[j].2).toList[k]? := by
  induction I generalizing j with
  | nil => simp at hj
  | cons x r ih =>
    have e : imgRow (x :: r) = (imgCs x.1 x.2).toList ++ imgRow r := rfl
    cases j with
    | zero =>
      rw [e, List.getElem?_append_left (by rw [imgCs_len]; omega)]
      simp
    | succ j =>
      rw [e, List.getElem?_append_right (by rw [imgCs_len]; omega), imgCs_len, show (j + 1) * 17 + k - 17 = j * 17 + k from by omega]
      exact ih j (by simpa using hj)
/-- an image read out of a slice of images -/
theorem load_img {w : World} {B g n c : Nat} {I : List (Int × Pg)} (h : w.ownsRow B 93 17 (.slice (some ⟨g, 0, none⟩) n c) n (imgRow I)) (j : Nat) (hj : j < I.length) :
    (loadImg (.pointer (some ⟨g, j * 17, none⟩))).run Try.prog w = .ok (imgV I[j].1 I[j].2) w := by
  have hl := h.1
  rw [imgRow_len] at hl
  exact run_loadAt_mid w g (j * 17) 93 (imgCs I[j].1 I[j].2).toList _ (fun k v hv => by
    have hk : k < 17 := (List.getElem?_eq_some_iff.1 hv).1
    rw [h.cellAt (j * 17 + k) (by omega), imgRow_get I j k hj hk]
    exact hv) Try.underlying93 rfl sizeImg
/-- the page of an image in a variable -/
theorem load_imgPage {w : World} {n : Nat} {id : Int} {p : Pg} (h : rowAt w n = some (imgCs id p)) : (loadPg (.pointer (some ⟨n, 1, none⟩))).run Try.prog w = .ok p.v w := by
  exact run_loadAt_mid w n 1 50 p.cs.toList _ (fun k v hv => by
    rw [cell_row h]
    have hk : k < 16 := (List.getElem?_eq_some_iff.1 hv).1
    have h16 : k = 0 ∨ k = 1 ∨ k = 2 ∨ k = 3 ∨ k = 4 ∨ k = 5 ∨ k = 6 ∨ k = 7 ∨ k = 8 ∨ k = 9 ∨ k = 10 ∨ k = 11 ∨ k = 12 ∨ k = 13 ∨ k = 14 ∨ k = 15 := by omega
    rw [← hv]
    rcases h16 with rfl | rfl | rfl | rfl | rfl | rfl | rfl | rfl | rfl | rfl | rfl | rfl | rfl | rfl | rfl | rfl <;> rfl) Try.underlying50 rfl infoPage

theorem rowsC_set (l : List Pg) (i : Nat) (hi : i < l.length) (p : Pg) : rowsC (l.set i p) = (rowsC l).take (i * 16) ++ p.cs.toList ++ (rowsC l).drop (i * 16 + 16) := by
  induction l generalizing i with
  | nil => simp at hi
  | cons q r ih =>
    have e : rowsC (q :: r) = q.cs.toList ++ rowsC r := rfl
    have e16 : q.cs.toList.length = 16 := rfl
    cases i with
    | zero =>
      have e2 : rowsC ((q :: r).set 0 p) = p.cs.toList ++ rowsC r := rfl
      rw [e2, e, Nat.zero_mul, List.take_zero, List.nil_append, Nat.zero_add, ← e16, List.drop_left]
    | succ i =>
      have e2 : rowsC ((q :: r).set (i + 1) p) = q.cs.toList ++ rowsC (r.set i p) := rfl
      rw [e2, e, ih i (by simpa using hi), show (i + 1) * 16 = q.cs.toList.length + i * 16 from by rw [e16]; omega, List.take_length_add_append, show q.cs.toList.length + i * 16 + 16 = q.cs.toList.length + (i * 16 + 16) from by omega, List.drop_length_add_append]
      simp only [List.append_assoc]
theorem store_shelf {w : World} {pb : Nat} {l : List Pg} (h : w.heap[pb]? = some (.cells (rowsC l).toArray 50)) (i : Nat) (hi : i < l.length) (p : Pg) :
    (storePg (.pointer (some ⟨pb, i * 16, none⟩)) p.v).run Try.prog w = .ok () (w.setRow pb (rowsC (l.set i p)).toArray) := by
  have hv : (storeVar 50 ⟨pb, i * 16, none⟩ p.v).run Try.prog w = .ok () (w.setRow pb (rowsC (l.set i p)).toArray) := by
    have hst := run_storeCells_at Try.prog pb (i * 16) 50 p.cs.toList 0 (rowsC l).toArray w h (by simp [rowsC_size, Pg.size_cs]; omega) (by intro u hu; simp [Pg.cs] at hu; rcases hu with rfl | rfl | rfl | rfl | rfl | rfl | rfl | rfl | rfl | rfl | rfl | rfl | rfl | rfl | rfl | rfl <;> rfl)
    have e16 : p.cs.toList.length = 16 := rfl
    rw [e16] at hst
    simp only [Nat.add_zero] at hst
    rw [rowsC_set l i hi p]
    cases hq : Try.prog.info? 50 with
    | none => have := infoPage; simp [hq] at this
    | some f =>
      have hf : f.size = 16 := by have := infoPage; simpa [hq] using this
      simp [storeVar, Sem.run_bind, sizeOf, typeInfo, hq, hf, Pg.cells_v, Pg.size_cs, hst]
  simp only [storePg, Instr.storeAt, Instr.sureAddr, Sem.run_bind, Sem.run_pure, Result.andThen_ok, hv]

/-- images applied to a shelf's pages -/
def appl (l : List Pg) (I : List (Int × Pg)) : List Pg := I.foldl (fun l x => l.set x.1.toNat x.2) l
theorem appl_length (l : List Pg) (I : List (Int × Pg)) : (appl l I).length = l.length := by
  unfold appl
  induction I generalizing l with
  | nil => rfl
  | cons x r ih => rw [List.foldl_cons, ih, List.length_set]
theorem appl_snoc (l : List Pg) (I : List (Int × Pg)) (x : Int × Pg) : appl l (I ++ [x]) = (appl l I).set x.1.toNat x.2 := by simp [appl]

theorem ShelfAt.set {w : World} {hb pb : Nat} {l : List Pg} (h : ShelfAt w hb pb l) (i : Nat) (p : Pg) : ShelfAt (w.setRow pb (rowsC (l.set i p)).toArray) hb pb (l.set i p) := by
  obtain ⟨h1, h2, h3, h4, h5⟩ := h
  refine ⟨?_, ?_, h3, by simpa using h4, by simpa using h5⟩
  · rw [List.length_set, setRow_other w pb hb _ h3]; exact h1
  · exact setRow_heap w pb _ _ _ (0, 0) h2
theorem grown_drew {w w' : World} {r : Option Nat} (h : w.grownBy w' r) : w.grownBy w'.drew r := ⟨h.os, h.tape, h.output, h.size, h.block⟩
theorem grown_setRow {w w' : World} {pb : Nat} (h : w.grownBy w' (some pb)) (c : Array Value) : w.grownBy (w'.setRow pb c) (some pb) :=
  ⟨h.os, h.tape, h.output, by simpa [World.setRow] using h.size, fun i hi hne => by
    rw [← h.block i hi hne]
    exact setRow_other w' pb i c (by intro e; subst e; exact hne rfl)⟩

theorem img_ne_shelf {w : World} {B g n c hb pb : Nat} {xs : List Value} {l : List Pg} (h : w.ownsRow B 93 17 (.slice (some ⟨g, 0, none⟩) n c) n xs) (hs : ShelfAt w hb pb l) : g ≠ pb := by
  intro e
  subst e
  rcases h.2 with ⟨h1, _⟩ | ⟨g', cap, cur, h1, _, h2, _⟩
  · cases h1
  · simp only [Value.slice.injEq, Option.some.injEq, Addr.mk.injEq] at h1
    rw [← h1.1.1] at h2
    rw [hs.2.1] at h2
    simp at h2

def Fits (l : List Pg) (I : List (Int × Pg)) : Prop := ∀ x ∈ I, 0 ≤ x.1 ∧ x.1 < l.length ∧ okPg x.2 = true

set_option maxHeartbeats 4000000 in
set_option maxRecDepth 100000 in
theorem apply_ok (hb pb : Nat) (l : List Pg) (I : List (Int × Pg)) (v : Value) (B : Nat) (w : World) (hs : ShelfAt w hb pb l) (hI : Fits l I) (hv : w.ownsRow B 93 17 v I.length (imgRow I)) (hn : I.length ≤ 2000) :
    Calls Try.prog 32 #[.pointer (some ⟨hb, 0, none⟩), v] w fun e w' => e = .returned (.int .i64 0) ∧ w.grownBy w' (some pb) ∧ ShelfAt w' hb pb (appl l I) := by
  have l1 := (Array.getElem?_eq_some_iff.1 hs.1).1
  have l2 := (Array.getElem?_eq_some_iff.1 hs.2.1).1
  have hll := hs.2.2.2.2
  have HS := Lib.hid hs
  have HI := Lib.hid hI
  have HV := Lib.hid hv
  obtain ⟨vp, vc, hv2⟩ : ∃ vp vc, v = .slice vp I.length vc := by
    rcases ownsRow_forms hv with ⟨h1, h2⟩ | ⟨g, c, h1⟩
    · exact ⟨_, _, by rw [h1, h2]⟩
    · exact ⟨_, _, h1⟩
  subst hv2
  clear hs hI hv
  go_enter Try.func32, Try.ntmps32
  go_wp2_with fail
  go_loopw [13] (fun i wr => ∃ j : Nat, j ≤ I.length ∧ i = .int .i64 j ∧ Below w.heap.size w wr) (fun i _ => I.length - (intOf i).toNat)
  case atStart => exact ⟨0, by omega, rfl, Below.refl _ _⟩
  case round =>
    obtain ⟨j, hj, rfl, hbl⟩ := hrel
    have hz := hbl.size
    by_cases hlt : j < I.length
    · obtain ⟨g, hg⟩ : ∃ g, vp = some ⟨g, 0, none⟩ := by
        obtain ⟨g, cap, hv⟩ := ownsRow_form HV.out (by omega)
        simp only [Value.slice.injEq] at hv
        exact ⟨g, hv.1⟩
      subst hg
      have hld := load_img (own_low HV.out hbl) j hlt
      have hfit := HI.out _ (List.getElem_mem hlt)
      have c0 := (hbl.cell (p := ⟨hb, 0, none⟩) l1).trans (cell_of_block HS.out.1 0)
      simp only [List.getElem?_toArray, List.getElem?_cons_zero] at c0
      generalize I[j] = x at *
      obtain ⟨id, p⟩ := x
      simp only at hld hfit
      obtain ⟨i, rfl⟩ := Int.eq_ofNat_of_zero_le hfit.1
      have hi : (i : Int) < (l.length : Int) := hfit.2.1
      have HC := Lib.hid (fun w' => check_any p w')
      rw [hfit.2.2] at HC
      have e0 : chkE true = 0 := rfl
      rw [e0] at HC
      have hlp := load_imgPage (rowAt_at wr (imgCs i p) 93 _ rfl)
      have HB := Lib.hid hbl
      have c1 : (wr.alloc (.cells (imgCs i p) 93)).cell? ⟨hb, 0, none⟩ = some (.slice (some ⟨pb, 0, none⟩) l.length l.length) := (((Below.refl wr.heap.size wr).alloc (Nat.le_refl _) (.cells (imgCs i p) 93)).cell (p := ⟨hb, 0, none⟩) (by show hb < wr.heap.size; omega)).trans c0
      have g1 : decide ((i : Int) < 0) = false := by simp
      have g2 : decide ((l.length : Int) ≤ (i : Int)) = false := by simp; omega
      have g3 : decide (l.length ≤ i) = false := by simp; omega
      clear hbl hfit e0
      go_wp2_with fail
      have hR : rowAt (wr.alloc (.cells (imgCs i p) 93)).drew wr.heap.size = some (imgCs i p) := rowAt_at wr _ _ _ rfl
      have k1 : (wr.alloc (.cells (imgCs i p) 93)).drew.cell? ⟨wr.heap.size, 0, none⟩ = some (.int .i64 (i : Int)) := (cell_row hR 0).trans rfl
      have k2 : (wr.alloc (.cells (imgCs i p) 93)).drew.cell? ⟨hb, 0, none⟩ = some (.slice (some ⟨pb, 0, none⟩) l.length l.length) := c1
      have k3 := load_imgPage hR
      have hhb : hb < wr.heap.size := by omega
      go_region_held3 (fun w' => w'.cell? ⟨wr.heap.size, 0, none⟩ = some (.int .i64 (i : Int)) ∧ w'.cell? ⟨hb, 0, none⟩ = some (.slice (some ⟨pb, 0, none⟩) l.length l.length) ∧ (loadPg (.pointer (some ⟨wr.heap.size, 1, none⟩))).run Try.prog w' = .ok p.v w')
        (first
          | exact ⟨k1, k2, k3⟩
          | exact ⟨(hb1.cell (p := ⟨wr.heap.size, 0, none⟩) (by simp)).trans k1, (hb1.cell (p := ⟨hb, 0, none⟩) (by simp; omega)).trans k2, load_imgPage ((rowAt_below hb1 (by simp)).trans hR)⟩)
        (first | ((go_at_call 33; refine (HC.out _).mono ?_; rintro e w1 ⟨rfl, hb1⟩)))
      have B1 : Below w.heap.size w w1 := (HB.out.alloc hz (.cells (imgCs i p) 93)).drew.trans (hb1.mono (by simp; omega))
      have HB1 := Lib.hid B1
      clear hb1 B1 k1 k2 k3 hR
      go_wp2_with fail
      go_roundw
      case rel => exact ⟨j + 1, by omega, by go_num, HB1.out⟩
      case measure => simp [intOf]; omega
    · have hje : j = I.length := by omega
      subst hje
      have HB := Lib.hid hbl
      have hs1 := Lib.hid (HS.out.below hbl l1 l2)
      have hv1 := Lib.hid (own_low HV.out hbl)
      clear hbl
      obtain ⟨wo, rfl⟩ : ∃ wo : World, wo = wr := ⟨_, rfl⟩
      go_wp2_with fail
      go_loopw [39] (fun i wr => ∃ j : Nat, j ≤ I.length ∧ i = .int .i64 j ∧ w.grownBy wr (some pb) ∧ ShelfAt wr hb pb (appl l (I.take j)) ∧ wr.ownsRow B 93 17 (.slice vp I.length vc) I.length (imgRow I)) (fun i _ => I.length - (intOf i).toNat)
      case atStart => exact ⟨0, by omega, rfl, grown_of_below HB.out _, hs1.out, hv1.out⟩
      case round =>
        obtain ⟨j, hj, rfl, hg, hs2, hv2⟩ := hrel
        have hz2 := hg.size
        by_cases hlt : j < I.length
        · obtain ⟨g, hg'⟩ : ∃ g, vp = some ⟨g, 0, none⟩ := by
            obtain ⟨g, cap, hv⟩ := ownsRow_form hv2 (by omega)
            simp only [Value.slice.injEq] at hv
            exact ⟨g, hv.1⟩
          subst hg'
          have hld := load_img hv2 j hlt
          have hfit := HI.out _ (List.getElem_mem hlt)
          have hgp := img_ne_shelf hv2 hs2
          have c0 := cell_of_block hs2.1 0
          simp only [List.getElem?_toArray, List.getElem?_cons_zero, appl_length] at c0
          have htk : I.take (j + 1) = I.take j ++ [I[j]] := by rw [List.take_succ_eq_append_getElem hlt]
          have hap := appl_snoc l (I.take j) I[j]
          rw [← htk] at hap
          clear htk
          generalize I[j] = x at *
          obtain ⟨id, p⟩ := x
          simp only at hld hfit hap
          obtain ⟨i, rfl⟩ := Int.eq_ofNat_of_zero_le hfit.1
          rw [Int.toNat_natCast] at hap
          have hi : (i : Int) < (l.length : Int) := hfit.2.1
          have hi2 : i < (appl l (I.take j)).length := by rw [appl_length]; omega
          obtain ⟨l', hl'⟩ : ∃ l', appl l (I.take j) = l' := ⟨_, rfl⟩
          rw [hl'] at hs2 hap hi2
          have hR : rowAt (wr.alloc (.cells (imgCs i p) 93)).drew wr.heap.size = some (imgCs i p) := rowAt_at wr _ _ _ rfl
          have k3 := load_imgPage hR
          have hb2 : (wr.alloc (.cells (imgCs i p) 93)).drew.heap[pb]? = some (.cells (rowsC l').toArray 50) := (Below.heap_alloc wr _ pb (by omega)).trans hs2.2.1
          have k4 := store_shelf hb2 i hi2 p
          have k2 : (wr.alloc (.cells (imgCs i p) 93)).cell? ⟨hb, 0, none⟩ = some (.slice (some ⟨pb, 0, none⟩) l.length l.length) := (((Below.refl wr.heap.size wr).alloc (Nat.le_refl _) (.cells (imgCs i p) 93)).cell (p := ⟨hb, 0, none⟩) (by show hb < wr.heap.size; omega)).trans c0
          have HS2 := Lib.hid hs2
          have HV2 := Lib.hid hv2
          have HG2 := Lib.hid hg
          have HAp := Lib.hid hap
          clear hs2 hv2 hg hap hb2 hl' hfit
          go_wp2_with fail
          go_region
          have hgr : some g ≠ some pb := by simpa using hgp
          have hsA := (HS2.out.below ((Below.refl wr.heap.size wr).alloc (Nat.le_refl _) (.cells (imgCs i p) 93)) (by omega) (by omega)).set i p
          have hgA := grown_setRow (grown_drew (HG2.out.trans (World.grownBy_alloc wr (.cells (imgCs i p) 93) (some pb)))) (rowsC (l'.set i p)).toArray
          have hvA := (HV2.out.alloc (.cells (imgCs i p) 93)).kept (grown_setRow (grown_of_below (Below.refl _ _) (some pb)) (rowsC (l'.set i p)).toArray) (.inr hgr)
          have KS := Lib.hid hsA
          have KG := Lib.hid hgA
          have KV := Lib.hid hvA
          clear hsA hgA hvA k2 k3 k4 hR hld c0
          go_wp2_with fail
          go_roundw
          case rel => exact ⟨j + 1, by omega, by go_num, KG.out, by rw [HAp.out]; exact KS.out, KV.out⟩
          case measure => simp [intOf]; omega
        · have hje : j = I.length := by omega
          subst hje
          rw [List.take_length] at hs2
          have KS := Lib.hid hs2
          have KG := Lib.hid hg
          clear hs2 hg hv2
          go_wp2_with fail
          go_ret
          exact ⟨rfl, KG.out, KS.out⟩

/-- all changes forgotten -/
theorem run_clearMap (ty : TypeId) (mb : Nat) (es : Array MapEntry) (clock : Nat) (w : World) (h : w.heap[mb]? = some (.map es clock)) : (Builtin.clear_ #[58] ty #[.map (some mb)]).run Try.prog w = .ok (.tuple #[]) (ChangeMaps.setBlock w mb (.map #[] clock)) := by
  have hg : (getObj mb).run Try.prog w = .ok (.map es clock) w := MapKept.run_getObj_map h
  have hset : (setObj mb (.map #[] clock)).run Try.prog w = .ok () (ChangeMaps.setBlock w mb (.map #[] clock)) := by
    simp only [setObj, Sem.run, h]; rfl
  unfold Builtin.clear_
  simp [run_underlying Try.underlying58, hg, hset]

set_option maxHeartbeats 1000000 in
set_option maxRecDepth 100000 in
theorem drop_ok (S : Vol) (b mb hb pb : Nat) (w : World) (hs : StageAt w b mb hb pb S) :
    Calls Try.prog 17 #[.pointer (some ⟨b, 0, none⟩)] w fun e w' => e = .returned (.tuple #[]) ∧ w.grownBy w' (some mb) ∧ StageAt w' b mb hb pb ⟨S.base, []⟩ := by
  have c1 := cell_of_block hs.1 1
  simp only [List.getElem?_toArray, List.getElem?_cons_succ, List.getElem?_cons_zero] at c1
  obtain ⟨es, clock, hm, hM, hSt⟩ := hs.2.1
  have hc := fun ty => run_clearMap ty mb es clock w hm
  have HS := Lib.hid hs
  have HM := Lib.hid hm
  clear hs hm hM hSt
  go_enter Try.func17, Try.ntmps17
  go_wp2_with fail
  go_end0
  have hg := grown_setBlock (grown_of_below (Below.refl _ w) (some mb)) (.map #[] clock)
  exact ⟨rfl, hg, HS.out.grown (M := []) hg ⟨#[], clock, ChangeMaps.heap_setBlock_same HM.out _, rfl, MapKept.stamped_empty clock⟩⟩

/-- two worlds one behind the other, each with one old block that may have been written -/
theorem Lay.drop {P : Nat → Prop} {w0 w : World} {b hb : Nat} {S : Vol} (L : Lay P w0 w b hb S) :
    Calls Try.prog 17 #[.pointer (some ⟨b, 0, none⟩)] w fun e w' => e = .returned (.tuple #[]) ∧ Lay P w0 w' b hb ⟨S.base, []⟩ := by
  obtain ⟨mb, pb, hs, h4⟩ := L.at'
  exact (drop_ok S b mb hb pb w hs).mono fun e w' ⟨he, hg, hs'⟩ => ⟨he, Lay.write L.keep L.dom h4 hg hs'⟩
end Go.Proofs.Ytmbeicijljlejaa
