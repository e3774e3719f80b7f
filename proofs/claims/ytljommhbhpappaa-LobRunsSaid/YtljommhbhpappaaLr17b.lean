/-
  Layer 17 (lob): the document's objects in memory: an object is put, or dropped.
-/
import Derived.Test.YtljommhbhpappaaLr17a
import Derived.Test.YtljommhbhpappaaAu4
import Derived.Test.YtljommhbhpappaaPkLand
namespace Go.Proofs.Ytljommhbhpappaa
open Go.RowKit Go.Joins
set_option linter.unusedVariables false
set_option linter.unusedSimpArgs false

theorem own_ne_blk {w : World} {B n s g : Nat} {e t : TypeId} {v : Value} {xs : List Value} {c : Array Value} (h : w.ownsRow B e s v n xs) (hg : w.heap[g]? = some (.cells c t)) (ht : e ≠ t) : v.ownBlock = none ∨ v.ownBlock ≠ some g := by
  rcases h.2 with ⟨rfl, _⟩ | ⟨g', cap, cur, rfl, _, hg', _⟩
  · exact .inl rfl
  · refine .inr fun e => ?_
    simp only [Value.ownBlock, Option.some.injEq] at e
    subst e
    rw [hg] at hg'
    simp only [Option.some.injEq, Obj.cells.injEq] at hg'
    exact ht hg'.2.1.symm
theorem ne_own {v : Value} {g : Nat} (h : v.ownBlock = none ∨ v.ownBlock ≠ some g) : some g ≠ v.ownBlock := fun e => by
  rcases h with h | h
  · rw [h] at e; cases e
  · exact h e.symm
theorem blk_ne17 {w : World} {a b : Nat} {ca cb : Array Value} {ta tb : TypeId} (ha : w.heap[a]? = some (.cells ca ta)) (hb : w.heap[b]? = some (.cells cb tb)) (ht : ta ≠ tb) : a ≠ b := by
  rintro rfl
  rw [ha] at hb
  simp only [Option.some.injEq, Obj.cells.injEq] at hb
  exact ht hb.2.1
theorem setCell_far17 (W : World) (a : Addr) (v : Value) (k : Nat) (h : a.block ≠ k) : (W.setCell a v).heap[k]? = W.heap[k]? := by
  simp only [World.setCell, Array.getElem?_modify, h, if_false]
theorem setCell_here17 {W : World} {b : Nat} {c : Array Value} {t : TypeId} (h : W.heap[b]? = some (.cells c t)) (i : Nat) (v : Value) : (W.setCell ⟨b, i, none⟩ v).heap[b]? = some (.cells (c.setIfInBounds i v) t) := by
  simp [World.setCell, Array.getElem?_modify, h]
theorem grown_set17 (w : World) (b i : Nat) (v : Value) : w.grownBy (w.setCell ⟨b, i, none⟩ v) (some b) :=
  ⟨rfl, rfl, rfl, by simp, fun q hq hqG => setCell_far17 w ⟨b, i, none⟩ v q (fun e => hqG (by have e2 : b = q := e; rw [e2]))⟩
theorem unfrozen17 {w : World} {b : Nat} {c : Array Value} {t : TypeId} (h : w.heap[b]? = some (.cells c t)) (i : Nat) : w.frozen? ⟨b, i, none⟩ = false := by simp [World.frozen?, h]
/-- a world in which a block of objects has turned, cell by cell, and no other old block -/
theorem objs_cell {w : World} {b : Nat} {x y : Value} {t : TypeId} (h : w.heap[b]? = some (.cells #[x, y] t)) : w.cell? ⟨b, 0, none⟩ = some x ∧ w.cell? ⟨b, 1, none⟩ = some y :=
  ⟨(cell_of_block h 0).trans rfl, (cell_of_block h 1).trans rfl⟩

/-- the document's objects: a block with two slices that are given -/
def ObjsAt (w : World) (B ob : Nat) (nv bv : Value) (L : List (Int × ByteArray)) : Prop :=
  B ≤ ob ∧ L.length ≤ 2000 ∧ w.heap[ob]? = some (.cells #[nv, bv] 53) ∧ w.ownsRow B 3 1 nv L.length (L.map fun x => .int .i64 x.1) ∧ w.ownsRow B 9 1 bv L.length (L.map fun x => .string x.2)
theorem ObjsAt.inn {w : World} {B ob : Nat} {nv bv : Value} {L : List (Int × ByteArray)} (h : ObjsAt w B ob nv bv L) : ObjsIn w B ob L := ⟨h.1, h.2.1, nv, bv, h.2.2⟩
theorem ObjsIn.at {w : World} {B ob : Nat} {L : List (Int × ByteArray)} (h : ObjsIn w B ob L) : ∃ nv bv, ObjsAt w B ob nv bv L := by
  obtain ⟨h1, h2, nv, bv, h3⟩ := h
  exact ⟨nv, bv, h1, h2, h3⟩
/-- no other old block has turned -/
def Oth17 (w w' : World) (ob : Nat) (nv bv : Value) : Prop := ∀ k, k < w.heap.size → k ≠ ob → nv.ownBlock ≠ some k → bv.ownBlock ≠ some k → w'.heap[k]? = w.heap[k]?

/-- an object is put, as values -/
def putL (num : Int) (b : ByteArray) : List (Int × ByteArray) → List (Int × ByteArray)
  | [] => [(num, b)]
  | x :: r => if x.1 = num then (num, b) :: r else x :: putL num b r
theorem putL_at (L : List (Int × ByteArray)) (num : Int) (b : ByteArray) : putL num b L = if 0 ≤ atL L num then L.set (atL L num).toNat (num, b) else L ++ [(num, b)] := by
  induction L with
  | nil => rfl
  | cons x r ih =>
    unfold putL
    by_cases h : x.1 = num
    · have : atL (x :: r) num = 0 := by simp [atL, List.findIdx?_cons, h]
      rw [if_pos h, this, if_pos (by omega)]
      rfl
    · rw [if_neg h, ih]
      have ha : atL (x :: r) num = if 0 ≤ atL r num then atL r num + 1 else -1 := by
        unfold atL
        rw [List.findIdx?_cons]
        simp only [h, decide_false]
        cases r.findIdx? (fun x => decide (x.1 = num)) with
        | none => rfl
        | some i => simp
      rw [ha]
      by_cases h2 : 0 ≤ atL r num
      · rw [if_pos h2, if_pos h2, if_pos (by omega)]
        obtain ⟨k, hk⟩ : ∃ k : Nat, atL r num = k := ⟨(atL r num).toNat, by omega⟩
        rw [hk, show ((k : Int) + 1).toNat = k + 1 from by omega]
        rfl
      · rw [if_neg h2, if_neg h2, if_neg (by omega)]
        rfl
theorem mo_put (L : List (Int × ByteArray)) (num : Int) (b : ByteArray) (n : Int) : mo (putL num b L) n = if n = num then some b else mo L n := by
  induction L with
  | nil =>
    by_cases e : num = n
    · subst e; simp [putL, mo]
    · simp [putL, mo, e, Ne.symm e]
  | cons x r ih =>
    unfold putL
    by_cases h : x.1 = num
    · rw [if_pos h]
      by_cases e : n = num
      · subst e; simp [mo]
      · rw [if_neg e]
        simp [mo, h, Ne.symm e]
    · rw [if_neg h]
      by_cases e : x.1 = n
      · have hn : n ≠ num := fun q => h (e.trans q)
        simp [mo, e, hn]
      · have := ih
        simp only [mo, List.find?_cons, e, decide_false] at this ⊢
        exact this
theorem putL_len (L : List (Int × ByteArray)) (num : Int) (b : ByteArray) : (putL num b L).length ≤ L.length + 1 := by
  induction L with
  | nil => simp [putL]
  | cons x r ih => unfold putL; split <;> simp <;> omega
def dropL (num : Int) (L : List (Int × ByteArray)) : List (Int × ByteArray) := L.filter fun x => !decide (x.1 = num)
theorem mo_drop (L : List (Int × ByteArray)) (num n : Int) : mo (dropL num L) n = if n = num then none else mo L n := by
  induction L with
  | nil => simp [dropL, mo]
  | cons x r ih =>
    unfold dropL at ih ⊢
    rw [List.filter_cons]
    by_cases h : x.1 = num
    · rw [if_neg (by simp [h]), ih]
      by_cases e : n = num
      · rw [if_pos e, if_pos e]
      · rw [if_neg e, if_neg e]
        simp [mo, h, Ne.symm e]
    · rw [if_pos (by simp [h])]
      by_cases e : x.1 = n
      · have hn : n ≠ num := fun q => h (e.trans q)
        simp [mo, e, hn]
      · simp only [mo, List.find?_cons, e, decide_false] at ih ⊢
        exact ih

set_option maxHeartbeats 8000000 in
set_option maxRecDepth 100000 in
theorem oput_any {w : World} {B ob : Nat} {nv bv : Value} {L : List (Int × ByteArray)} (h : ObjsAt w B ob nv bv L) (hl : L.length < 2000) (hB : B ≤ w.heap.size) (num : Int) (b : ByteArray) :
    Calls Try.prog 29 #[.pointer (some ⟨ob, 0, none⟩), .int .i64 num, .string b] w fun e w' => e = .returned (.tuple #[]) ∧ ObjsIn w' B ob (putL num b L) ∧ Below B w w' ∧ Oth17 w w' ob nv bv := by
  have HF := Lib.hid (ofind_any h.inn num)
  obtain ⟨h1, h2, h3, h4, h5⟩ := h
  rw [putL_at]
  rcases atL_cases L num with ⟨e, hno⟩ | ⟨i, hi, e, hin⟩
  · rw [e] at HF
    rw [e, if_neg (by decide)]
    obtain ⟨j0, ji, jz0, jz1, jz2⟩ := info_parts infoInt22
    obtain ⟨q0, qi, qz0, qz1, qz2⟩ := info_parts infoStr17
    have n4 := own_ne_blk h4 h3 (by decide)
    have n5 := own_ne_blk h5 h3 (by decide)
    have n45 := own_ne h5 h4 (by decide)
    obtain ⟨na, nc, rfl, hna⟩ := own_form22 h4
    obtain ⟨ba, bc, rfl, hba⟩ := own_form22 h5
    have hlt := (Array.getElem?_eq_some_iff.1 h3).1
    have H3 := Lib.hid h3
    have H5 := Lib.hid h5
    have N4 := Lib.hid n4
    have N5 := Lib.hid n5
    have N45 := Lib.hid n45
    obtain ⟨c0, c1⟩ := objs_cell h3
    have f0 := unfrozen17 h3 0
    have O4 := h4
    clear hna hba e h3 h4 h5 n4 n5 n45 hno
    go_enter Try.func29, Try.ntmps29
    go_wp2_with fail
    with_reducible refine HF.out.mono ?_; rintro e w1 ⟨rfl, rfl⟩
    go_wp2_with (at_builtin; refine wpList_append_own _ rfl _ _ 28 rfl B 3 j0 _ 1 8 Try.underlying28 ji jz0 jz1 jz2 rfl (by decide) _ _ _ rfl (O4.alloc _) ⟨w.heap.size, 0, none⟩ 1 1 [.int .i64 num] rfl rfl ?c1 ?c2 ?c3 ?c4 ?c5 ?_)
    case c1 => exact cell_one_new _ _ _
    case c2 => simp [Value.oneCell']
    case c3 => simp only [maxLen]; omega
    case c4 => omega
    case c5 => first | omega | (simp; omega)
    intro v3 w3 hown3 hgrow _
    obtain ⟨a3, cc3, rfl, -⟩ := own_form22 hown3
    have oth3 : ∀ k, k < w.heap.size → (Value.slice na L.length nc).ownBlock ≠ some k → w3.heap[k]? = w.heap[k]? := fun k hk hn => (hgrow.block k (by go_size) (Ne.symm hn)).trans (((Below.refl w.heap.size w).alloc (Nat.le_refl _) _).block k hk)
    have OTH3 := Lib.hid oth3
    clear oth3
    have hz3 : w.heap.size ≤ w3.heap.size := by have := hgrow.size; rw [World.size_alloc] at this; omega
    have hB3 : Below B w w3 := ((Below.refl _ _).alloc hB _).grown hgrow (by go_size) (fun q hq => (O4.lt q hq).1)
    have K3 : w3.heap[ob]? = _ := (hgrow.block ob (by go_size) (ne_own N4.out)).trans (((Below.refl w.heap.size w).alloc (Nat.le_refl _) _).block ob hlt |>.trans H3.out)
    have O5 := (H5.out.alloc (.cells #[.int .i64 num] 3)).kept hgrow N45.out
    have c0' := (objs_cell K3).1
    have f0' := unfrozen17 K3 0
    have K4 : (w3.setCell ⟨ob, 0, none⟩ (.slice a3 (L.length + 1) cc3)).heap[ob]? = some (.cells #[.slice a3 (L.length + 1) cc3, .slice ba L.length bc] 53) := setCell_here17 K3 0 (.slice a3 (L.length + 1) cc3)
    have c1' := (objs_cell K4).2
    have O5' := O5.kept (grown_set17 w3 ob 0 (.slice a3 (L.length + 1) cc3)) N5.out
    have hB4 := below_setCell hB3 ⟨ob, 0, none⟩ (.slice a3 (L.length + 1) cc3) h1
    have O3 := hown3.kept (grown_set17 w3 ob 0 (.slice a3 (L.length + 1) cc3)) (own_ne_blk hown3 K3 (by decide))
    have n53 := own_ne O3 O5' (by decide)
    have P3 := Lib.hid O3
    have K4' := Lib.hid K4
    have B4 := Lib.hid hB4
    have hz4 : (w3.setCell ⟨ob, 0, none⟩ (.slice a3 (L.length + 1) cc3)).heap.size = w3.heap.size := by simp
    have N53 := Lib.hid n53
    have n5o := Lib.hid (own_ne_blk O5' K4 (by decide))
    have n3o := fun W (hW : W.heap[ob]? = some (.cells #[.slice a3 (L.length + 1) cc3, .slice ba L.length bc] 53)) (hO : World.ownsRow W B 3 1 (.slice a3 (L.length + 1) cc3) (L.length + 1) (L.map (fun x => Value.int .i64 x.1) ++ [.int .i64 num])) => own_ne_blk hO hW (by decide)
    clear O5 hB3 K3 K4 hB4 hown3 hgrow O4 O3 n53 c0 c1 f0
    go_wp2_with (at_builtin; refine wpList_append_own _ rfl _ _ 27 rfl B 9 q0 _ 1 16 Try.underlying27 qi qz0 qz1 qz2 rfl (by decide) _ _ _ rfl (O5'.alloc _) ⟨w3.heap.size, 0, none⟩ 1 1 [.string b] rfl rfl ?d1 ?d2 ?d3 ?d4 ?d5 ?_)
    case d1 => exact fun j u hj => by have := cell_one_new (w3.setCell ⟨ob, 0, none⟩ (.slice a3 (L.length + 1) cc3)) (.string b) 9 j u hj; rwa [hz4] at this
    case d2 => simp [Value.oneCell']
    case d3 => simp only [maxLen]; omega
    case d4 => omega
    case d5 => first | omega | (simp; omega)
    intro v6 w6 hown6 hgrow6 _
    obtain ⟨a6, cc6, rfl, -⟩ := own_form22 hown6
    have K6 : w6.heap[ob]? = _ := (hgrow6.block ob (by go_size) (ne_own n5o.out)).trans (((Below.refl _ (w3.setCell ⟨ob, 0, none⟩ (.slice a3 (L.length + 1) cc3))).alloc (Nat.le_refl _) _).block ob (by go_size) |>.trans K4'.out)
    have oth6 : ∀ k, k < w3.heap.size → k ≠ ob → (Value.slice ba L.length bc).ownBlock ≠ some k → w6.heap[k]? = w3.heap[k]? := fun k hk ho hn => (hgrow6.block k (by go_size) (Ne.symm hn)).trans ((((Below.refl (w3.setCell ⟨ob, 0, none⟩ (.slice a3 (L.length + 1) cc3)).heap.size (w3.setCell ⟨ob, 0, none⟩ (.slice a3 (L.length + 1) cc3))).alloc (Nat.le_refl _) _).block k (by go_size)).trans (setCell_far17 w3 ⟨ob, 0, none⟩ _ k (Ne.symm ho)))
    have P6 := (P3.out.alloc (.cells #[.string b] 9)).kept hgrow6 (N53.out.elim .inl fun x => .inr x)
    have B6 : Below B w w6 := (B4.out.alloc (by rw [hz4]; omega) _).grown hgrow6 (by go_size) (fun q hq => (O5'.lt q hq).1)
    have d1 := (objs_cell K6).2
    have g1 := unfrozen17 K6 1
    have K7 := setCell_here17 K6 1 (.slice a6 (L.length + 1) cc6)
    have P7 := P6.kept (grown_set17 w6 ob 1 (.slice a6 (L.length + 1) cc6)) (own_ne_blk P6 K6 (by decide))
    have Q7 := hown6.kept (grown_set17 w6 ob 1 (.slice a6 (L.length + 1) cc6)) (own_ne_blk hown6 K6 (by decide))
    have hfin : Hid (ObjsIn (w6.setCell ⟨ob, 1, none⟩ (.slice a6 (L.length + 1) cc6)) B ob (L ++ [(num, b)]) ∧ Below B w (w6.setCell ⟨ob, 1, none⟩ (.slice a6 (L.length + 1) cc6)) ∧ Oth17 w (w6.setCell ⟨ob, 1, none⟩ (.slice a6 (L.length + 1) cc6)) ob (.slice na L.length nc) (.slice ba L.length bc)) := Lib.hid ⟨⟨h1, by simp; omega, _, _, K7, by simpa using P7, by simpa using Q7⟩, below_setCell B6 _ _ h1, fun k hk ho hn hb2 => (setCell_far17 w6 ⟨ob, 1, none⟩ _ k (Ne.symm ho)).trans ((oth6 k (by omega) ho hb2).trans (OTH3.out k hk hn))⟩
    clear oth6
    clear hown6 hgrow6 K6 P6 B6 K7 P7 Q7 O5'
    go_wp2_with fail
    go_end0
    exact ⟨rfl, hfin.out.1, hfin.out.2.1, hfin.out.2.2⟩
  · rw [e] at HF
    rw [e, if_pos (by omega), Int.toNat_natCast]
    obtain ⟨ba, bc, rfl, hba⟩ := own_form22 h5
    obtain ⟨G, rfl, hBG, cur, hG⟩ := hba (by omega)
    have c1 := (cell_of_block h3 1).trans rfl
    have hob := own_ne_blk h5 h3 (by decide)
    have ci := own_cell22 h5 i (.string L[i].2) (by simp [hi])
    have hset := own_set22 h5 i (by omega) (.string b)
    have hnum : (L.set i (num, b)).map (fun x => Value.int .i64 x.1) = L.map (fun x => Value.int .i64 x.1) := by
      apply List.ext_getElem
      · simp
      · intro j q1 q2
        simp only [List.getElem_map, List.getElem_set]
        split
        · rename_i e2; subst e2; rw [hin]
        · rfl
    have hstr : (L.set i (num, b)).map (fun x => Value.string x.2) = (L.map (fun x => Value.string x.2)).set i (.string b) := List.map_set
    have fG : w.frozen? ⟨G, i, none⟩ = false := by simp [World.frozen?, hG]
    have hne := own_ne h4 h5 (by decide)
    have hGob : G ≠ ob := blk_ne17 hG h3 (by decide)
    have hgr : w.grownBy (w.setCell ⟨G, i, none⟩ (.string b)) (some G) := grown_set17 w G i _
    have hfin : Hid (ObjsIn (w.setCell ⟨G, i, none⟩ (.string b)) B ob (L.set i (num, b)) ∧ Below B w (w.setCell ⟨G, i, none⟩ (.string b)) ∧ Oth17 w (w.setCell ⟨G, i, none⟩ (.string b)) ob nv (.slice (some ⟨G, 0, none⟩) L.length bc)) := Lib.hid ⟨⟨h1, by simpa using h2, nv, _, (setCell_far17 w ⟨G, i, none⟩ _ ob hGob).trans h3, by rw [hnum, List.length_set]; exact h4.kept hgr hne, by rw [hstr, List.length_set]; exact hset⟩, below_setCell (Below.refl B w) _ _ hBG, fun k hk ho hn hb2 => setCell_far17 w ⟨G, i, none⟩ _ k (fun e => hb2 (by have e2 : G = k := e; rw [← e2]; rfl))⟩
    clear h3 h4 h5 hba hob hset hnum hstr hne hgr hin e
    go_enter Try.func29, Try.ntmps29
    go_wp2_with fail
    with_reducible refine HF.out.mono ?_; rintro e w1 ⟨rfl, rfl⟩
    go_wp2_with fail
    exact bodyPost_ret (results_none rfl _ _ _) rfl ⟨rfl, hfin.out.1, hfin.out.2.1, hfin.out.2.2⟩

theorem drop_take (L : List (Int × ByteArray)) (num : Int) (i : Nat) (hi : i < L.length) : dropL num (L.take (i + 1)) = dropL num (L.take i) ++ (if L[i].1 = num then [] else [L[i]]) := by
  unfold dropL
  rw [List.take_succ_eq_append_getElem hi, List.filter_append]
  by_cases h : L[i].1 = num <;> simp [h]
theorem drop_len (L : List (Int × ByteArray)) (num : Int) : (dropL num L).length ≤ L.length := List.length_filter_le _ _
set_option maxHeartbeats 8000000 in
set_option maxRecDepth 100000 in
theorem odrop_any {w : World} {B ob : Nat} {nv bv : Value} {L : List (Int × ByteArray)} (h : ObjsAt w B ob nv bv L) (hB : B ≤ w.heap.size) (num : Int) :
    Calls Try.prog 28 #[.pointer (some ⟨ob, 0, none⟩), .int .i64 num] w fun e w' => e = .returned (.tuple #[]) ∧ ObjsIn w' B ob (dropL num L) ∧ Below B w w' ∧ Oth17 w w' ob nv bv := by
  obtain ⟨j0, ji, jz0, jz1, jz2⟩ := info_parts infoInt22
  obtain ⟨q0, qi, qz0, qz1, qz2⟩ := info_parts infoStr17
  obtain ⟨h1, h2, h3, h4, h5⟩ := h
  obtain ⟨na, nc, rfl, hna⟩ := own_form22 h4
  obtain ⟨ba, bc, rfl, hba⟩ := own_form22 h5
  have hlt := (Array.getElem?_eq_some_iff.1 h3).1
  have H3 := Lib.hid h3
  have H4 := Lib.hid h4
  have H5 := Lib.hid h5
  have HNA := Lib.hid hna
  have HBA := Lib.hid hba
  have HD := Lib.hid (drop_take L num)
  have HDL := Lib.hid (fun i => Nat.le_trans (drop_len (L.take i) num) (by rw [List.length_take]; omega : (L.take i).length ≤ L.length))
  have HDF : Hid (dropL num (L.take L.length) = dropL num L) := Lib.hid (by rw [List.take_length])
  have HD0 : Hid (dropL num (L.take 0) = []) := Lib.hid (by simp [dropL])
  clear h3 h4 h5 hna hba
  go_enter Try.func28, Try.ntmps28
  go_wp2_with fail
  go_loopw [4, 5, 6] (fun a b v wr => ∃ i : Nat, i ≤ L.length ∧ v = .int .i64 i ∧ Below w.heap.size w wr ∧ ∃ R : List (Int × ByteArray), dropL num (L.take i) = R ∧ wr.ownsRow w.heap.size 3 1 a R.length (R.map fun x => .int .i64 x.1) ∧ wr.ownsRow w.heap.size 9 1 b R.length (R.map fun x => .string x.2)) (fun _ _ v _ => L.length - (intOf v).toNat)
  case atStart => exact ⟨0, by omega, rfl, Below.refl _ _, [], HD0.out, World.ownsRow_nil _ _ _ _, World.ownsRow_nil _ _ _ _⟩
  case round =>
    obtain ⟨i, hi, rfl, hbw, R, hR, hoa, hob⟩ := hrel
    have hz := hbw.size
    have K3 := (hbw.block ob hlt).trans H3.out
    obtain ⟨c0, c1⟩ := objs_cell K3
    have f0 := unfrozen17 K3 0
    by_cases hli : i < L.length
    · have hsucc := HD.out i hli
      have hRl := HDL.out i
      rw [hR] at hsucc hRl
      obtain ⟨Gn, rfl, hBn, -⟩ := HNA.out (by omega)
      obtain ⟨Gb, rfl, hBb, -⟩ := HBA.out (by omega)
      have ci := own_cell22 (own_low22 H4.out hbw) i (.int .i64 L[i].1) (by simp [hli])
      have cb : ∀ W, Below w.heap.size w W → W.cell? ⟨Gb, i, none⟩ = some (.string L[i].2) := fun W hW => own_cell22 (own_low22 H5.out hW) i (.string L[i].2) (by simp [hli])
      have hi1 : (i : Int) < (L.length : Int) := by omega
      by_cases he : L[i].1 = num
      · rw [if_pos he, List.append_nil] at hsucc
        have he1 : (L[i].1 != num) = false := by simpa using he
        have HS := Lib.hid hsucc
        have HB := Lib.hid hbw
        have HOA := Lib.hid hoa
        have HOB := Lib.hid hob
        clear he hsucc cb hbw hoa hob hR K3
        generalize L[i].1 = x at *
        go_wp2_with fail
        go_roundw
        case rel => exact ⟨i + 1, by omega, by go_num, HB.out, R, HS.out, HOA.out, HOB.out⟩
        case measure => simp [intOf]; omega
      · rw [if_neg he] at hsucc
        have he1 : (L[i].1 != num) = true := by simpa using he
        have HS := Lib.hid hsucc
        have HB := Lib.hid hbw
        have HOB := Lib.hid hob
        have HCB := Lib.hid cb
        have HAB := Lib.hid (own_ne hob hoa (by decide))
        clear he hsucc cb hob hR K3
        generalize L[i] = xx at *
        obtain ⟨x, y⟩ := xx
        simp only at *
        go_wp2_with (at_builtin; refine wpList_append_own _ rfl _ _ 28 rfl w.heap.size 3 j0 _ 1 8 Try.underlying28 ji jz0 jz1 jz2 rfl (by decide) _ _ _ rfl (hoa.alloc _) ⟨wr.heap.size, 0, none⟩ 1 1 [.int .i64 x] rfl rfl ?c1 ?c2 ?c3 ?c4 ?c5 ?_)
        case c1 => exact cell_one_new _ _ _
        case c2 => simp [Value.oneCell']
        case c3 => simp only [maxLen]; omega
        case c4 => omega
        case c5 => first | omega | (simp; omega)
        intro v5 w5 hoa5 hgrow _
        have hb5 : Below w.heap.size w w5 := (hbw.alloc hz _).grown hgrow (by go_size) (fun q hq => (hoa.lt q hq).1)
        have hob5 := (HOB.out.alloc (.cells #[.int .i64 x] 3)).kept hgrow HAB.out
        have HAB5 := Lib.hid (own_ne hoa5 hob5 (by decide))
        have hz5 := hb5.size
        have K5 := (hb5.block ob hlt).trans H3.out
        obtain ⟨d0, d1⟩ := objs_cell K5
        have cb5 := HCB.out w5 hb5
        have HOA5 := Lib.hid hoa5
        clear hoa hgrow hbw c0 c1 f0 ci K5 hoa5
        go_wp2_with (at_builtin; refine wpList_append_own _ rfl _ _ 27 rfl w.heap.size 9 q0 _ 1 16 Try.underlying27 qi qz0 qz1 qz2 rfl (by decide) _ _ _ rfl (hob5.alloc _) ⟨w5.heap.size, 0, none⟩ 1 1 [.string y] rfl rfl ?d1 ?d2 ?d3 ?d4 ?d5 ?_)
        case d1 => exact cell_one_new _ _ _
        case d2 => simp [Value.oneCell']
        case d3 => simp only [maxLen]; omega
        case d4 => omega
        case d5 => first | omega | (simp; omega)
        intro v7 w7 hob7 hgrow7 _
        have hb7 : Below w.heap.size w w7 := (hb5.alloc hz5 _).grown hgrow7 (by go_size) (fun q hq => (hob5.lt q hq).1)
        have hoa7 := (HOA5.out.alloc (.cells #[.string y] 9)).kept hgrow7 HAB5.out
        clear hob5 hgrow7 hb5 d0 d1 cb5
        go_wp2_with fail
        go_roundw
        case rel => exact ⟨i + 1, by omega, by go_num, hb7, R ++ [(x, y)], HS.out, by simpa using hoa7, by simpa using hob7⟩
        case measure => simp [intOf]; omega
    · have hie : i = L.length := by omega
      subst hie
      rw [HDF.out] at hR
      subst hR
      obtain ⟨a1, ca, rfl, -⟩ := own_form22 hoa
      obtain ⟨b1, cb1, rfl, -⟩ := own_form22 hob
      have n4 := own_ne_blk hoa K3 (by decide)
      have K4 := setCell_here17 K3 0 (.slice a1 (dropL num L).length ca)
      have hoa4 := hoa.kept (grown_set17 wr ob 0 (.slice a1 (dropL num L).length ca)) n4
      have hob4 := hob.kept (grown_set17 wr ob 0 (.slice a1 (dropL num L).length ca)) (own_ne_blk hob K3 (by decide))
      have c1' := (objs_cell K4).2
      have f1' := unfrozen17 K4 1
      have K6 := setCell_here17 K4 1 (.slice b1 (dropL num L).length cb1)
      have hoa6 := hoa4.kept (grown_set17 _ ob 1 (.slice b1 (dropL num L).length cb1)) (own_ne_blk hoa4 K4 (by decide))
      have hob6 := hob4.kept (grown_set17 _ ob 1 (.slice b1 (dropL num L).length cb1)) (own_ne_blk hob4 K4 (by decide))
      have hfin : Hid (ObjsIn ((wr.setCell ⟨ob, 0, none⟩ (.slice a1 (dropL num L).length ca)).setCell ⟨ob, 1, none⟩ (.slice b1 (dropL num L).length cb1)) B ob (dropL num L) ∧ Below B w ((wr.setCell ⟨ob, 0, none⟩ (.slice a1 (dropL num L).length ca)).setCell ⟨ob, 1, none⟩ (.slice b1 (dropL num L).length cb1)) ∧ Oth17 w ((wr.setCell ⟨ob, 0, none⟩ (.slice a1 (dropL num L).length ca)).setCell ⟨ob, 1, none⟩ (.slice b1 (dropL num L).length cb1)) ob (.slice na L.length nc) (.slice ba L.length bc)) := Lib.hid ⟨⟨h1, Nat.le_trans (drop_len L num) h2, _, _, K6, ownsRow_le hoa6 hB, ownsRow_le hob6 hB⟩, below_setCell (below_setCell (hbw.mono hB) _ _ h1) _ _ h1, fun k hk ho hn hb2 => (setCell_far17 _ ⟨ob, 1, none⟩ _ k (Ne.symm ho)).trans ((setCell_far17 _ ⟨ob, 0, none⟩ _ k (Ne.symm ho)).trans (hbw.block k hk))⟩
      clear K3 hoa hob hbw n4 hoa4 hob4 K6 hoa6 hob6 K4
      go_wp2_with fail
      go_end0
      exact ⟨rfl, hfin.out.1, hfin.out.2.1, hfin.out.2.2⟩
end Go.Proofs.Ytljommhbhpappaa
