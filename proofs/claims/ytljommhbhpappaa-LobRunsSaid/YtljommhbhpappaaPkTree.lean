/-
  Several texts in one: TreeM, Tree1, Tree2, TreeP, Tree3.
-/
import Derived.Test.YtljommhbhpappaaPkNode
namespace Go.Proofs.Ytljommhbhpappaa
/-!
  Layer 16 (tree), plain law: trees as values, level by level; leaves, pages, order; where a key belongs.
-/
section
open Go.RowKit Go.Joins
set_option linter.unusedVariables false
set_option linter.unusedSimpArgs false

/-- a tree of so many levels above its leaves -/
def Tr : Nat → Type
  | 0 => Int × List NC
  | n + 1 => Int × List (ByteArray × Tr n)
/-- the page on which it stands -/
def Tr.id : (n : Nat) → Tr n → Int
  | 0, t => t.1
  | _ + 1, t => t.1
/-- that page's cells -/
def Tr.cells : (n : Nat) → Tr n → List NC
  | 0, t => t.2
  | n + 1, t => t.2.map fun x => ⟨x.1, 1, le4 (Tr.id n x.2)⟩
def kidsOf {n : Nat} (t : Tr (n + 1)) : List (ByteArray × Tr n) := t.2
def Tr.leaves : (n : Nat) → Tr n → List (Int × List NC)
  | 0, t => [(t.1, t.2)]
  | n + 1, t => (kidsOf t).flatMap fun x => Tr.leaves n x.2
def Tr.ids : (n : Nat) → Tr n → List Int
  | 0, t => [t.1]
  | n + 1, t => t.1 :: (kidsOf t).flatMap fun x => Tr.ids n x.2
theorem cells_succ {n : Nat} (t : Tr (n + 1)) : Tr.cells (n + 1) t = (kidsOf t).map fun x => ⟨x.1, 1, le4 (Tr.id n x.2)⟩ := rfl
theorem id_mem : ∀ (n : Nat) (t : Tr n), Tr.id n t ∈ Tr.ids n t
  | 0, t => List.mem_cons_self ..
  | n + 1, t => List.mem_cons_self ..
/-- a node that may be -/
def NodeOk (n : Nat) (L : List NC) : Prop := L.length ≤ 6 ∧ Rising L ∧ (n = 0 → ∀ c ∈ L, c.leaf) ∧ (n ≠ 0 → (∀ c ∈ L, c.inner) ∧ ∃ h : 0 < L.length, L[0].key = ByteArray.empty)
def Tr.Good : (n : Nat) → Tr n → Prop
  | 0, t => NodeOk 0 (Tr.cells 0 t)
  | n + 1, t => NodeOk (n + 1) (Tr.cells (n + 1) t) ∧ ∀ x ∈ kidsOf t, Tr.Good n x.2
theorem Tr.Good.node : ∀ {n : Nat} {t : Tr n}, Tr.Good n t → NodeOk n (Tr.cells n t)
  | 0, _, h => h
  | _ + 1, _, h => h.1
/-- the pages of the inner nodes -/
def Tr.Inner (S : Vol) (st : Int) : (n : Nat) → Tr n → Prop
  | 0, _ => True
  | n + 1, t => stPg S t.1 = ndPg (n + 1 : Nat) st 0 (Tr.cells (n + 1) t) ∧ ∀ x ∈ kidsOf t, Tr.Inner S st n x.2
def nextOf (l : List (Int × List NC)) (nxt : Int) : Int := match l with | [] => nxt | x :: _ => x.1
/-- the pages of the leaves, each with the next one's number -/
def LeafAll (S : Vol) (st : Int) : List (Int × List NC) → Int → Prop
  | [], _ => True
  | x :: r, nxt => stPg S x.1 = ndPg 0 st (nextOf r nxt) x.2 ∧ LeafAll S st r nxt
theorem LeafAll.split {S : Vol} {st : Int} : ∀ {a b : List (Int × List NC)} {nxt : Int}, LeafAll S st (a ++ b) nxt ↔ LeafAll S st a (nextOf b nxt) ∧ LeafAll S st b nxt
  | [], b, nxt => by simp [LeafAll]
  | x :: r, b, nxt => by
    have ih := LeafAll.split (S := S) (st := st) (a := r) (b := b) (nxt := nxt)
    have e : nextOf (r ++ b) nxt = nextOf r (nextOf b nxt) := by cases r <;> rfl
    simp only [List.cons_append, LeafAll, ih, e, and_assoc]
theorem LeafAll.mem {S : Vol} {st : Int} : ∀ {l : List (Int × List NC)} {nxt : Int}, LeafAll S st l nxt → ∀ x ∈ l, ∃ nx, stPg S x.1 = ndPg 0 st nx x.2
  | x :: r, nxt, h, y, hy => by
    rcases List.mem_cons.1 hy with rfl | hy
    · exact ⟨_, h.1⟩
    · exact LeafAll.mem h.2 y hy

/-- the leaf that a key belongs to -/
def Tr.leaf (key : ByteArray) : (n : Nat) → Tr n → Int × List NC
  | 0, t => (t.1, t.2)
  | n + 1, t => match (kidsOf t)[downL key (Tr.cells (n + 1) t)]? with
    | some x => Tr.leaf key n x.2
    | none => (0, [])

/-! ## Find and Down on cells that rise -/
theorem findL_spec {key : ByteArray} : ∀ {L : List NC} {i : Nat}, Rising L → ∃ j, (findL key L i).1 = i + j ∧ j ≤ L.length ∧ (∀ k (h : k < L.length), k < j → KLt L[k].key key) ∧ (∀ k (h : k < L.length), j ≤ k → ¬ KLt L[k].key key) ∧ ((findL key L i).2 = true ↔ ∃ h : j < L.length, L[j].key = key)
  | [], i, _ => ⟨0, rfl, Nat.le_refl _, fun k h => by simp at h, fun k h => by simp at h, by simp [findL]⟩
  | c :: r, i, hr => by
    have hr' := (List.pairwise_cons.1 hr)
    by_cases hc : KLt c.key key
    · obtain ⟨j, h1, h2, h3, h4, h5⟩ := findL_spec (key := key) (L := r) (i := i + 1) hr'.2
      refine ⟨j + 1, ?_, by simp; omega, fun k hk hkj => ?_, fun k hk hkj => ?_, ?_⟩
      · simp only [findL, hc, if_true, h1]; omega
      · rcases k with _ | k
        · exact hc
        · exact h3 k (by simpa using hk) (by omega)
      · rcases k with _ | k
        · omega
        · exact h4 k (by simpa using hk) (by omega)
      · simp only [findL, hc, if_true, h5, List.length_cons, List.getElem_cons_succ]
        constructor
        · rintro ⟨h, e⟩; exact ⟨by omega, e⟩
        · rintro ⟨h, e⟩; exact ⟨by omega, e⟩
    · refine ⟨0, ?_, by simp, fun k hk hkj => by omega, fun k hk hkj => ?_, ?_⟩
      · simp [findL, hc]
      · rcases k with _ | k
        · exact hc
        · intro h
          have := hr'.1 _ (List.getElem_mem (by simpa using hk : k < r.length))
          exact hc (this.trans h)
      · simp [findL, hc]
theorem downL_spec {key : ByteArray} {L : List NC} (hr : Rising L) (h0 : 0 < L.length) (he : L[0].key = ByteArray.empty) : ∃ h : downL key L < L.length, ¬ KLt key (L[downL key L].key) ∧ ∀ k (hk : k < L.length), downL key L < k → KLt key L[k].key := by
  obtain ⟨j, h1, h2, h3, h4, h5⟩ := findL_spec (key := key) (L := L) (i := 0) hr
  have hj : (findL key L 0).1 = j := by omega
  unfold downL
  rw [hj]
  by_cases hb : (findL key L 0).2 = true
  · obtain ⟨hl, e⟩ := h5.1 hb
    rw [if_pos (Or.inl hb)]
    refine ⟨hl, by rw [e]; exact KLt.irrefl _, fun k hk hjk => ?_⟩
    rw [← e]
    exact List.pairwise_iff_getElem.1 hr j k hl hk hjk
  · by_cases hz : j = 0
    · subst hz
      rw [if_pos (Or.inr rfl)]
      refine ⟨h0, by rw [he]; exact KLt.empty _, fun k hk hjk => ?_⟩
      have a1 := h4 k hk (by omega)
      have a2 : ¬ L[0].key = key := fun e => hb (h5.2 ⟨h0, e⟩)
      have a3 := List.pairwise_iff_getElem.1 hr 0 k h0 hk hjk
      exact KLt.of_not a1 (fun e => by
        rw [he] at a3 a2
        have := h4 0 h0 (by omega)
        rw [he] at this
        exact this (KLt.pos (fun q => a2 q.symm)))
    · rw [if_neg (by simp [hb, hz])]
      have hj1 : j - 1 < L.length := by omega
      refine ⟨hj1, (h3 (j - 1) hj1 (by omega)).asymm, fun k hk hjk => ?_⟩
      have a1 := h4 k hk (by omega)
      by_cases e : L[k].key = key
      · have hkj : k = j := by
          by_cases hkj : k = j
          · exact hkj
          · have b1 := List.pairwise_iff_getElem.1 hr j k (by omega) hk (by omega)
            rw [e] at b1
            exact absurd b1 (h4 j (by omega) (Nat.le_refl _))
        subst hkj
        exact absurd (h5.2 ⟨hk, e⟩) hb
      · exact KLt.of_not a1 e

/-! ## the order -/
def InB (lo : ByteArray) (hi : Option ByteArray) (k : ByteArray) : Prop := ¬ KLt k lo ∧ ∀ h ∈ hi, KLt k h
def InS (lo : ByteArray) (hi : Option ByteArray) (k : ByteArray) : Prop := KLt lo k ∧ ∀ h ∈ hi, KLt k h
theorem InS.inb {lo : ByteArray} {hi : Option ByteArray} {k : ByteArray} (h : InS lo hi k) : InB lo hi k := ⟨h.1.asymm, h.2⟩
/-- the bounds of each kid -/
def Tr.Ord : (n : Nat) → Tr n → ByteArray → Option ByteArray → Prop
  | 0, t, lo, hi => ∀ c ∈ t.2, InB lo hi c.key
  | n + 1, t, lo, hi => (∀ i (h : i < (kidsOf t).length), 0 < i → InS lo hi (kidsOf t)[i].1) ∧
      ∀ i (h : i < (kidsOf t).length), Tr.Ord n (kidsOf t)[i].2 (if i = 0 then lo else (kidsOf t)[i].1) (if h' : i + 1 < (kidsOf t).length then some (kidsOf t)[i + 1].1 else hi)
end

/-!
  Layer 16 (tree): open, and a walker's get.
-/
section
open Go.RowKit Go.Joins
set_option linter.unusedVariables false
set_option linter.unusedSimpArgs false

theorem results_tct16 {fn : Func} {p u v : Tmp} {ty : TypeId} (h : fn.results = #[.tmp u, .cell p ty, .tmp v]) (tmps : Array Value) (P : Program) (w : World) :
    (results fn tmps).run P w = ((asAddr (tmps.getD p undef)).run P w).andThen fun a w₁ => ((loadVar ty a).run P w₁).andThen fun x w₂ => .ok (.tuple #[tmps.getD u undef, x, tmps.getD v undef]) w₂ := by
  simp only [results, h]
  simp [Sem.run_bind, Result.andThen]
/-- the end of a function that hands back a number, a page, a number -/
theorem ret_tpt16 {fn : Func} {R : Ending → World → Prop} {a : Act} {w : World} {pt u v : Tmp} (h : fn.results = #[.tmp u, .cell pt 112, .tmp v]) (hd : a.defers = []) (n : Nat) (p : Pg) (hp : a.tmps.getD pt undef = .pointer (some ⟨n, 0, none⟩)) (hr : rowAt w n = some p.cs)
    (hR : R (.returned (.tuple #[a.tmps.getD u undef, p.v, a.tmps.getD v undef])) w) : bodyPost Try.prog fn R .ret a w := by
  refine bodyPost_ret ?_ hd hR
  rw [results_tct16 h, hp]
  have hl := run_loadPage w n (by rw [hr]; rfl)
  rw [hr] at hl
  simp only [asAddr, Sem.run_pure, Result.andThen_ok, hl]
  rfl

/-- Find on a volume as values -/
theorem find_st {S : Vol} {d m : Pg} {n : Nat} (b mb hb pb : Nat) (w : World) (hs : StageAt w b mb hb pb S) (h : VolOk S d m n) (k : Nat) (hk : k < 6) (ha : d.a k ≠ 0) (kd r : Int) (h0 : 0 ≤ kd) (h1 : kd < 256) (h2 : 0 ≤ r) (h3 : r < 4294967296) (h5 : d.d k = entryD kd r) (st : Int) (hst : st = (k : Int) + 1) (a : Int) (hda : d.a k = a) :
    Calls Try.prog 68 #[.pointer (some ⟨b, 0, none⟩), .int .i64 st] w fun e w' => e = .returned (.tuple #[.int .i64 kd, .int .i64 r, .int .i64 a, .int .i64 0]) ∧ Below w.heap.size w w' := by
  obtain ⟨b0, b1, b2, b3, b4, e1, e2, e3⟩ := five_of kd r h0 h1 h2 h3
  have hc := find_ok S b mb hb pb d w hs h.dir k hk ha b0 b1 b2 b3 b4 (h5.trans e1)
  rw [e2, e3, hda] at hc
  subst hst
  exact hc

/-- a walker in memory -/
def WalkAt (w : World) (wb b : Nat) (st root : Int) (kv : Value) : Prop := w.heap[wb]? = some (.cells #[.pointer (some ⟨b, 0, none⟩), .int .i64 st, .int .i64 root, kv] 159)
theorem WalkAt.below {w w' : World} {wb b : Nat} {st root : Int} {kv : Value} (h : WalkAt w wb b st root kv) (hb : Below w.heap.size w w') : WalkAt w' wb b st root kv := (hb.block wb (Array.getElem?_eq_some_iff.1 h).1).trans h
theorem WalkAt.lt {w : World} {wb b : Nat} {st root : Int} {kv : Value} (h : WalkAt w wb b st root kv) : wb < w.heap.size := (Array.getElem?_eq_some_iff.1 h).1
theorem WalkAt.cells {w : World} {wb b : Nat} {st root : Int} {kv : Value} (h : WalkAt w wb b st root kv) : w.cell? ⟨wb, 0, none⟩ = some (.pointer (some ⟨b, 0, none⟩)) ∧ w.cell? ⟨wb, 1, none⟩ = some (.int .i64 st) ∧ w.cell? ⟨wb, 2, none⟩ = some (.int .i64 root) ∧ w.cell? ⟨wb, 3, none⟩ = some kv :=
  ⟨(cell_of_block h 0).trans rfl, (cell_of_block h 1).trans rfl, (cell_of_block h 2).trans rfl, (cell_of_block h 3).trans rfl⟩

set_option maxHeartbeats 2000000 in
set_option maxRecDepth 100000 in
theorem open_ok (b : Nat) (st : Int) (kp : Option Addr) (kl kc : Nat) (kd r : Int) (hkd : kd = 2 ∨ kd = 3) (w : World)
    (hf : Calls Try.prog 68 #[.pointer (some ⟨b, 0, none⟩), .int .i64 st] w fun e w' => e = .returned (.tuple #[.int .i64 kd, .int .i64 r, .int .i64 1, .int .i64 0]) ∧ Below w.heap.size w w') :
    Calls Try.prog 79 #[.pointer (some ⟨b, 0, none⟩), .int .i64 st, .slice kp kl kc] w fun e w' => ∃ wb, e = .returned (.tuple #[.pointer (some ⟨wb, 0, none⟩), .int .i64 0]) ∧ Below w.heap.size w w' ∧ w.heap.size ≤ wb ∧ WalkAt w' wb b st r (.slice kp kl kc) := by
  have HF := Lib.hid hf
  clear hf
  rcases hkd with rfl | rfl
  all_goals
    go_enter Try.func79, Try.ntmps79
    go_wp2_with fail
    refine HF.out.mono ?_; rintro e w1 ⟨rfl, hb1⟩
    have hz := hb1.size
    have HB := Lib.hid hb1
    clear hb1
    go_wp2_with fail
    go_ret2
    exact ⟨_, rfl, HB.out.alloc hz _, hz, heap_alloc_new _ _⟩

set_option maxHeartbeats 2000000 in
set_option maxRecDepth 100000 in
/-- a node that is one -/
theorem wget_ok (S : Vol) (b mb hb pb : Nat) (wb : Nat) (st root : Int) (kv : Value) (id : Int) (p : Pg) (hp : stPg S id = p) (he : stE S id = 0) (hst : p.s = st)
    (hck : ∀ w', Calls Try.prog 106 #[p.v] w' fun e w2 => e = .returned (.int .i64 0) ∧ Below w'.heap.size w' w2) (w : World) (hs : StageAt w b mb hb pb S) (hw : WalkAt w wb b st root kv) :
    Calls Try.prog 83 #[.pointer (some ⟨wb, 0, none⟩), .int .i64 id] w fun e w' => e = .returned (.tuple #[p.v, .int .i64 0]) ∧ Below w.heap.size w w' := by
  have HG := Lib.hid (fun w' (h : StageAt w' b mb hb pb S) => get_any S b mb hb pb id w' h)
  rw [hp, he] at HG
  have HCk := Lib.hid hck
  have HS := Lib.hid hs
  have HW := Lib.hid hw
  have hlt := hs.lt
  have B0 : Below w.heap.size w (w.alloc (.cells Pg.zero.cs 112)) := (Below.refl _ _).alloc (Nat.le_refl _) _
  have hw0 := hw.below B0
  obtain ⟨c0, c1, -, -⟩ := hw0.cells
  have HW0 := Lib.hid hw0
  have HB0 := Lib.hid B0
  have hwlt := hw.lt
  clear hs hw hck hp he B0 hw0
  go_enter Try.func83, Try.ntmps83
  go_wp2_with fail
  refine (HG.out _ (HS.out.below HB0.out hlt)).mono ?_; rintro e w1 ⟨rfl, hb1⟩
  have hz1 := hb1.size
  simp only [World.size_alloc] at hz1
  have RZ := (rowAt_below hb1 (by simp)).trans (rowAt_at w Pg.zero.cs 112 _ rfl)
  have HW1 := Lib.hid ((HW0.out.below hb1).below ((Below.refl w1.heap.size w1).alloc (Nat.le_refl _) (.cells p.cs 112)))
  have hz1' : w.heap.size ≤ w1.heap.size := by omega
  have HB1 : Hid (Below w.heap.size w w1) := Lib.hid (HB0.out.trans (hb1.mono (by go_size)))
  have R1 := rowAt_at w1 p.cs 112 _ rfl
  have RZ1 := (rowAt_past w1 (.cells p.cs 112) w.heap.size (by omega)).trans RZ
  clear hb1 RZ c0 c1
  go_wp2_with fail
  have Ra : rowAt (w1.alloc (.cells p.cs 112)).drew w1.heap.size = some p.cs := R1
  have Ca : (w1.alloc (.cells p.cs 112)).drew.cell? ⟨w1.heap.size, 2, none⟩ = some (.int .i64 st) := (cell_row R1 2).trans (by rw [← hst]; rfl)
  have Cb : (w1.alloc (.cells p.cs 112)).drew.cell? ⟨wb, 1, none⟩ = some (.int .i64 st) := HW1.out.cells.2.1
  have hsz : (w1.alloc (.cells p.cs 112)).drew.heap.size = w1.heap.size + 1 := World.size_alloc ..
  have hwb : wb < w1.heap.size + 1 := by omega
  clear R1
  go_region_held3 (fun W => rowAt W w1.heap.size = some p.cs ∧ W.cell? ⟨w1.heap.size, 2, none⟩ = some (.int .i64 st) ∧ W.cell? ⟨wb, 1, none⟩ = some (.int .i64 st))
    (first
      | exact ⟨Ra, Ca, Cb⟩
      | exact ⟨R5, (cell_row R5 2).trans (by rw [← hst]; rfl), C5⟩)
    (first
      | ((go_at_call 106; refine (HCk.out _).mono ?_; rintro e w5 ⟨rfl, hb5⟩; have R5 := (rowAt_below hb5 (by rw [hsz]; omega)).trans Ra; have C5 := (hb5.cell (p := ⟨wb, 1, none⟩) (by rw [hsz]; exact hwb)).trans Cb)))
  all_goals
    have RZ5 := (rowAt_below hb5 (by rw [hsz]; omega)).trans RZ1
    have RF := rowAt_setRow _ _ _ p.cs RZ5
    have hz5 := hb5.size
    rw [hsz] at hz5
    have BF : Below w.heap.size w (w5.setRow w.heap.size p.cs) := below_setRow (((HB1.out.alloc hz1' (.cells p.cs 112)).drew).trans (hb5.mono (by rw [hsz]; omega))) _ (by omega)
    have HBF := Lib.hid BF
    clear BF Ra Ca Cb hb5 C5
    go_wp2_with fail
    exact ret_page rfl rfl w.heap.size p rfl RF ⟨rfl, HBF.out⟩
end

/-!
  Layer 16 (tree): the leaf that a key belongs to.
-/
section
open Go.RowKit Go.Joins
set_option linter.unusedVariables false
set_option linter.unusedSimpArgs false

/-- a tree that stands in a volume -/
structure TrIn (S : Vol) (st : Int) (n : Nat) (t : Tr n) : Prop where
  inner : Tr.Inner S st n t
  good : Tr.Good n t
  leaves : ∀ x ∈ Tr.leaves n t, ∃ nx, (0 ≤ nx ∧ nx < 1024) ∧ stPg S x.1 = ndPg 0 st nx x.2
  ids : ∀ i ∈ Tr.ids n t, stE S i = 0 ∧ 1 ≤ i ∧ i < 1024
  low : n ≤ 255
theorem TrIn.kid {S : Vol} {st : Int} {n : Nat} {t : Tr (n + 1)} (h : TrIn S st (n + 1) t) {x : ByteArray × Tr n} (hx : x ∈ kidsOf t) : TrIn S st n x.2 :=
  ⟨h.inner.2 x hx, h.good.2 x hx, fun y hy => h.leaves y (List.mem_flatMap.2 ⟨x, hx, hy⟩), fun i hi => h.ids i (List.mem_cons_of_mem _ (List.mem_flatMap.2 ⟨x, hx, hi⟩)), by have := h.low; omega⟩
theorem TrIn.page : ∀ {S : Vol} {st : Int} {n : Nat} {t : Tr n}, TrIn S st n t → ∃ nx, stPg S (Tr.id n t) = ndPg (n : Int) st nx (Tr.cells n t)
  | S, st, 0, t, h => by
    obtain ⟨nx, -, hp⟩ := h.leaves (t.1, t.2) (List.mem_cons_self ..)
    exact ⟨nx, hp⟩
  | S, st, n + 1, t, h => ⟨0, h.inner.1⟩
theorem ncheck_node (st nx : Int) {n : Nat} {L : List NC} (h : NodeOk n L) (w : World) :
    Calls Try.prog 106 #[(ndPg (n : Int) st nx L).v] w fun e w' => e = .returned (.int .i64 0) ∧ Below w.heap.size w w' := by
  obtain ⟨h6, hr, h0, h1⟩ := h
  rcases n with _ | n
  · exact ncheck_leaf st nx L h6 (h0 rfl) hr w
  · exact ncheck_inner _ st nx (by omega) L h6 (h1 (by omega)).1 hr (h1 (by omega)).2 w
theorem NodeOk.cells {n : Nat} {L : List NC} (h : NodeOk n L) : ∀ c ∈ L, c.ok := by
  obtain ⟨h6, hr, h0, h1⟩ := h
  rcases n with _ | n
  · exact fun c hc => (h0 rfl c hc).ok
  · exact fun c hc => ((h1 (by omega)).1 c hc).ok
/-- a walker's get, at a node of a tree -/
theorem wget_tr {S : Vol} {st : Int} {n : Nat} {t : Tr n} (h : TrIn S st n t) (nx : Int) (hp : stPg S (Tr.id n t) = ndPg (n : Int) st nx (Tr.cells n t)) (b mb hb pb wb : Nat) (root : Int) (kv : Value) (w : World) (hs : StageAt w b mb hb pb S) (hw : WalkAt w wb b st root kv) :
    Calls Try.prog 83 #[.pointer (some ⟨wb, 0, none⟩), .int .i64 (Tr.id n t)] w fun e w' => e = .returned (.tuple #[(ndPg (n : Int) st nx (Tr.cells n t)).v, .int .i64 0]) ∧ Below w.heap.size w w' :=
  wget_ok S b mb hb pb wb st root kv (Tr.id n t) _ hp (h.ids _ (id_mem n t)).1 rfl (fun w' => ncheck_node st nx h.good.node w') w hs hw
/-- the level of a page, as a loop's measure -/
def levOf (S : Vol) (id : Int) : Nat := (stPg S id).l.toNat
theorem TrIn.lev {S : Vol} {st : Int} {n : Nat} {t : Tr n} (h : TrIn S st n t) : levOf S (Tr.id n t) = n := by
  obtain ⟨nx, hp⟩ := h.page
  unfold levOf
  rw [hp]
  show ((n : Int)).toNat = n
  omega

set_option maxHeartbeats 4000000 in
set_option maxRecDepth 100000 in
theorem leaf_any {S : Vol} {st : Int} {N : Nat} {T : Tr N} (h : TrIn S st N T) (b mb hb pb wb : Nat) (kv : Value) (key : ByteArray) (w : World) (hs : StageAt w b mb hb pb S) (hw : WalkAt w wb b st (Tr.id N T) kv) :
    Calls Try.prog 81 #[.pointer (some ⟨wb, 0, none⟩), .string key] w fun e w' => e = .returned (.tuple #[.int .i64 (Tr.leaf key N T).1, (stPg S (Tr.leaf key N T).1).v, .int .i64 0]) ∧ Below w.heap.size w w' := by
  have HG := Lib.hid (fun n (t : Tr n) (ht : TrIn S st n t) nx hp w' hs' hw' => wget_tr ht nx hp b mb hb pb wb (Tr.id N T) kv w' hs' hw')
  have HS := Lib.hid hs
  have hlt := hs.lt
  have B0 : Below w.heap.size w (w.alloc (.cells Pg.zero.cs 112)) := (Below.refl _ _).alloc (Nat.le_refl _) _
  have hw0 := hw.below B0
  obtain ⟨-, -, c2, -⟩ := hw0.cells
  have HW0 := Lib.hid hw0
  have HB0 := Lib.hid B0
  have HT := Lib.hid h
  have hwlt := hw.lt
  obtain ⟨lf, hlf⟩ : ∃ lf, Tr.leaf key N T = lf := ⟨_, rfl⟩
  rw [hlf]
  have HS0 : Hid (StageAt (w.alloc (.cells Pg.zero.cs 112)) b mb hb pb S) := Lib.hid (hs.below B0 hlt)
  obtain ⟨root, hroot⟩ : ∃ root, Tr.id N T = root := ⟨_, rfl⟩
  rw [hroot] at HW0 c2 HG
  have START : Hid (∃ k, ∃ s : Tr k, root = Tr.id k s ∧ TrIn S st k s ∧ Tr.leaf key k s = lf) := Lib.hid ⟨N, T, hroot.symm, h, hlf⟩
  clear hs hw h B0 hw0 HB0 HS hlf hroot HT
  go_enter Try.func81, Try.ntmps81
  go_wp2_with fail
  go_loopw [7] (fun v wr => Below (w.heap.size + 1) (w.alloc (.cells Pg.zero.cs 112)) wr ∧ ∃ k, ∃ s : Tr k, v = .int .i64 (Tr.id k s) ∧ TrIn S st k s ∧ Tr.leaf key k s = lf) (fun v _ => levOf S (intOf v))
  case atStart =>
    obtain ⟨k, s, e, h1, h2⟩ := START.out
    exact ⟨Below.refl _ _, k, s, by rw [e], h1, h2⟩
  case round =>
    obtain ⟨hbw, k, s, rfl, hs, hlf⟩ := hrel
    have hsz := hbw.size
    rw [World.size_alloc] at hsz
    have mkA : ∀ w', Below wr.heap.size wr w' → StageAt w' b mb hb pb S ∧ WalkAt w' wb b st root kv := fun w' hw' =>
      ⟨(HS0.out.below hbw ⟨by omega, by omega, by omega, by omega⟩).below hw' ⟨by omega, by omega, by omega, by omega⟩, (HW0.out.below (hbw.mono (by go_size))).below hw'⟩
    have MK := Lib.hid mkA
    have R0 := Lib.hid ((rowAt_below hbw (n := w.heap.size) (by omega)).trans (rowAt_at w Pg.zero.cs 112 _ rfl))
    have B0 : Hid (Below w.heap.size w wr) := Lib.hid (((Below.refl _ _).alloc (Nat.le_refl _) _).trans (hbw.mono (by omega)))
    have BW := Lib.hid hbw
    obtain ⟨nx, hp⟩ := hs.page
    have HC := Lib.hid (HG.out k s hs nx hp)
    have HSs := Lib.hid hs
    have HP := Lib.hid hp
    have HLf := Lib.hid hlf
    clear mkA hbw hs hp hlf
    obtain ⟨p, hpp⟩ : ∃ p, ndPg (k : Int) st nx (Tr.cells k s) = p := ⟨_, rfl⟩
    have hpl : p.l = (k : Int) := by rw [← hpp]; rfl
    rw [hpp] at HC HP
    have HPP := Lib.hid hpp
    clear hpp
    have BD := Below.refl wr.heap.size wr
    go_wp2_with fail
    refine (HC.out wr (MK.out _ BD).1 (MK.out _ BD).2).mono ?_; rintro e w1 ⟨rfl, hb1⟩
    have hz1 := hb1.size
    have R1 := rowAt_at w1 p.cs 112 _ rfl
    have R1' := Lib.hid R1
    have B1 : Hid (Below wr.heap.size wr (w1.alloc (.cells p.cs 112))) := Lib.hid (hb1.alloc hz1 _)
    have RZ : rowAt (w1.alloc (.cells p.cs 112)) w.heap.size = some Pg.zero.cs := (rowAt_below B1.out (by omega)).trans R0.out
    have c1 : (w1.alloc (.cells p.cs 112)).cell? ⟨w1.heap.size, 1, none⟩ = some (.int .i64 (k : Int)) := (cell_row R1 1).trans (by rw [← hpl]; rfl)
    clear hb1
    rcases k with _ | k
    · go_wp2_with fail
      go_region
      go_wp2_with fail
      have e1 : Tr.leaf key 0 s = (Tr.id 0 s, s.2) := rfl
      have hl1 := HLf.out
      rw [e1] at hl1
      have e2 : lf.1 = Tr.id 0 s := by rw [← hl1]
      rw [e2, HP.out]
      have RF := rowAt_setRow (w1.alloc (.cells p.cs 112)).drew _ _ p.cs RZ
      have BF := below_setRow (B0.out.trans (B1.out.mono (by omega))).drew p.cs (Nat.le_refl w.heap.size)
      exact ret_tpt16 rfl rfl w.heap.size p rfl RF ⟨rfl, BF⟩
    · have hk0 : (((k + 1 : Nat) : Int) == 0) = false := by simp; omega
      have hG := HSs.out.good.node
      have hcok := hG.cells
      obtain ⟨h6, hr, -, hin⟩ := hG
      obtain ⟨hin, hp0, he0⟩ := hin (by omega)
      obtain ⟨hdl, -, -⟩ := downL_spec (key := key) hr hp0 he0
      have HDn := Lib.hid (fun w' => ndown_any ((k + 1 : Nat) : Int) st nx (Tr.cells (k + 1) s) h6 hcok key w')
      rw [HPP.out] at HDn
      have hlen : (Tr.cells (k + 1) s).length = (kidsOf s).length := by rw [cells_succ, List.length_map]
      obtain ⟨x, hx⟩ : ∃ x, (kidsOf s)[downL key (Tr.cells (k + 1) s)]'(by omega) = x := ⟨_, rfl⟩
      have hxm : x ∈ kidsOf s := by rw [← hx]; exact List.getElem_mem _
      have hcell : (Tr.cells (k + 1) s)[downL key (Tr.cells (k + 1) s)]'hdl = ⟨x.1, 1, le4 (Tr.id k x.2)⟩ := by
        rw [← hx]
        simp [cells_succ]
      have hxin := hin _ (List.getElem_mem hdl)
      rw [hcell] at hxin
      have hlf2 : Tr.leaf key k x.2 = lf := by
        rw [← HLf.out]
        show _ = (match (kidsOf s)[downL key (Tr.cells (k + 1) s)]? with | some x => Tr.leaf key k x.2 | none => (0, []))
        rw [List.getElem?_eq_getElem (by omega), hx]
      have hXs := HSs.out.kid hxm
      have hA := (nd_a ((k + 1 : Nat) : Int) st nx (Tr.cells (k + 1) s) _ (by omega)).trans (stL_get hdl)
      have hD := (nd_d ((k + 1 : Nat) : Int) st nx (Tr.cells (k + 1) s) _ (by omega)).trans (dL_get hdl)
      rw [hcell, HPP.out] at hA hD
      have hid := hXs.ids _ (id_mem k x.2)
      have HCh := Lib.hid (fun w' => nchild_ok 1 x.1 (Tr.id k x.2) (by decide) hxin.2.1 hid.2.1 hid.2.2 w')
      obtain ⟨nx2, hp2⟩ := hXs.page
      have HC2 := Lib.hid (HG.out k x.2 hXs nx2 hp2)
      obtain ⟨p2, hpp2⟩ : ∃ p2, ndPg (k : Int) st nx2 (Tr.cells k x.2) = p2 := ⟨_, rfl⟩
      have hpl2 : p2.l = (k : Int) := by rw [← hpp2]; rfl
      rw [hpp2] at HC2
      have HXs := Lib.hid hXs
      have HL2 := Lib.hid hlf2
      have hd : NC.d ⟨x.1, 1, le4 (Tr.id k x.2)⟩ = tx x.1 ++ le4 (Tr.id k x.2) := rfl
      rw [hd] at hD
      generalize tx x.1 ++ le4 (Tr.id k x.2) = dd at *
      have hi6 : downL key (Tr.cells (k + 1) s) < 6 := by omega
      clear hxin hcell hx hxm hlf2 hdl
      generalize downL key (Tr.cells (k + 1) s) = i at *
      obtain ⟨xk, x2⟩ := x
      simp only at HCh HC2 HXs HL2 hA hD
      clear hXs hp2 hpp2 hin he0 hr hcok hid hlen hp0 hd
      have cA := (cell_row R1 (4 + i * 2)).trans (cs_a p i hi6)
      have cD := (cell_row R1 (4 + i * 2 + 1)).trans (cs_d p i hi6)
      rw [hA] at cA
      rw [hD] at cD
      go_wp2_with fail
      refine (HDn.out _).mono ?_; rintro e w2 ⟨rfl, hb2⟩
      have hz2 := hb2.size
      rw [World.size_alloc] at hz2
      have cA2 := (hb2.cell (p := ⟨w1.heap.size, 4 + i * 2, none⟩) (by simp)).trans cA
      have cD2 := (hb2.cell (p := ⟨w1.heap.size, 4 + i * 2 + 1, none⟩) (by simp)).trans cD
      have R2 := Lib.hid ((rowAt_below hb2 (by simp)).trans R1)
      have B2 : Hid (Below wr.heap.size wr w2) := Lib.hid (B1.out.trans (hb2.mono (by go_size)))
      clear hb2 cA cD c1 RZ R1
      go_wp2_with fail
      refine (HCh.out _).mono ?_; rintro e w3 ⟨rfl, hb3⟩
      have hz3 := hb3.size
      have B3 : Hid (Below wr.heap.size wr w3) := Lib.hid (B2.out.trans (hb3.mono (by omega)))
      have R3 := Lib.hid ((rowAt_below hb3 (by omega)).trans R2.out)
      clear hb3 cA2 cD2
      go_wp2_with fail
      refine (HC2.out _ (MK.out _ B3.out).1 (MK.out _ B3.out).2).mono ?_; rintro e w4 ⟨rfl, hb4⟩
      have hz4 := hb4.size
      have B4 : Hid (Below wr.heap.size wr (w4.alloc (.cells p2.cs 112))) := Lib.hid ((B3.out.trans (hb4.mono (by omega))).alloc (by omega) _)
      have R4 : rowAt (w4.alloc (.cells p2.cs 112)) w1.heap.size = some p.cs := (rowAt_past _ _ _ (by omega)).trans ((rowAt_below hb4 (by omega)).trans R3.out)
      have Q4 := rowAt_at w4 p2.cs 112 _ rfl
      have d1 : (w4.alloc (.cells p2.cs 112)).cell? ⟨w1.heap.size, 1, none⟩ = some (.int .i64 ((k : Int) + 1)) := (cell_row R4 1).trans (by rw [show ((k : Int) + 1) = p.l from by rw [hpl]; omega]; rfl)
      have d2 : (w4.alloc (.cells p2.cs 112)).cell? ⟨w4.heap.size, 1, none⟩ = some (.int .i64 (k : Int)) := (cell_row Q4 1).trans (by rw [← hpl2]; rfl)
      clear hb4
      have hkk : ((k : Int) + 1 - 1) = (k : Int) := by omega
      have hkw : wrap64 (k : Int) = (k : Int) := by have := HXs.out.low; unfold wrap64; omega
      go_wp2_with fail
      refine ⟨⟨BW.out.trans (B4.out.mono (by omega)), k, x2, rfl, HXs.out, HL2.out⟩, ?_⟩
      show levOf S (Tr.id k x2) < levOf S (Tr.id (k + 1) s)
      rw [HXs.out.lev, HSs.out.lev]
      omega
end

/-!
  Layer 16 (tree), plain law: the leaves of a tree in order; what stands ahead of a key's leaf, and behind it.
-/
section
open Go.RowKit Go.Joins
set_option linter.unusedVariables false
set_option linter.unusedSimpArgs false

/-- all cells of the leaves -/
def flat (l : List (Int × List NC)) : List NC := l.flatMap (·.2)
theorem flat_append (a b : List (Int × List NC)) : flat (a ++ b) = flat a ++ flat b := by simp [flat]
theorem flat_cons (x : Int × List NC) (b : List (Int × List NC)) : flat (x :: b) = x.2 ++ flat b := by simp [flat]
theorem mem_flat {l : List (Int × List NC)} {c : NC} : c ∈ flat l ↔ ∃ x ∈ l, c ∈ x.2 := by simp [flat, List.mem_flatMap]

theorem flat_flatMap {α : Type} (f : α → List (Int × List NC)) : ∀ K : List α, flat (K.flatMap f) = (K.map fun x => flat (f x)).flatten
  | [] => rfl
  | x :: r => by rw [List.flatMap_cons, flat_append, flat_flatMap f r, List.map_cons, List.flatten_cons]
theorem InB.weaken {lo lo' : ByteArray} {hi hi' : Option ByteArray} {k : ByteArray} (h : InB lo hi k) (h1 : ¬ KLt lo lo') (h2 : ∀ x ∈ hi', ¬ hi = none ∧ ∀ y ∈ hi, ¬ KLt x y) : InB lo' hi' k := by
  refine ⟨fun q => ?_, fun x hx => ?_⟩
  · rcases KLt.tri lo lo' with e | e | e
    · exact h1 e
    · subst e; exact h.1 q
    · exact h.1 (q.trans e)
  · obtain ⟨n1, n2⟩ := h2 x hx
    cases hi with
    | none => exact absurd rfl n1
    | some y => exact KLt.lt_of_lt (h.2 y rfl) (n2 y rfl)
/-- all cells lie in a tree's bounds -/
theorem ord_cells : ∀ (n : Nat) (t : Tr n) (lo : ByteArray) (hi : Option ByteArray), Tr.Ord n t lo hi → ∀ x ∈ Tr.leaves n t, ∀ c ∈ x.2, InB lo hi c.key
  | 0, t, lo, hi, h, x, hx, c, hc => by
    have : x = (t.1, t.2) := by simpa [Tr.leaves] using hx
    subst this
    exact h c hc
  | n + 1, t, lo, hi, h, x, hx, c, hc => by
    obtain ⟨y, hy, hxy⟩ := List.mem_flatMap.1 hx
    obtain ⟨i, hi', rfl⟩ := List.mem_iff_getElem.1 hy
    have h1 := ord_cells n _ _ _ (h.2 i hi') x hxy c hc
    refine InB.weaken h1 ?_ ?_
    · by_cases e : i = 0
      · rw [if_pos e]; exact KLt.irrefl _
      · rw [if_neg e]; exact (h.1 i hi' (by omega)).1.asymm
    · intro z hz
      by_cases e : i + 1 < (kidsOf t).length
      · simp only [e, dif_pos]
        refine ⟨by simp, fun y hy => ?_⟩
        cases hy
        exact ((h.1 (i + 1) e (by omega)).2 z hz).asymm
      · simp only [e, dif_neg, not_false_eq_true]
        cases hz
        exact ⟨by simp, fun y hy => by cases hy; exact KLt.irrefl _⟩

theorem take_drop_get {α : Type} (l : List α) (i : Nat) (h : i < l.length) : l = l.take i ++ l[i] :: l.drop (i + 1) := by
  rw [List.getElem_cons_drop, List.take_append_drop]
/-- where a key belongs -/
theorem leaf_split {key : ByteArray} : ∀ (n : Nat) (t : Tr n) (lo : ByteArray) (hi : Option ByteArray), Tr.Good n t → Tr.Ord n t lo hi →
    ∃ pre post, Tr.leaves n t = pre ++ Tr.leaf key n t :: post ∧ (∀ x ∈ pre, ∀ c ∈ x.2, KLt c.key key) ∧ (∀ x ∈ post, ∀ c ∈ x.2, KLt key c.key)
  | 0, t, lo, hi, hg, ho => ⟨[], [], rfl, fun x hx => (by cases hx), fun x hx => (by cases hx)⟩
  | n + 1, t, lo, hi, hg, ho => by
    obtain ⟨h6, hr, -, hin⟩ := hg.1
    obtain ⟨hin, hp0, he0⟩ := hin (by omega)
    obtain ⟨hdl, hd1, hd2⟩ := downL_spec (key := key) hr hp0 he0
    have hlen : (Tr.cells (n + 1) t).length = (kidsOf t).length := by rw [cells_succ, List.length_map]
    have hget : ∀ j (hj : j < (kidsOf t).length), (Tr.cells (n + 1) t)[j]'(by omega) = ⟨(kidsOf t)[j].1, 1, le4 (Tr.id n (kidsOf t)[j].2)⟩ := fun j hj => by simp [cells_succ]
    generalize hi0 : downL key (Tr.cells (n + 1) t) = i at *
    have hik : i < (kidsOf t).length := by omega
    rw [hget i hik] at hd1
    simp only at hd1
    have hlf : Tr.leaf key (n + 1) t = Tr.leaf key n (kidsOf t)[i].2 := by
      show (match (kidsOf t)[downL key (Tr.cells (n + 1) t)]? with | some x => Tr.leaf key n x.2 | none => (0, [])) = _
      rw [hi0, List.getElem?_eq_getElem hik]
    obtain ⟨pre, post, e, a1, a2⟩ := leaf_split (key := key) n (kidsOf t)[i].2 _ _ (hg.2 _ (List.getElem_mem hik)) (ho.2 i hik)
    refine ⟨((kidsOf t).take i).flatMap (fun x => Tr.leaves n x.2) ++ pre, post ++ ((kidsOf t).drop (i + 1)).flatMap (fun x => Tr.leaves n x.2), ?_, ?_, ?_⟩
    · show (kidsOf t).flatMap (fun x => Tr.leaves n x.2) = _
      have e2 := take_drop_get (kidsOf t) i hik
      calc (kidsOf t).flatMap (fun x => Tr.leaves n x.2) = ((kidsOf t).take i ++ (kidsOf t)[i] :: (kidsOf t).drop (i + 1)).flatMap (fun x => Tr.leaves n x.2) := by rw [← e2]
        _ = _ := by
          rw [List.flatMap_append, List.flatMap_cons, e, hlf]
          simp
    · intro x hx c hc
      rcases List.mem_append.1 hx with hx | hx
      · obtain ⟨y, hy, hxy⟩ := List.mem_flatMap.1 hx
        obtain ⟨j, hj, rfl⟩ := List.mem_iff_getElem.1 hy
        rw [List.length_take] at hj
        have hjk : j < (kidsOf t).length := by omega
        rw [List.getElem_take] at hxy
        have h1 := ord_cells n _ _ _ (ho.2 j hjk) x hxy c hc
        have h2 : j + 1 < (kidsOf t).length := by omega
        have h3 := h1.2 (kidsOf t)[j + 1].1 (by simp [h2])
        refine KLt.lt_of_lt h3 (fun q => ?_)
        by_cases e : j + 1 = i
        · subst e; exact hd1 q
        · have h4 := List.pairwise_iff_getElem.1 hr (j + 1) i (by omega) (by omega) (by omega)
          rw [hget (j + 1) h2, hget i hik] at h4
          exact hd1 (q.trans h4)
      · exact a1 x hx c hc
    · intro x hx c hc
      rcases List.mem_append.1 hx with hx | hx
      · exact a2 x hx c hc
      · obtain ⟨y, hy, hxy⟩ := List.mem_flatMap.1 hx
        obtain ⟨j, hj, rfl⟩ := List.mem_iff_getElem.1 hy
        rw [List.length_drop] at hj
        rw [List.getElem_drop] at hxy
        have hjk : i + 1 + j < (kidsOf t).length := by omega
        have h1 := ord_cells n _ _ _ (ho.2 (i + 1 + j) hjk) x hxy c hc
        have h2 := h1.1
        rw [if_neg (by omega)] at h2
        have h3 := hd2 (i + 1 + j) (by omega) (by omega)
        rw [hget _ hjk] at h3
        exact KLt.lt_of_lt h3 h2
/-- the cells of all leaves rise -/
theorem flat_rising : ∀ (n : Nat) (t : Tr n) (lo : ByteArray) (hi : Option ByteArray), Tr.Good n t → Tr.Ord n t lo hi → Rising (flat (Tr.leaves n t))
  | 0, t, lo, hi, hg, ho => by
    have : flat (Tr.leaves 0 t) = t.2 := by simp [flat, Tr.leaves]
    rw [this]
    exact hg.2.1
  | n + 1, t, lo, hi, hg, ho => by
    have hcells : ∀ j (hj : j < (kidsOf t).length), ∀ c ∈ flat (Tr.leaves n (kidsOf t)[j].2), InB (if j = 0 then lo else (kidsOf t)[j].1) (if h' : j + 1 < (kidsOf t).length then some (kidsOf t)[j + 1].1 else hi) c.key := fun j hj c hc => by
      obtain ⟨x, hx, hc⟩ := mem_flat.1 hc
      exact ord_cells n _ _ _ (ho.2 j hj) x hx c hc
    have hr := hg.1.2.1
    have hget : ∀ j (hj : j < (kidsOf t).length), (Tr.cells (n + 1) t)[j]'(by rw [cells_succ, List.length_map]; exact hj) = ⟨(kidsOf t)[j].1, 1, le4 (Tr.id n (kidsOf t)[j].2)⟩ := fun j hj => by simp [cells_succ]
    have e : flat (Tr.leaves (n + 1) t) = ((kidsOf t).map fun x => flat (Tr.leaves n x.2)).flatten := by
      show flat ((kidsOf t).flatMap fun x => Tr.leaves n x.2) = _
      exact flat_flatMap _ _
    rw [e]
    refine List.pairwise_flatten.2 ⟨?_, ?_⟩
    · intro l hl
      obtain ⟨y, hy, rfl⟩ := List.mem_map.1 hl
      obtain ⟨j, hj, rfl⟩ := List.mem_iff_getElem.1 hy
      exact flat_rising n _ _ _ (hg.2 _ (List.getElem_mem hj)) (ho.2 j hj)
    · rw [List.pairwise_map, List.pairwise_iff_getElem]
      intro i j hi' hj hij a ha b hb
      have h1 := (hcells i hi' a ha).2 (kidsOf t)[i + 1].1 (by have : i + 1 < (kidsOf t).length := by omega
                                                               simp [this])
      have h2 := (hcells j hj b hb).1
      rw [if_neg (by omega)] at h2
      have h3 : KLt a.key (kidsOf t)[j].1 := by
        by_cases e : i + 1 = j
        · subst e; exact h1
        · have h4 := List.pairwise_iff_getElem.1 hr (i + 1) j (by rw [cells_succ, List.length_map]; omega) (by rw [cells_succ, List.length_map]; omega) (by omega)
          rw [hget (i + 1) (by omega), hget j hj] at h4
          exact h1.trans h4
      exact KLt.lt_of_lt h3 h2
/-- a number of pages -/
theorem len_bound : ∀ (b : Nat) (l : List Int), l.Nodup → (∀ x ∈ l, 1 ≤ x ∧ x < 1 + (b : Int)) → l.length ≤ b
  | 0, l, _, h => by
    cases l with
    | nil => simp
    | cons x r => have := h x (List.mem_cons_self ..); omega
  | b + 1, l, hn, h => by
    by_cases hm : (1 + (b : Int)) ∈ l
    · have h1 := len_bound b (l.erase (1 + (b : Int))) (hn.erase _) (fun x hx => by
        have h2 := h x (List.mem_of_mem_erase hx)
        have h3 : x ≠ 1 + (b : Int) := fun e => by
          subst e
          exact (List.Nodup.mem_erase_iff hn).1 hx |>.1 rfl
        omega)
      rw [List.length_erase_of_mem hm] at h1
      omega
    · have h1 := len_bound b l hn (fun x hx => by
        have h2 := h x hx
        have h3 : x ≠ 1 + (b : Int) := fun e => hm (e ▸ hx)
        omega)
      omega
theorem leaves_sub : ∀ (n : Nat) (t : Tr n), ((Tr.leaves n t).map (·.1)).Sublist (Tr.ids n t)
  | 0, t => by simp [Tr.leaves, Tr.ids]
  | n + 1, t => by
    refine List.Sublist.cons _ ?_
    show (((kidsOf t).flatMap fun x => Tr.leaves n x.2).map (·.1)).Sublist ((kidsOf t).flatMap fun x => Tr.ids n x.2)
    rw [List.map_flatMap]
    generalize kidsOf t = K
    induction K with
    | nil => simp
    | cons x r ih =>
      simp only [List.flatMap_cons]
      exact (leaves_sub n x.2).append ih
/-- a whole tree of a store -/
structure TrAt (S : Vol) (st : Int) (n : Nat) (T : Tr n) : Prop where
  tin : TrIn S st n T
  chain : LeafAll S st (Tr.leaves n T) 0
  nodup : (Tr.ids n T).Nodup
  ord : Tr.Ord n T ByteArray.empty none
theorem TrAt.few {S : Vol} {st : Int} {n : Nat} {T : Tr n} (h : TrAt S st n T) : (Tr.ids n T).length ≤ 1023 :=
  len_bound 1023 _ h.nodup fun x hx => by have := h.tin.ids x hx; omega
theorem TrAt.leaves_few {S : Vol} {st : Int} {n : Nat} {T : Tr n} (h : TrAt S st n T) : (Tr.leaves n T).length ≤ 1023 := by
  have := (leaves_sub n T).length_le
  rw [List.length_map] at this
  have := h.few
  omega
end

/-!
  Layer 16 (tree): Seek, Get.
-/
section
open Go.RowKit Go.Joins
set_option linter.unusedVariables false
set_option linter.unusedSimpArgs false

/-- the first cell from a key on -/
def seekL (key : ByteArray) (l : List NC) : Option NC := l.find? fun c => !decide (KLt c.key key)
def seekV : Option NC → Value
  | some c => .tuple #[.string c.key, .string c.rest, .int .i64 c.st, .int .i64 0]
  | none => .tuple #[.string ByteArray.empty, .string ByteArray.empty, .int .i64 0, .int .i64 0]
theorem seekL_skip {key : ByteArray} {a b : List NC} (h : ∀ c ∈ a, KLt c.key key) : seekL key (a ++ b) = seekL key b := by
  unfold seekL
  rw [List.find?_append]
  have : a.find? (fun c => !decide (KLt c.key key)) = none := by
    rw [List.find?_eq_none]
    intro c hc
    simp [h c hc]
  rw [this]; rfl
/-- a leaf's first cell from a key on, as Find has it -/
theorem seekL_find {key : ByteArray} : ∀ (L : List NC) (i : Nat), (∃ j, (findL key L i).1 = i + j ∧ j < L.length ∧ seekL key L = L[j]?) ∨ ((findL key L i).1 = i + L.length ∧ ∀ c ∈ L, KLt c.key key)
  | [], i => .inr ⟨rfl, fun c hc => by cases hc⟩
  | c :: r, i => by
    by_cases hc : KLt c.key key
    · have e : findL key (c :: r) i = findL key r (i + 1) := by simp [findL, hc]
      rw [e]
      rcases seekL_find (key := key) r (i + 1) with ⟨j, h1, h2, h3⟩ | ⟨h1, h2⟩
      · refine .inl ⟨j + 1, by omega, by simp only [List.length_cons]; omega, ?_⟩
        have h4 : seekL key (c :: r) = seekL key r := by simp [seekL, List.find?_cons, hc]
        rw [h4, h3, List.getElem?_cons_succ]
      · refine .inr ⟨by simp only [List.length_cons]; omega, fun d hd => ?_⟩
        rcases List.mem_cons.1 hd with rfl | hd
        · exact hc
        · exact h2 d hd
    · refine .inl ⟨0, by simp [findL, hc], by simp, ?_⟩
      simp [seekL, List.find?_cons, hc]

theorem TrAt.leafOk {S : Vol} {st : Int} {n : Nat} {T : Tr n} (h : TrAt S st n T) : ∀ x ∈ Tr.leaves n T, NodeOk 0 x.2 ∧ stE S x.1 = 0 ∧ 1 ≤ x.1 ∧ x.1 < 1024 := by
  have : ∀ (n : Nat) (t : Tr n), Tr.Good n t → ∀ x ∈ Tr.leaves n t, NodeOk 0 x.2 := by
    intro n
    induction n with
    | zero =>
      intro t hg x hx
      have : x = (t.1, t.2) := by simpa [Tr.leaves] using hx
      subst this
      exact hg
    | succ n ih =>
      intro t hg x hx
      obtain ⟨y, hy, hxy⟩ := List.mem_flatMap.1 hx
      exact ih _ (hg.2 y hy) x hxy
  intro x hx
  have hm : x.1 ∈ Tr.ids n T := (leaves_sub n T).subset (List.mem_map.2 ⟨x, hx, rfl⟩)
  exact ⟨this n T h.tin.good x hx, h.tin.ids _ hm⟩

set_option maxHeartbeats 4000000 in
set_option maxRecDepth 100000 in
theorem seek_any {S : Vol} {st : Int} {N : Nat} {T : Tr N} (h : TrAt S st N T) (b mb hb pb : Nat) (kd : Int) (hkd : kd = 2 ∨ kd = 3)
    (hf : ∀ w', StageAt w' b mb hb pb S → Calls Try.prog 68 #[.pointer (some ⟨b, 0, none⟩), .int .i64 st] w' fun e w2 => e = .returned (.tuple #[.int .i64 kd, .int .i64 (Tr.id N T), .int .i64 1, .int .i64 0]) ∧ Below w'.heap.size w' w2)
    (key : ByteArray) (w : World) (hs : StageAt w b mb hb pb S) :
    Calls Try.prog 51 #[.pointer (some ⟨b, 0, none⟩), .int .i64 st, .string key] w fun e w' => e = .returned (seekV (seekL key (flat (Tr.leaves N T)))) ∧ Below w.heap.size w w' := by
  obtain ⟨pre, post, hsp, hpre, hpost⟩ := leaf_split (key := key) N T _ _ h.tin.good h.ord
  have hch := h.chain
  rw [hsp, LeafAll.split] at hch
  have hfew := h.leaves_few
  rw [hsp] at hfew
  have hres : seekL key (flat (Tr.leaves N T)) = seekL key (flat (Tr.leaf key N T :: post)) := by
    rw [hsp, flat_append, seekL_skip (fun c hc => by obtain ⟨x, hx, hc⟩ := mem_flat.1 hc; exact hpre x hx c hc)]
  have HO := Lib.hid (fun w' hs' => open_ok b st none 0 0 kd (Tr.id N T) hkd w' (hf w' hs'))
  have HL := Lib.hid (fun w' wb kv hs' hw' => leaf_any h.tin b mb hb pb wb kv key w' hs' hw')
  have HS := Lib.hid hs
  have hlt := hs.lt
  have START : Hid (∃ x ps, Tr.leaf key N T = x ∧ LeafAll S st (x :: ps) 0 ∧ (∀ y ∈ x :: ps, y ∈ Tr.leaves N T) ∧ 0 + ps.length ≤ 1022 ∧ seekL key (flat (Tr.leaves N T)) = seekL key (flat (x :: ps))) := Lib.hid ⟨_, post, rfl, hch.2, fun y hy => by rw [hsp]; exact List.mem_append_right _ hy, by rw [List.length_append, List.length_cons] at hfew; omega, hres⟩
  have HOK := Lib.hid h.leafOk
  clear hpre hpost hch hsp hres hfew hf h hs
  generalize seekL key (flat (Tr.leaves N T)) = res at *
  generalize Tr.leaf key N T = lf at *
  generalize Tr.id N T = root at *
  go_enter Try.func51, Try.ntmps51
  go_wp2_with fail
  refine (HO.out _ HS.out).mono ?_; rintro e w1 ⟨wb, rfl, hb1, hwb, hw1⟩
  have hz1 := hb1.size
  have B1 := Lib.hid hb1
  have S1 := Lib.hid (HS.out.below hb1 hlt)
  have W1 := Lib.hid hw1
  clear hb1 hw1
  go_wp2_with fail
  refine (HL.out _ wb _ S1.out W1.out).mono ?_; rintro e w2 ⟨rfl, hb2⟩
  have hz2 := hb2.size
  have hz2' : w.heap.size ≤ w2.heap.size := by omega
  have B2 : Hid (Below w.heap.size w w2) := Lib.hid (B1.out.trans (hb2.mono hz1))
  have S2 : Hid (StageAt w2 b mb hb pb S) := Lib.hid (S1.out.below hb2 S1.out.lt)
  have W2 := Lib.hid (W1.out.below hb2)
  clear hb2
  go_wp2_with fail
  go_loopw [11, 14] (fun e v wr => ∃ k : Nat, e = .int .i64 0 ∧ v = .int .i64 k ∧ Below w2.heap.size w2 wr ∧ ∃ x ps, rowAt wr w2.heap.size = some (stPg S x.1).cs ∧ w2.heap.size < wr.heap.size ∧ LeafAll S st (x :: ps) 0 ∧ (∀ y ∈ x :: ps, y ∈ Tr.leaves N T) ∧ k + ps.length ≤ 1022 ∧ res = seekL key (flat (x :: ps))) (fun _ v _ => 1024 - (intOf v).toNat)
  case atStart =>
    obtain ⟨x, ps, e1, e2, e3, e4, e5⟩ := START.out
    refine ⟨0, rfl, rfl, (Below.refl _ _).alloc (Nat.le_refl _) _, x, ps, ?_, by go_size, e2, e3, e4, e5⟩
    rw [← e1]
    exact rowAt_at _ _ _ _ rfl
  case round =>
    obtain ⟨k, rfl, rfl, hbw, ⟨xi, xl⟩, ps, hrow, hzr, hch, hmem, hkp, hres⟩ := hrel
    have hz3 := hbw.size
    have hx0 := HOK.out _ (hmem _ (List.mem_cons_self ..))
    obtain ⟨hx1, -, -, -⟩ := hx0
    have hpg := hch.1
    simp only at hpg hx1 hrow
    rw [hpg] at hrow
    have HF := Lib.hid (fun w' => nfind_any 0 st (nextOf ps 0) xl hx1.1 hx1.cells key w')
    have HC := Lib.hid (fun w' => ncount_nd 0 st (nextOf ps 0) xl hx1.1 hx1.cells w')
    have hpl : (ndPg 0 st (nextOf ps 0) xl).l = 0 := rfl
    have hpn : (ndPg 0 st (nextOf ps 0) xl).n = nextOf ps 0 := rfl
    have HA := Lib.hid (fun i (hi : i < xl.length) => (nd_a 0 st (nextOf ps 0) xl i (by have := hx1.1; omega)).trans (stL_get hi))
    have HD := Lib.hid (fun i (hi : i < xl.length) => (nd_d 0 st (nextOf ps 0) xl i (by have := hx1.1; omega)).trans (dL_get hi))
    have HX := Lib.hid hx1
    have h6 := hx1.1
    have hfl : flat ((xi, xl) :: ps) = xl ++ flat ps := flat_cons _ _
    rw [hfl] at hres
    generalize hnx : nextOf ps 0 = nx at *
    generalize ndPg 0 st nx xl = p at *
    have BW := Lib.hid hbw
    have HCh := Lib.hid hch.2
    have HM := Lib.hid (fun y hy => hmem y (List.mem_cons_of_mem _ hy))
    have HRow := Lib.hid hrow
    have c1 : wr.cell? ⟨w2.heap.size, 1, none⟩ = some (.int .i64 0) := (cell_row hrow 1).trans (by rw [← hpl]; rfl)
    have hk1024 : ((k : Int) == 1024) = false := by simp; omega
    clear hbw hch hmem hpg hx1 hfl
    rcases seekL_find (key := key) xl 0 with ⟨j, h1, h2, h3⟩ | ⟨h1, h2⟩
    · have hresc : res = some xl[j] := by
        rw [hres]
        unfold seekL at h3 ⊢
        rw [List.find?_append, h3, List.getElem?_eq_getElem h2]; rfl
      have hfj : (findL key xl 0).1 = j := by omega
      rw [hfj] at HF
      have hok := HX.out.cells _ (List.getElem_mem h2)
      have HK := Lib.hid (fun w' => key_ok xl[j].st xl[j].key xl[j].rest hok.1 hok.2.1 (by have := hok.2.2; omega) w')
      have hA := HA.out j h2
      have hD := HD.out j h2
      have hd : NC.d xl[j] = tx xl[j].key ++ xl[j].rest := rfl
      rw [hd] at hD
      clear hres h3 hok hd
      generalize (findL key xl 0).2 = fb at *
      generalize xl[j] = c at *
      obtain ⟨ck, cs, cr⟩ := c
      simp only at HK hA hD
      have HRc := Lib.hid hresc
      clear hresc
      generalize tx ck ++ cr = dd at *
      go_wp2_with fail
      refine (HF.out _).mono ?_; rintro e w3 ⟨rfl, hb3⟩
      have hz4 := hb3.size
      have R3 := Lib.hid ((rowAt_below hb3 hzr).trans HRow.out)
      have B3 : Hid (Below w2.heap.size w2 w3) := Lib.hid (BW.out.trans (hb3.mono hz3))
      have R3r := R3.out
      clear hb3 c1 hrow
      go_wp2_with fail
      refine (HC.out _).mono ?_; rintro e w4 ⟨rfl, hb4⟩
      have hz5 := hb4.size
      have R4 := Lib.hid ((rowAt_below hb4 (by omega)).trans R3.out)
      have B4 : Hid (Below w2.heap.size w2 w4) := Lib.hid (B3.out.trans (hb4.mono (by omega)))
      have cA := (cell_row R4.out (4 + j * 2)).trans (cs_a p j (by omega))
      have cD := (cell_row R4.out (4 + j * 2 + 1)).trans (cs_d p j (by omega))
      rw [hA] at cA
      rw [hD] at cD
      clear hb4 R3r
      go_wp2_with fail
      refine (HK.out _).mono ?_; rintro e w5 ⟨rfl, hb5⟩
      have B5 : Hid (Below w2.heap.size w2 w5) := Lib.hid (B4.out.trans (hb5.mono (by omega)))
      have cA5 := (hb5.cell (p := ⟨w2.heap.size, 4 + j * 2, none⟩) (by show w2.heap.size < _; omega)).trans cA
      clear hb5 cA cD
      go_wp2_with fail
      go_region
      go_wp2_with fail
      exact ret_tmp4 rfl rfl ⟨by rw [HRc.out]; rfl, (B2.out.trans (B5.out.mono hz2')).drew⟩
    · have hresn : res = seekL key (flat ps) := by rw [hres, seekL_skip h2]
      have hfj : (findL key xl 0).1 = xl.length := by omega
      rw [hfj] at HF
      generalize (findL key xl 0).2 = fb at *
      clear hres
      go_wp2_with fail
      refine (HF.out _).mono ?_; rintro e w3 ⟨rfl, hb3⟩
      have hz4 := hb3.size
      have R3 := Lib.hid ((rowAt_below hb3 hzr).trans HRow.out)
      have B3 : Hid (Below w2.heap.size w2 w3) := Lib.hid (BW.out.trans (hb3.mono hz3))
      have R3r := R3.out
      clear hb3 c1 hrow
      go_wp2_with fail
      refine (HC.out _).mono ?_; rintro e w4 ⟨rfl, hb4⟩
      have hz5 := hb4.size
      have R4 := Lib.hid ((rowAt_below hb4 (by omega)).trans R3.out)
      have B4 : Hid (Below w2.heap.size w2 w4) := Lib.hid (B3.out.trans (hb4.mono (by omega)))
      have c3 : w4.cell? ⟨w2.heap.size, 3, none⟩ = some (.int .i64 nx) := (cell_row R4.out 3).trans (by rw [← hpn]; rfl)
      clear hb4 R3r
      rcases ps with _ | ⟨y, ps⟩
      · have hnx0 : nx = 0 := by rw [← hnx]; rfl
        have hrn : res = none := by rw [hresn]; rfl
        rw [hnx0] at c3
        go_wp2_with fail
        exact ret_tmp4 rfl rfl ⟨by rw [hrn]; rfl, B2.out.trans (B4.out.mono hz2')⟩
      · have hy := HOK.out y (HM.out y (List.mem_cons_self ..))
        have hnxy : nx = y.1 := by rw [← hnx]; rfl
        have hy0 : (nx == 0) = false := by simp; omega
        obtain ⟨hy1, hy2, -, -⟩ := hy
        have hpy := HCh.out.1
        have HG := Lib.hid (fun w' hs' hw' => wget_ok S b mb hb pb wb st root (.slice none 0 0) y.1 _ hpy hy2 rfl (fun w' => ncheck_node (n := 0) st _ hy1 w') w' hs' hw')
        rw [← hpy] at HG
        have HPy := Lib.hid hpy
        have HR0 := Lib.hid hresn
        clear hpy hy1 hy2 hresn
        go_wp2_with fail
        refine (HG.out _ ((S2.out.below (B4.out.mono (Nat.le_refl _)) S2.out.lt)) (W2.out.below B4.out)).mono ?_; rintro e w5 ⟨rfl, hb5⟩
        have hz6 := hb5.size
        have R5 := (rowAt_below hb5 (by omega)).trans R4.out
        have hrow5 : row16 (rowAt w5 w2.heap.size) = true := by rw [R5]; rfl
        have RF := rowAt_setRow _ _ _ (stPg S y.1).cs R5
        have B5 : Hid (Below w2.heap.size w2 (w5.setRow w2.heap.size (stPg S y.1).cs)) := Lib.hid (below_setRow (B4.out.trans (hb5.mono (by omega))) _ (Nat.le_refl _))
        clear hb5
        go_wp2_with fail
        refine ⟨⟨k + 1, rfl, by go_num, B5.out, y, ps, RF, ?_, HCh.out, HM.out, ?_, HR0.out⟩, ?_⟩
        · have := B4.out.size
          show w2.heap.size < (w5.heap.modify _ _).size
          rw [Array.size_modify]
          omega
        · rw [List.length_cons] at hkp; omega
        · simp [intOf]; omega

/-- what Get says -/
def getL (key : ByteArray) (l : List NC) : Option ByteArray := match seekL key l with | some c => if c.key = key ∧ c.st = 1 then some c.rest else none | none => none
def getV : Option ByteArray → Value
  | some v => .tuple #[.string v, .int .i64 0]
  | none => .tuple #[.string ByteArray.empty, .int .i64 150]
/-- a key that may be -/
def KeyOk (key : ByteArray) : Prop := key ≠ ByteArray.empty ∧ key.size ≤ 8
instance (key : ByteArray) : Decidable (KeyOk key) := inferInstanceAs (Decidable (_ ∧ _))
theorem wrong_any (key : ByteArray) (w : World) : Calls Try.prog 90 #[.string key] w fun e w' => e = .returned (.bool (!decide (KeyOk key))) ∧ w = w' := by
  by_cases h0 : key = ByteArray.empty
  · subst h0
    have e1 : decide (KeyOk ByteArray.empty) = false := by simp [KeyOk]
    rw [e1]
    go_enter Try.func90, Try.ntmps90
    go_wp2
    go_ret
    exact ⟨rfl, rfl⟩
  · have h1 := sem_f h0
    have e1 : decide (KeyOk key) = decide (key.size ≤ 8) := by simp [KeyOk, h0]
    rw [e1]
    have e2 : decide ((8 : Int) < (key.size : Int)) = !decide (key.size ≤ 8) := by rw [← decide_not, decide_eq_decide]; omega
    generalize decide (key.size ≤ 8) = b at *
    go_enter Try.func90, Try.ntmps90
    go_wp2
    go_ret
    exact ⟨rfl, rfl⟩
set_option maxHeartbeats 2000000 in
theorem tget_wrong (b : Value) (st : Int) (key : ByteArray) (hk : ¬ KeyOk key) (w : World) :
    Calls Try.prog 53 #[b, .int .i64 st, .string key] w fun e w' => e = .returned (.tuple #[.string ByteArray.empty, .int .i64 1]) ∧ w = w' := by
  have HW := Lib.hid (fun w' => wrong_any key w')
  rw [show (!decide (KeyOk key)) = true from by simp [hk]] at HW
  go_enter Try.func53, Try.ntmps53
  go_wp2_with fail
  refine (HW.out _).mono ?_; rintro e w1 ⟨rfl, rfl⟩
  go_wp2_with fail
  go_ret2
  exact ⟨rfl, rfl⟩
set_option maxHeartbeats 2000000 in
theorem tget_any {S : Vol} {st : Int} {N : Nat} {T : Tr N} (h : TrAt S st N T) (b mb hb pb : Nat) (kd : Int) (hkd : kd = 2 ∨ kd = 3)
    (hf : ∀ w', StageAt w' b mb hb pb S → Calls Try.prog 68 #[.pointer (some ⟨b, 0, none⟩), .int .i64 st] w' fun e w2 => e = .returned (.tuple #[.int .i64 kd, .int .i64 (Tr.id N T), .int .i64 1, .int .i64 0]) ∧ Below w'.heap.size w' w2)
    (key : ByteArray) (hk : KeyOk key) (w : World) (hs : StageAt w b mb hb pb S) :
    Calls Try.prog 53 #[.pointer (some ⟨b, 0, none⟩), .int .i64 st, .string key] w fun e w' => e = .returned (getV (getL key (flat (Tr.leaves N T)))) ∧ Below w.heap.size w w' := by
  have HW := Lib.hid (fun w' => wrong_any key w')
  rw [show (!decide (KeyOk key)) = false from by simp [hk]] at HW
  have HSk := Lib.hid (seek_any h b mb hb pb kd hkd hf key w hs)
  unfold getL
  clear h hf hs hk
  generalize seekL key (flat (Tr.leaves N T)) = r at *
  rcases r with _ | c
  · go_enter Try.func53, Try.ntmps53
    go_wp2_with fail
    refine (HW.out _).mono ?_; rintro e w1 ⟨rfl, rfl⟩
    go_wp2_with fail
    refine HSk.out.mono ?_; rintro e w1 ⟨rfl, hb1⟩
    unfold seekV
    have HB := Lib.hid hb1
    clear hb1
    go_wp2_with fail
    all_goals
      go_ret2
      exact ⟨rfl, HB.out⟩
  · obtain ⟨ck, cs, cr⟩ := c
    simp only
    generalize hx : (if ck = key ∧ cs = 1 then some cr else none) = x
    have hbq := beq_eq ck key
    by_cases e1 : ck = key
    · by_cases e2 : cs = 1
      · have hxx : some cr = x := by rw [← hx, if_pos ⟨e1, e2⟩]
        subst hxx e1 e2
        clear hx
        go_enter Try.func53, Try.ntmps53
        go_wp2_with fail
        refine (HW.out _).mono ?_; rintro e w1 ⟨rfl, rfl⟩
        go_wp2_with fail
        refine HSk.out.mono ?_; rintro e w1 ⟨rfl, hb1⟩
        unfold seekV
        have HB := Lib.hid hb1
        clear hb1
        go_wp2_with fail
        go_ret2
        exact ⟨rfl, HB.out⟩
      · have hxx : none = x := by rw [← hx, if_neg (fun h => e2 h.2)]
        subst hxx e1
        clear hx
        have hs1 : (cs != 1) = true := by simp [e2]
        go_enter Try.func53, Try.ntmps53
        go_wp2_with fail
        refine (HW.out _).mono ?_; rintro e w1 ⟨rfl, rfl⟩
        go_wp2_with fail
        refine HSk.out.mono ?_; rintro e w1 ⟨rfl, hb1⟩
        unfold seekV
        have HB := Lib.hid hb1
        clear hb1
        go_wp2_with fail
        go_ret2
        exact ⟨rfl, HB.out⟩
    · have hxx : none = x := by rw [← hx, if_neg (fun h => e1 h.1)]
      subst hxx
      clear hx
      have hq : (ck.toList == key.toList) = false := by rw [hbq]; simp [e1]
      have hq2 : (ck.toList != key.toList) = true := by simp [bne, hq]
      clear hbq
      go_enter Try.func53, Try.ntmps53
      go_wp2_with fail
      refine (HW.out _).mono ?_; rintro e w1 ⟨rfl, rfl⟩
      go_wp2_with fail
      refine HSk.out.mono ?_; rintro e w1 ⟨rfl, hb1⟩
      unfold seekV
      have HB := Lib.hid hb1
      clear hb1
      go_wp2_with fail
      go_ret2
      exact ⟨rfl, HB.out⟩
end
end Go.Proofs.Ytljommhbhpappaa
