/-
  Several texts in one: CopyW, Node7, Node8, Node9a.
-/
import Derived.Test.YtljommhbhpappaaPkNode
import Derived.Laws.CopyRow
import Derived.Laws.CopyOwn
namespace Go.Proofs.Ytljommhbhpappaa
/-!
  copy on cells of pages: elements of two cells each (plain laws on the model's words).
-/
section
open Go.RowKit Go.Joins
set_option linter.unusedVariables false
set_option linter.unusedSimpArgs false

section
variable {P : Program}
/-- copy of n elements of sz cells each -/
theorem run_copy_wide (w : World) (dT sT ty elem : TypeId) (g off dLen dCap : Nat) (ad : Addr) (sLen sCap n sz : Nat) (cur : Array Value) (t : TypeId) (cs : List Value)
    (hu : P.underlying dT = some (.slice elem)) (hs : (P.info? elem).map (·.size) = some sz) (hg : w.heap[g]? = some (.cells cur t (0, 0))) (hn : Nat.min sLen dLen = n) (hl : cs.length = n * sz)
    (hsrc : ∀ j v, cs[j]? = some v → w.cell? (ad.add j) = some v) (hfit : off + cs.length ≤ cur.size) (h1 : ∀ v ∈ cs, v.oneCell' = true) :
    (Builtin.copy_ #[dT, sT] ty #[.slice (some ⟨g, off, none⟩) dLen dCap, .slice (some ad) sLen sCap]).run P w = .ok (goInt n) (w.setRow g (cur.toList.take off ++ cs ++ cur.toList.drop (off + cs.length)).toArray) := by
  have hld := run_loadCells_list (P := P) w ad cs hsrc
  have hst := run_storeCells_at P g off t cs 0 cur w hg (by simpa using hfit) h1
  cases hq : P.info? elem with
  | none => simp [hq] at hs
  | some i =>
    have hi : i.size = sz := by simpa [hq] using hs
    rw [hl] at hld
    simp [Builtin.copy_, run_underlying hu, Builtin.lenOf, Builtin.firstCells, sizeOf, typeInfo, hq, hi, hn, hld, hst]
theorem run_copy_zero (w : World) (dT sT ty elem : TypeId) (d a : Option Addr) (dLen dCap sLen sCap sz : Nat) (hu : P.underlying dT = some (.slice elem)) (hs : (P.info? elem).map (·.size) = some sz) (hn : Nat.min sLen dLen = 0) :
    (Builtin.copy_ #[dT, sT] ty #[.slice d dLen dCap, .slice a sLen sCap]).run P w = .ok (goInt 0) w := by
  cases hq : P.info? elem with
  | none => simp [hq] at hs
  | some i =>
    have hl : ∀ (x : Addr), (loadCells x 0).run P w = .ok #[] w := fun x => by simpa using run_loadCells_list (P := P) w x [] (by simp)
    cases d <;> cases a <;> simp [Builtin.copy_, run_underlying hu, Builtin.lenOf, Builtin.firstCells, sizeOf, typeInfo, hq, hn, storeCells, hl]
end

theorem pg_ext {c : Array Value} {q : Pg} (hs : c.size = 16) (h0 : c[0]? = some (.int .i64 q.k)) (h1 : c[1]? = some (.int .i64 q.l)) (h2 : c[2]? = some (.int .i64 q.s)) (h3 : c[3]? = some (.int .i64 q.n))
    (ha : ∀ x, x < 6 → c[4 + x * 2]? = some (.int .i64 (q.a x))) (hd : ∀ x, x < 6 → c[4 + x * 2 + 1]? = some (.string (q.d x))) : c = q.cs := by
  apply Array.ext_getElem?
  intro i
  by_cases hi : i < 16
  · by_cases h4 : i < 4
    · rcases i with _ | _ | _ | _ | i
      · exact h0
      · exact h1
      · exact h2
      · exact h3
      · omega
    · by_cases ho : (i - 4) % 2 = 0
      · have e : i = 4 + ((i - 4) / 2) * 2 := by omega
        rw [e, ha _ (by omega), cs_a _ _ (by omega)]
      · have e : i = 4 + ((i - 4) / 2) * 2 + 1 := by omega
        rw [e, hd _ (by omega), cs_d _ _ (by omega)]
  · rw [Array.getElem?_eq_none (by omega), Array.getElem?_eq_none (by rw [Pg.size_cs]; omega)]

/-- q is p with n cells from i on as they stand in p2 from j on -/
structure Copied (p p2 q : Pg) (i j n : Nat) : Prop where
  head : q.k = p.k ∧ q.l = p.l ∧ q.s = p.s ∧ q.n = p.n
  a : ∀ x, x < 6 → q.a x = if i ≤ x ∧ x < i + n then p2.a (j + (x - i)) else p.a x
  d : ∀ x, x < 6 → q.d x = if i ≤ x ∧ x < i + n then p2.d (j + (x - i)) else p.d x
theorem Copied.row {p p2 q : Pg} {i j n : Nat} (h : Copied p p2 q i j n) (hi : i + n ≤ 6) (hj : j + n ≤ 6) :
    (p.cs.toList.take (4 + i * 2) ++ (p2.cs.toList.drop (4 + j * 2)).take (n * 2) ++ p.cs.toList.drop (4 + i * 2 + n * 2)).toArray = q.cs := by
  have hl : ∀ p : Pg, p.cs.toList.length = 16 := fun p => rfl
  have hg : ∀ m, m < 16 → ((p.cs.toList.take (4 + i * 2) ++ (p2.cs.toList.drop (4 + j * 2)).take (n * 2) ++ p.cs.toList.drop (4 + i * 2 + n * 2)).toArray)[m]? = if 4 + i * 2 ≤ m ∧ m < 4 + i * 2 + n * 2 then p2.cs[4 + j * 2 + (m - (4 + i * 2))]? else p.cs[m]? := by
    intro m hm
    rw [List.getElem?_toArray, List.append_assoc, List.getElem?_append]
    simp only [List.length_take, hl]
    have e1 : min (4 + i * 2) 16 = 4 + i * 2 := by omega
    rw [e1]
    by_cases c1 : m < 4 + i * 2
    · rw [if_pos c1, if_neg (by omega), List.getElem?_take, if_pos c1, Array.getElem?_toList]
    · rw [if_neg c1, List.getElem?_append]
      simp only [List.length_take, List.length_drop, hl]
      have e2 : min (n * 2) (16 - (4 + j * 2)) = n * 2 := by omega
      rw [e2]
      by_cases c2 : m - (4 + i * 2) < n * 2
      · rw [if_pos c2, if_pos (by omega), List.getElem?_take, if_pos c2, List.getElem?_drop, Array.getElem?_toList]
      · rw [if_neg c2, if_neg (by omega), List.getElem?_drop, Array.getElem?_toList]
        congr 1
        omega
  refine pg_ext ?_ ?_ ?_ ?_ ?_ (fun x hx => ?_) (fun x hx => ?_)
  · simp [hl]; omega
  · rw [hg 0 (by omega), if_neg (by omega), h.head.1]; rfl
  · rw [hg 1 (by omega), if_neg (by omega), h.head.2.1]; rfl
  · rw [hg 2 (by omega), if_neg (by omega), h.head.2.2.1]; rfl
  · rw [hg 3 (by omega), if_neg (by omega), h.head.2.2.2]; rfl
  · rw [hg _ (by omega), h.a x hx]
    by_cases c : i ≤ x ∧ x < i + n
    · rw [if_pos (by omega), if_pos c, show 4 + j * 2 + (4 + x * 2 - (4 + i * 2)) = 4 + (j + (x - i)) * 2 from by omega, cs_a _ _ (by omega)]
    · rw [if_neg (by omega), if_neg c, cs_a _ _ hx]
  · rw [hg _ (by omega), h.d x hx]
    by_cases c : i ≤ x ∧ x < i + n
    · rw [if_pos (by omega), if_pos c, show 4 + j * 2 + (4 + x * 2 + 1 - (4 + i * 2)) = 4 + (j + (x - i)) * 2 + 1 from by omega, cs_d _ _ (by omega)]
    · rw [if_neg (by omega), if_neg c, cs_d _ _ hx]
theorem pg_one (p : Pg) : ∀ v ∈ p.cs.toList, v.oneCell' = true := by
  intro u hu
  simp [Pg.cs] at hu
  rcases hu with rfl | rfl | rfl | rfl | rfl | rfl | rfl | rfl | rfl | rfl | rfl | rfl | rfl | rfl | rfl | rfl <;> rfl

/-- copy of cells of a page to a page, as one step of a region -/
theorem step_copy_page {w : World} {ops : Array Oper} {o : Oper} {a : Act} {K : Act → World → Prop} {Q : Exit → Act → World → Prop} {E : Prop} (hgd : o.guard = none) (d s : Operand) (dT sT : TypeId)
    (ho : o.op = .call { callee := .builtin .copy, args := #[d, s], argTypes := #[dT, sT] }) (hu : Try.prog.underlying dT = some (.slice 84))
    (dp sp : Option Addr) (dLen dCap sLen sCap n : Nat) (hd : a.eval d = .slice dp dLen dCap) (hs : a.eval s = .slice sp sLen sCap) (hn : Nat.min sLen dLen = n)
    (g g2 i j : Nat) (p p2 q : Pg) (hg : rowAt w g = some p.cs) (hg2 : rowAt w g2 = some p2.cs) (hpos : 0 < n → dp = some ⟨g, 4 + i * 2, none⟩ ∧ sp = some ⟨g2, 4 + j * 2, none⟩) (hi : i + n ≤ 6) (hj : j + n ≤ 6) (hq : Copied p p2 q i j n)
    (h : K (a.put o.dst (goInt n)) (w.setRow g q.cs)) :
    if Region.wanted o (yielded ops a.tmps) = true then Oper.wp Try.prog o a w K Q else E := by
  have hw : Region.wanted o (yielded ops a.tmps) = true := by simp [Region.wanted, hgd]
  rw [if_pos hw]
  obtain ⟨t, ht⟩ := rowAt_heap hg
  have hsz : (Try.prog.info? 84).map (·.size) = some 2 := by kernel_rfl
  by_cases h0 : n = 0
  · subst h0
    have hqp : q = p := by
      have e : q.cs = p.cs := by
        have := hq.row (by omega) (by omega)
        rw [← this]; simp
      have hk := hq.head
      have ha := hq.a
      have hd := hq.d
      cases p; cases q
      simp only [Pg.cs, Array.mk.injEq, List.cons.injEq, Value.int.injEq, Value.string.injEq, true_and, and_true] at e
      simp only [Pg.mk.injEq]
      exact e
    subst hqp
    rw [setRow_self w g q.cs t (0, 0) ht] at h
    have hrun := run_copy_zero (P := Try.prog) w dT sT o.type 84 dp sp dLen dCap sLen sCap 2 hu hsz hn
    unfold Oper.wp
    simp [execOp, ho, resolve, invoke, builtin, hd, hs, hrun, Result.andThen]
    exact h
  · obtain ⟨rfl, rfl⟩ := hpos (by omega)
    have hlen : ((p2.cs.toList.drop (4 + j * 2)).take (n * 2)).length = n * 2 := by
      rw [List.length_take, List.length_drop]
      show min (n * 2) (16 - (4 + j * 2)) = n * 2
      omega
    have hrun := run_copy_wide (P := Try.prog) w dT sT o.type 84 g (4 + i * 2) dLen dCap ⟨g2, 4 + j * 2, none⟩ sLen sCap n 2 p.cs t ((p2.cs.toList.drop (4 + j * 2)).take (n * 2)) hu hsz ht hn hlen
      (fun m v hm => by
        have hm2 : m < n * 2 := by
          have := (List.getElem?_eq_some_iff.1 hm).1
          rw [hlen] at this; exact this
        rw [List.getElem?_take, if_pos hm2, List.getElem?_drop, Array.getElem?_toList] at hm
        rw [Addr.add_lit, cell_row hg2]
        exact hm)
      (by rw [hlen, Pg.size_cs]; omega) (fun v hv => pg_one p2 v ((List.drop_sublist _ _).subset ((List.take_sublist _ _).subset hv)))
    rw [hlen, hq.row hi hj] at hrun
    unfold Oper.wp
    simp [execOp, ho, resolve, invoke, builtin, hd, hs, hrun, Result.andThen]
    exact h
end

/-!
  Layer 5 (node): Put.
-/
section
open Go.RowKit Go.Joins
set_option linter.unusedVariables false
set_option linter.unusedSimpArgs false

theorem pg_eq {p q : Pg} (h : p.k = q.k ∧ p.l = q.l ∧ p.s = q.s ∧ p.n = q.n) (ha : ∀ x, x < 6 → p.a x = q.a x) (hd : ∀ x, x < 6 → p.d x = q.d x) : p = q := by
  obtain ⟨h1, h2, h3, h4⟩ := h
  have a0 := ha 0 (by omega); have a1 := ha 1 (by omega); have a2 := ha 2 (by omega); have a3 := ha 3 (by omega); have a4 := ha 4 (by omega); have a5 := ha 5 (by omega)
  have d0 := hd 0 (by omega); have d1 := hd 1 (by omega); have d2 := hd 2 (by omega); have d3 := hd 3 (by omega); have d4 := hd 4 (by omega); have d5 := hd 5 (by omega)
  cases p; cases q
  simp only [Pg.mk.injEq]
  exact ⟨h1, h2, h3, h4, a0, d0, a1, d1, a2, d2, a3, d3, a4, d4, a5, d5⟩
theorem nd_head (lv st nx : Int) (L : List NC) : (ndPg lv st nx L).k = 4 ∧ (ndPg lv st nx L).l = lv ∧ (ndPg lv st nx L).s = st ∧ (ndPg lv st nx L).n = nx := ⟨rfl, rfl, rfl, rfl⟩
theorem stL_of {L M : List NC} {x y : Nat} (h : L[x]? = M[y]?) : stL L x = stL M y := by unfold stL; rw [h]
theorem dL_of {L M : List NC} {x y : Nat} (h : L[x]? = M[y]?) : dL L x = dL M y := by unfold dL; rw [h]
/-- one cell more, at its place -/
def insL (L : List NC) (i : Nat) (c : NC) : List NC := L.take i ++ c :: L.drop i
theorem insL_len {L : List NC} {i : Nat} (c : NC) (h : i ≤ L.length) : (insL L i c).length = L.length + 1 := by
  simp [insL]; omega
theorem insL_get {L : List NC} {i : Nat} (c : NC) (h : i ≤ L.length) (x : Nat) : (insL L i c)[x]? = if x < i then L[x]? else if x = i then some c else L[x - 1]? := by
  unfold insL
  rw [List.getElem?_append, List.length_take, Nat.min_eq_left h]
  by_cases c1 : x < i
  · rw [if_pos c1, if_pos c1, List.getElem?_take, if_pos c1]
  · rw [if_neg c1, if_neg c1]
    by_cases c2 : x = i
    · rw [if_pos c2]; subst c2; simp
    · rw [if_neg c2, List.getElem?_cons, if_neg (by omega), List.getElem?_drop]
      congr 1; omega
/-- the list while the cells move up -/
def midL (L : List NC) (i : Nat) : List NC := L.take (i + 1) ++ L.drop i
theorem midL_get {L : List NC} {i : Nat} (h : i < L.length) (x : Nat) : (midL L i)[x]? = if x ≤ i then L[x]? else L[x - 1]? := by
  unfold midL
  rw [List.getElem?_append, List.length_take, Nat.min_eq_left (by omega)]
  by_cases c1 : x < i + 1
  · rw [if_pos c1, if_pos (by omega), List.getElem?_take, if_pos c1]
  · rw [if_neg c1, if_neg (by omega), List.getElem?_drop]
    congr 1; omega
theorem mid_end (L : List NC) : midL L L.length = L := by
  unfold midL
  rw [List.take_of_length_le (by omega), List.drop_length, List.append_nil]
theorem mid_copied (lv st nx : Int) (L : List NC) (i : Nat) (h : i ≤ L.length) (h5 : L.length ≤ 5) : Copied (ndPg lv st nx L) (ndPg lv st nx L) (ndPg lv st nx (midL L i)) (i + 1) i (L.length - i) := by
  refine ⟨⟨rfl, rfl, rfl, rfl⟩, fun x hx => ?_, fun x hx => ?_⟩
  · rw [nd_a _ _ _ _ _ hx, nd_a _ _ _ _ _ hx]
    by_cases hi : i = L.length
    · subst hi
      rw [if_neg (by omega), mid_end]
    · by_cases c : i + 1 ≤ x ∧ x < i + 1 + (L.length - i)
      · rw [if_pos c, nd_a _ _ _ _ _ (by omega)]
        refine stL_of ?_
        rw [midL_get (by omega), if_neg (by omega)]
        congr 1; omega
      · rw [if_neg c]
        by_cases c2 : x ≤ i
        · refine stL_of ?_
          rw [midL_get (by omega), if_pos c2]
        · rw [stL_out (by unfold midL; simp; omega), stL_out (by omega)]
  · rw [nd_d _ _ _ _ _ hx, nd_d _ _ _ _ _ hx]
    by_cases hi : i = L.length
    · subst hi
      rw [if_neg (by omega), mid_end]
    · by_cases c : i + 1 ≤ x ∧ x < i + 1 + (L.length - i)
      · rw [if_pos c, nd_d _ _ _ _ _ (by omega)]
        refine dL_of ?_
        rw [midL_get (by omega), if_neg (by omega)]
        congr 1; omega
      · rw [if_neg c]
        by_cases c2 : x ≤ i
        · refine dL_of ?_
          rw [midL_get (by omega), if_pos c2]
        · rw [dL_out (by unfold midL; simp; omega), dL_out (by omega)]
theorem mid_set (lv st nx : Int) (L : List NC) (i : Nat) (c : NC) (h : i ≤ L.length) (h5 : L.length ≤ 5) : (ndPg lv st nx (midL L i)).setC i c.st c.d = ndPg lv st nx (insL L i c) := by
  have hh := h_setC (ndPg lv st nx (midL L i)) i (by omega) c.st c.d
  refine pg_eq ⟨hh.1, hh.2.1, hh.2.2.1, hh.2.2.2⟩ (fun x hx => ?_) (fun x hx => ?_)
  · rw [a_setC _ _ _ (by omega) hx, nd_a _ _ _ _ _ hx, nd_a _ _ _ _ _ hx]
    by_cases e : x = i
    · subst e
      rw [if_pos rfl]
      unfold stL; rw [insL_get c h, if_neg (by omega), if_pos rfl]
    · rw [if_neg e]
      by_cases hi : i = L.length
      · subst hi
        rw [mid_end]
        by_cases c2 : x < L.length
        · refine stL_of ?_; rw [insL_get c h, if_pos c2]
        · rw [stL_out (by omega), stL_out (by rw [insL_len c h]; omega)]
      · refine stL_of ?_
        rw [midL_get (by omega), insL_get c h]
        by_cases c2 : x < i
        · rw [if_pos (by omega), if_pos c2]
        · rw [if_neg (by omega), if_neg c2, if_neg e]
  · rw [d_setC _ _ _ (by omega) hx, nd_d _ _ _ _ _ hx, nd_d _ _ _ _ _ hx]
    by_cases e : x = i
    · subst e
      rw [if_pos rfl]
      unfold dL; rw [insL_get c h, if_neg (by omega), if_pos rfl]
    · rw [if_neg e]
      by_cases hi : i = L.length
      · subst hi
        rw [mid_end]
        by_cases c2 : x < L.length
        · refine dL_of ?_; rw [insL_get c h, if_pos c2]
        · rw [dL_out (by omega), dL_out (by rw [insL_len c h]; omega)]
      · refine dL_of ?_
        rw [midL_get (by omega), insL_get c h]
        by_cases c2 : x < i
        · rw [if_pos (by omega), if_pos c2]
        · rw [if_neg (by omega), if_neg c2, if_neg e]

theorem rowAt_setRow_far (W : World) (n m : Nat) (c : Array Value) (h : m ≠ n) : rowAt (W.setRow n c) m = rowAt W m := by
  unfold rowAt
  rw [setRow_other W n m c h]

set_option maxHeartbeats 4000000 in
set_option maxRecDepth 100000 in
theorem nput_ok (lv st nx : Int) (L : List NC) (h5 : L.length ≤ 5) (hok : ∀ c ∈ L, c.ok) (c : NC) (hc : c.ok) (hnt : (findL c.key L 0).2 = false) (w : World) :
    Calls Try.prog 109 #[(ndPg lv st nx L).v, .agg #[.int .i64 c.st, .string c.d]] w fun e w' => e = .returned (.tuple #[(ndPg lv st nx (insL L (findL c.key L 0).1 c)).v, .int .i64 0]) ∧ Below w.heap.size w w' := by
  have HC := Lib.hid (fun w' => ncount_nd lv st nx L (by omega) hok w')
  have HF := Lib.hid (fun w' => nfind_any lv st nx L (by omega) hok c.key w')
  have hle := (findL_le c.key L 0).2
  rw [hnt] at HF
  generalize (findL c.key L 0).1 = i at *
  have HQ := Lib.hid (mid_copied lv st nx L i (by omega) h5)
  have hset := mid_set lv st nx L i c (by omega) h5
  generalize ndPg lv st nx (insL L i c) = r at *
  generalize ndPg lv st nx (midL L i) = q at *
  generalize ndPg lv st nx L = p at *
  have hln : L.length = L.length := rfl
  generalize L.length = n at *
  obtain ⟨ck, cs, cr⟩ := c
  have hd : NC.d ⟨ck, cs, cr⟩ = tx ck ++ cr := rfl
  have HK := Lib.hid (fun w' => key_ok cs ck cr hc.1 hc.2.1 (by have := hc.2.2; simp only at this; omega) w')
  rw [hd] at hset ⊢
  simp only at hset HF hle ⊢
  generalize tx ck ++ cr = dd at *
  have HSet := Lib.hid hset
  clear hok hc hnt hd hset hln
  go_enter Try.func109, Try.ntmps109
  go_wp2_with fail
  refine (HK.out _).mono ?_; rintro e w1 ⟨rfl, hb1⟩
  have hz1 := hb1.size
  simp only [World.size_alloc] at hz1
  have P1 := Lib.hid ((rowAt_below hb1 (n := w.heap.size) (by go_size)).trans ((rowAt_past _ _ _ (by go_size)).trans ((rowAt_past _ _ _ (by go_size)).trans (rowAt_at w p.cs 112 _ rfl))))
  have C1 := Lib.hid ((rowAt_below hb1 (n := w.heap.size + 1) (by go_size)).trans ((rowAt_past _ _ _ (by go_size)).trans (rowAt_at (w.alloc (.cells p.cs 112)) #[.int .i64 cs, .string dd] 84 _ (by go_size))))
  have Z1 := Lib.hid ((rowAt_below hb1 (n := w.heap.size + 1 + 1) (by go_size)).trans (rowAt_at ((w.alloc (.cells p.cs 112)).alloc (.cells #[.int .i64 cs, .string dd] 84)) Pg.zero.cs 112 _ (by go_size)))
  have B1 : Hid (Below w.heap.size w w1) := Lib.hid (((((Below.refl _ _).alloc (Nat.le_refl _) _).alloc (by go_size) _).alloc (by go_size) _).trans (hb1.mono (by go_size)))
  clear hb1
  have P1' := P1.out
  go_wp2_with fail
  refine (HC.out _).mono ?_; rintro e w2 ⟨rfl, hb2⟩
  have hz2 := hb2.size
  have P2 := Lib.hid ((rowAt_below hb2 (by omega)).trans P1.out)
  have C2 := Lib.hid ((rowAt_below hb2 (by omega)).trans C1.out)
  have Z2 := Lib.hid ((rowAt_below hb2 (by omega)).trans Z1.out)
  have B2 : Hid (Below w.heap.size w w2) := Lib.hid (B1.out.trans (hb2.mono (by omega)))
  clear hb2 P1' P1 C1 Z1
  have P2' := P2.out
  go_wp2_with fail
  refine (HF.out _).mono ?_; rintro e w3 ⟨rfl, hb3⟩
  have hz3 := hb3.size
  have P3 := Lib.hid ((rowAt_below hb3 (by omega)).trans P2.out)
  have C3 := Lib.hid ((rowAt_below hb3 (by omega)).trans C2.out)
  have Z3 := Lib.hid ((rowAt_below hb3 (by omega)).trans Z2.out)
  have B3 : Hid (Below w.heap.size w w3) := Lib.hid (B2.out.trans (hb3.mono (by omega)))
  clear hb3 P2' P2 C2 Z2
  have hn6 : ((n : Int) == 6) = false := by simp; omega
  have hi0 : (0 : Int) ≤ (i : Int) := Int.natCast_nonneg _
  have hin : (i : Int) ≤ (n : Int) := by omega
  have hwi : IntKind.i64.wrap ((i : Int) + 1) = (i : Int) + 1 := by rw [IntKind.wrap_i64]; omega
  have hwn : IntKind.i64.wrap ((n : Int) + 1) = (n : Int) + 1 := by rw [IntKind.wrap_i64]; omega
  have hb1 : (0 : Int) ≤ (i : Int) + 1 := by omega
  have hb2 : (i : Int) + 1 ≤ (n : Int) + 1 := by omega
  have hb3 : (n : Int) + 1 ≤ 6 := by omega
  have hb4 : (n : Int) ≤ 6 := by omega
  go_wp2_with fail
  go_region_held3 (fun W => True) (exact trivial)
    (first
      | (refine step_copy_page (by rfl) _ _ _ _ (by rfl) Try.underlying169 _ _ _ _ _ _ (n - i) (by rfl) (by rfl) (Nat.min_self _) w.heap.size w.heap.size (i + 1) i p p q P3.out P3.out (fun h => ⟨by rw [if_neg (by omega)], by rw [if_neg (by omega)]⟩) (by omega) (by omega) HQ.out ?_))
  all_goals
    have PW := rowAt_setRow w3.drew w.heap.size _ q.cs P3.out
    have CW := (rowAt_setRow_far w3.drew w.heap.size (w.heap.size + 1) q.cs (by omega)).trans C3.out
    have ZW := (rowAt_setRow_far w3.drew w.heap.size (w.heap.size + 1 + 1) q.cs (by omega)).trans Z3.out
    have BW : Below w.heap.size w (w3.drew.setRow w.heap.size q.cs) := below_setRow B3.out.drew _ (Nat.le_refl _)
    have HPW := Lib.hid PW
    have HZW := Lib.hid ZW
    have HBW := Lib.hid BW
    have cA := (cell_row PW (4 + i * 2)).trans (cs_a q i (by omega))
    have cD := (cell_row PW (4 + i * 2 + 1)).trans (cs_d q i (by omega))
    have fA := frozen_row PW (4 + i * 2)
    have fD := frozen_row PW (4 + i * 2 + 1)
    have x0 := cell_row CW 0
    have x1 := cell_row CW 1
    simp only [List.getElem?_toArray, List.getElem?_cons_succ, List.getElem?_cons_zero] at x0 x1
    clear PW ZW BW CW
    generalize w3.drew.setRow w.heap.size q.cs = W at *
    have RF : rowAt ((W.setCell ⟨w.heap.size, 4 + i * 2, none⟩ (.int .i64 cs)).setCell ⟨w.heap.size, 4 + i * 2 + 1, none⟩ (.string dd)) w.heap.size = some r.cs := by
      rw [← HSet.out, ← cs_setC q i (by omega)]
      exact rowAt_setCell_here _ _ _ _ _ (rowAt_setCell_here _ _ _ _ _ HPW.out)
    have ZF : rowAt ((W.setCell ⟨w.heap.size, 4 + i * 2, none⟩ (.int .i64 cs)).setCell ⟨w.heap.size, 4 + i * 2 + 1, none⟩ (.string dd)) (w.heap.size + 1 + 1) = some Pg.zero.cs := by
      rw [rowAt_setCell_far _ _ _ _ (by simp; omega), rowAt_setCell_far _ _ _ _ (by simp; omega)]
      exact HZW.out
    have BF : Below w.heap.size w ((W.setCell ⟨w.heap.size, 4 + i * 2, none⟩ (.int .i64 cs)).setCell ⟨w.heap.size, 4 + i * 2 + 1, none⟩ (.string dd)) := below_setCell (below_setCell HBW.out _ _ (Nat.le_refl _)) _ _ (Nat.le_refl _)
    clear HQ HSet
    by_cases hi5 : i = 5
    · subst hi5
      simp only [Nat.reduceMul, Nat.reduceAdd] at RF ZF BF cA cD fA fD
      generalize hW2 : (W.setCell ⟨w.heap.size, 14, none⟩ (.int .i64 cs)).setCell ⟨w.heap.size, 15, none⟩ (.string dd) = W2 at *
      have HBF := Lib.hid BF
      clear BF
      have hrow : row16 (rowAt W2 w.heap.size) = true := by rw [RF]; rfl
      have hrow2 : row16 (rowAt W2 (w.heap.size + 1 + 1)) = true := by rw [ZF]; rfl
      go_wp2_with fail
      exact ret_page rfl rfl (w.heap.size + 1 + 1) r rfl (rowAt_setRow _ _ _ _ ZF) ⟨rfl, below_setRow HBF.out _ (by omega)⟩
    · have hi6 : ¬ 6 = i := by omega
      generalize hW2 : (W.setCell ⟨w.heap.size, 4 + i * 2, none⟩ (.int .i64 cs)).setCell ⟨w.heap.size, 4 + i * 2 + 1, none⟩ (.string dd) = W2 at *
      have HBF := Lib.hid BF
      clear BF
      have hrow : row16 (rowAt W2 w.heap.size) = true := by rw [RF]; rfl
      have hrow2 : row16 (rowAt W2 (w.heap.size + 1 + 1)) = true := by rw [ZF]; rfl
      go_wp2_with fail
      exact ret_page rfl rfl (w.heap.size + 1 + 1) r rfl (rowAt_setRow _ _ _ _ ZF) ⟨rfl, below_setRow HBF.out _ (by omega)⟩

set_option maxHeartbeats 4000000 in
set_option maxRecDepth 100000 in
theorem nput_full (lv st nx : Int) (L : List NC) (h5 : L.length = 6) (hok : ∀ c ∈ L, c.ok) (c : NC) (hc : c.ok) (hnt : (findL c.key L 0).2 = false) (w : World) :
    Calls Try.prog 109 #[(ndPg lv st nx L).v, .agg #[.int .i64 c.st, .string c.d]] w fun e w' => e = .returned (.tuple #[Pg.zero.v, .int .i64 140]) ∧ Below w.heap.size w w' := by
  have HC := Lib.hid (fun w' => ncount_nd lv st nx L (by omega) hok w')
  have HF := Lib.hid (fun w' => nfind_any lv st nx L (by omega) hok c.key w')
  have hle := (findL_le c.key L 0).2
  rw [hnt] at HF
  generalize (findL c.key L 0).1 = i at *
  generalize ndPg lv st nx L = p at *
  have hln : L.length = L.length := rfl
  generalize L.length = n at *
  obtain ⟨ck, cs, cr⟩ := c
  have hd : NC.d ⟨ck, cs, cr⟩ = tx ck ++ cr := rfl
  have HK := Lib.hid (fun w' => key_ok cs ck cr hc.1 hc.2.1 (by have := hc.2.2; simp only at this; omega) w')
  rw [hd]
  simp only at HF hle ⊢
  generalize tx ck ++ cr = dd at *
  clear hok hc hnt hd hln
  go_enter Try.func109, Try.ntmps109
  go_wp2_with fail
  refine (HK.out _).mono ?_; rintro e w1 ⟨rfl, hb1⟩
  have hz1 := hb1.size
  simp only [World.size_alloc] at hz1
  have P1 := Lib.hid ((rowAt_below hb1 (n := w.heap.size) (by go_size)).trans ((rowAt_past _ _ _ (by go_size)).trans ((rowAt_past _ _ _ (by go_size)).trans (rowAt_at w p.cs 112 _ rfl))))
  have C1 := Lib.hid ((rowAt_below hb1 (n := w.heap.size + 1) (by go_size)).trans ((rowAt_past _ _ _ (by go_size)).trans (rowAt_at (w.alloc (.cells p.cs 112)) #[.int .i64 cs, .string dd] 84 _ (by go_size))))
  have Z1 := Lib.hid ((rowAt_below hb1 (n := w.heap.size + 1 + 1) (by go_size)).trans (rowAt_at ((w.alloc (.cells p.cs 112)).alloc (.cells #[.int .i64 cs, .string dd] 84)) Pg.zero.cs 112 _ (by go_size)))
  have B1 : Hid (Below w.heap.size w w1) := Lib.hid (((((Below.refl _ _).alloc (Nat.le_refl _) _).alloc (by go_size) _).alloc (by go_size) _).trans (hb1.mono (by go_size)))
  clear hb1
  have P1' := P1.out
  go_wp2_with fail
  refine (HC.out _).mono ?_; rintro e w2 ⟨rfl, hb2⟩
  have hz2 := hb2.size
  have P2 := Lib.hid ((rowAt_below hb2 (by omega)).trans P1.out)
  have C2 := Lib.hid ((rowAt_below hb2 (by omega)).trans C1.out)
  have Z2 := Lib.hid ((rowAt_below hb2 (by omega)).trans Z1.out)
  have B2 : Hid (Below w.heap.size w w2) := Lib.hid (B1.out.trans (hb2.mono (by omega)))
  clear hb2 P1' P1 C1 Z1
  have P2' := P2.out
  go_wp2_with fail
  refine (HF.out _).mono ?_; rintro e w3 ⟨rfl, hb3⟩
  have hz3 := hb3.size
  have P3 := Lib.hid ((rowAt_below hb3 (by omega)).trans P2.out)
  have C3 := Lib.hid ((rowAt_below hb3 (by omega)).trans C2.out)
  have Z3 := Lib.hid ((rowAt_below hb3 (by omega)).trans Z2.out)
  have B3 : Hid (Below w.heap.size w w3) := Lib.hid (B2.out.trans (hb3.mono (by omega)))
  clear hb3 P2' P2 C2 Z2
  have hn6 : ((n : Int) == 6) = true := by simp; omega
  have hn66 : (n : Int) = 6 := by omega
  have ZR := Z3.out
  go_wp2_with fail
  exact ret_page rfl rfl (w.heap.size + 1 + 1) Pg.zero rfl (rowAt_setRow _ _ _ _ Z3.out) ⟨rfl, below_setRow B3.out _ (by omega)⟩
end

/-!
  Layer 5 (node): Take.
-/
section
open Go.RowKit Go.Joins
set_option linter.unusedVariables false
set_option linter.unusedSimpArgs false

def midT (L : List NC) (i : Nat) : List NC := L.eraseIdx i ++ L.drop (L.length - 1)
theorem midT_get {L : List NC} {i : Nat} (h : i < L.length) (x : Nat) : (midT L i)[x]? = if x < i then L[x]? else if x + 1 < L.length then L[x + 1]? else if x + 1 = L.length then L[x]? else none := by
  unfold midT
  have hl : (L.eraseIdx i).length = L.length - 1 := List.length_eraseIdx_of_lt h
  rw [List.getElem?_append, hl, List.getElem?_eraseIdx]
  by_cases c1 : x < i
  · rw [if_pos (by omega), if_pos c1, if_pos c1]
  · rw [if_neg c1, if_neg c1]
    by_cases c2 : x + 1 < L.length
    · rw [if_pos (by omega), if_pos c2]
    · rw [if_neg (by omega), if_neg c2, List.getElem?_drop]
      by_cases c3 : x + 1 = L.length
      · rw [if_pos c3]; congr 1; omega
      · rw [if_neg c3]; exact List.getElem?_eq_none (by omega)
theorem midT_len {L : List NC} {i : Nat} (h : i < L.length) : (midT L i).length = L.length := by
  unfold midT
  rw [List.length_append, List.length_eraseIdx_of_lt h, List.length_drop]
  omega
theorem midT_copied (lv st nx : Int) (L : List NC) (i : Nat) (h : i < L.length) (h6 : L.length ≤ 6) : Copied (ndPg lv st nx L) (ndPg lv st nx L) (ndPg lv st nx (midT L i)) i (i + 1) (L.length - 1 - i) := by
  refine ⟨⟨rfl, rfl, rfl, rfl⟩, fun x hx => ?_, fun x hx => ?_⟩
  · rw [nd_a _ _ _ _ _ hx, nd_a _ _ _ _ _ hx]
    by_cases c : i ≤ x ∧ x < i + (L.length - 1 - i)
    · rw [if_pos c, nd_a _ _ _ _ _ (by omega)]
      refine stL_of ?_
      rw [midT_get h, if_neg (by omega), if_pos (by omega)]
      congr 1; omega
    · rw [if_neg c]
      by_cases c2 : x < L.length
      · refine stL_of ?_
        rw [midT_get h]
        by_cases c3 : x < i
        · rw [if_pos c3]
        · rw [if_neg c3, if_neg (by omega), if_pos (by omega)]
      · rw [stL_out (by rw [midT_len h]; omega), stL_out (by omega)]
  · rw [nd_d _ _ _ _ _ hx, nd_d _ _ _ _ _ hx]
    by_cases c : i ≤ x ∧ x < i + (L.length - 1 - i)
    · rw [if_pos c, nd_d _ _ _ _ _ (by omega)]
      refine dL_of ?_
      rw [midT_get h, if_neg (by omega), if_pos (by omega)]
      congr 1; omega
    · rw [if_neg c]
      by_cases c2 : x < L.length
      · refine dL_of ?_
        rw [midT_get h]
        by_cases c3 : x < i
        · rw [if_pos c3]
        · rw [if_neg c3, if_neg (by omega), if_pos (by omega)]
      · rw [dL_out (by rw [midT_len h]; omega), dL_out (by omega)]
theorem midT_set (lv st nx : Int) (L : List NC) (i : Nat) (h : i < L.length) (h6 : L.length ≤ 6) : (ndPg lv st nx (midT L i)).setC (L.length - 1) 0 ByteArray.empty = ndPg lv st nx (L.eraseIdx i) := by
  have hl : (L.eraseIdx i).length = L.length - 1 := List.length_eraseIdx_of_lt h
  have hh := h_setC (ndPg lv st nx (midT L i)) (L.length - 1) (by omega) 0 ByteArray.empty
  have hg : ∀ x, x ≠ L.length - 1 → (midT L i)[x]? = (L.eraseIdx i)[x]? := fun x hx => by
    rw [midT_get h, List.getElem?_eraseIdx]
    by_cases c1 : x < i
    · rw [if_pos c1, if_pos c1]
    · rw [if_neg c1, if_neg c1]
      by_cases c2 : x + 1 < L.length
      · rw [if_pos c2]
      · rw [if_neg c2, if_neg (by omega)]
        exact (List.getElem?_eq_none (by omega)).symm
  refine pg_eq ⟨hh.1, hh.2.1, hh.2.2.1, hh.2.2.2⟩ (fun x hx => ?_) (fun x hx => ?_)
  · rw [a_setC _ _ _ (by omega) hx, nd_a _ _ _ _ _ hx, nd_a _ _ _ _ _ hx]
    by_cases e : x = L.length - 1
    · rw [if_pos e, stL_out (by omega)]
    · rw [if_neg e]; exact stL_of (hg x e)
  · rw [d_setC _ _ _ (by omega) hx, nd_d _ _ _ _ _ hx, nd_d _ _ _ _ _ hx]
    by_cases e : x = L.length - 1
    · rw [if_pos e, dL_out (by omega)]
    · rw [if_neg e]; exact dL_of (hg x e)

set_option maxHeartbeats 4000000 in
set_option maxRecDepth 100000 in
theorem ntake_ok (lv st nx : Int) (L : List NC) (h6 : L.length ≤ 6) (hok : ∀ c ∈ L, c.ok) (i : Nat) (hi : i < L.length) (w : World) :
    Calls Try.prog 120 #[(ndPg lv st nx L).v, .int .i64 i] w fun e w' => e = .returned (.tuple #[(ndPg lv st nx (L.eraseIdx i)).v, .int .i64 0]) ∧ Below w.heap.size w w' := by
  have HC := Lib.hid (fun w' => ncount_nd lv st nx L h6 hok w')
  have HQ := Lib.hid (midT_copied lv st nx L i hi h6)
  have hset := midT_set lv st nx L i hi h6
  generalize ndPg lv st nx (L.eraseIdx i) = r at *
  generalize ndPg lv st nx (midT L i) = q at *
  generalize ndPg lv st nx L = p at *
  obtain ⟨n, hn⟩ : ∃ n, L.length = n + 1 := ⟨L.length - 1, by omega⟩
  rw [hn] at HC HQ hset hi h6
  simp only [Nat.add_sub_cancel] at HQ hset
  have HSet := Lib.hid hset
  clear hok hset
  have hwi : IntKind.i64.wrap ((i : Int) + 1) = (i : Int) + 1 := by rw [IntKind.wrap_i64]; omega
  have hwn : IntKind.i64.wrap (((n + 1 : Nat) : Int) - 1) = (n : Int) := by rw [IntKind.wrap_i64]; omega
  have hwn2 : ((n : Int) + 1 - 1) = (n : Int) := by omega
  have hwn3 : wrap64 (n : Int) = (n : Int) := by unfold wrap64; omega
  have hwn4 : IntKind.i64.wrap (n : Int) = (n : Int) := by rw [IntKind.wrap_i64]; omega
  have hwn5 : IntKind.i64.wrap ((n : Int) + 1 - 1) = (n : Int) := by rw [IntKind.wrap_i64]; omega
  have hb0 : (0 : Int) ≤ (i : Int) := by omega
  have hb1 : (0 : Int) ≤ (i : Int) + 1 := by omega
  have hb2 : (i : Int) ≤ (n : Int) := by omega
  have hb3 : (i : Int) + 1 ≤ (n : Int) + 1 := by omega
  have hb4 : (n : Int) + 1 ≤ 6 := by omega
  have hb5 : (n : Int) ≤ 6 := by omega
  have hb6 : decide ((i : Int) < 0) = false := by simp
  have hb7 : decide (((n + 1 : Nat) : Int) ≤ (i : Int)) = false := by simp; omega
  go_enter Try.func120, Try.ntmps120
  go_wp2_with fail
  refine (HC.out _).mono ?_; rintro e w1 ⟨rfl, hz1b⟩
  have hz1 := hz1b.size
  simp only [World.size_alloc] at hz1
  have P1 := Lib.hid ((rowAt_below hz1b (n := w.heap.size) (by go_size)).trans ((rowAt_past _ _ _ (by go_size)).trans (rowAt_at w p.cs 112 _ rfl)))
  have Z1 := Lib.hid ((rowAt_below hz1b (n := w.heap.size + 1) (by go_size)).trans (rowAt_at (w.alloc (.cells p.cs 112)) Pg.zero.cs 112 _ (by go_size)))
  have B1 : Hid (Below w.heap.size w w1) := Lib.hid ((((Below.refl _ _).alloc (Nat.le_refl _) _).alloc (by go_size) _).trans (hz1b.mono (by go_size)))
  clear hz1b
  go_wp2_with fail
  go_region_held3 (fun W => True) (exact trivial)
    (first
      | (refine step_copy_page (by rfl) _ _ _ _ (by rfl) Try.underlying169 _ _ _ _ _ _ (n - i) (by rfl) (by rfl) (Nat.min_self _) w.heap.size w.heap.size i (i + 1) p p q P1.out P1.out (fun h => ⟨by rw [if_neg (by omega)], by rw [if_neg (by omega)]⟩) (by omega) (by omega) HQ.out ?_))
  all_goals
    have PW := rowAt_setRow w1.drew w.heap.size _ q.cs P1.out
    have ZW := (rowAt_setRow_far w1.drew w.heap.size (w.heap.size + 1) q.cs (by omega)).trans Z1.out
    have BW : Below w.heap.size w (w1.drew.setRow w.heap.size q.cs) := below_setRow B1.out.drew _ (Nat.le_refl _)
    have HPW := Lib.hid PW
    have HZW := Lib.hid ZW
    have HBW := Lib.hid BW
    have cA := (cell_row PW (4 + n * 2)).trans (cs_a q n (by omega))
    have cD := (cell_row PW (4 + n * 2 + 1)).trans (cs_d q n (by omega))
    have fA := frozen_row PW (4 + n * 2)
    have fD := frozen_row PW (4 + n * 2 + 1)
    clear PW ZW BW
    generalize w1.drew.setRow w.heap.size q.cs = W at *
    have RF : rowAt ((W.setCell ⟨w.heap.size, 4 + n * 2, none⟩ (.int .i64 0)).setCell ⟨w.heap.size, 4 + n * 2 + 1, none⟩ (.string ⟨#[]⟩)) w.heap.size = some r.cs := by
      rw [← HSet.out, ← cs_setC q n (by omega)]
      exact rowAt_setCell_here _ _ _ _ _ (rowAt_setCell_here _ _ _ _ _ HPW.out)
    have ZF : rowAt ((W.setCell ⟨w.heap.size, 4 + n * 2, none⟩ (.int .i64 0)).setCell ⟨w.heap.size, 4 + n * 2 + 1, none⟩ (.string ⟨#[]⟩)) (w.heap.size + 1) = some Pg.zero.cs := by
      rw [rowAt_setCell_far _ _ _ _ (by simp), rowAt_setCell_far _ _ _ _ (by simp)]
      exact HZW.out
    have BF : Below w.heap.size w ((W.setCell ⟨w.heap.size, 4 + n * 2, none⟩ (.int .i64 0)).setCell ⟨w.heap.size, 4 + n * 2 + 1, none⟩ (.string ⟨#[]⟩)) := below_setCell (below_setCell HBW.out _ _ (Nat.le_refl _)) _ _ (Nat.le_refl _)
    clear HQ HSet
    generalize hW2 : (W.setCell ⟨w.heap.size, 4 + n * 2, none⟩ (.int .i64 0)).setCell ⟨w.heap.size, 4 + n * 2 + 1, none⟩ (.string ⟨#[]⟩) = W2 at *
    have HBF := Lib.hid BF
    clear BF
    have hrow : row16 (rowAt W2 w.heap.size) = true := by rw [RF]; rfl
    have hrow2 : row16 (rowAt W2 (w.heap.size + 1)) = true := by rw [ZF]; rfl
    have hi6 : ¬ 6 = i := by omega
    go_wp2_with fail
    all_goals exact ret_page rfl rfl (w.heap.size + 1) r rfl (rowAt_setRow _ _ _ _ ZF) ⟨rfl, below_setRow HBF.out _ (by omega)⟩
end

/-!
  Layer 5 (node): blank cells; two pages handed back (plain laws for Split).
-/
section
open Go.RowKit Go.Joins
set_option linter.unusedVariables false
set_option linter.unusedSimpArgs false

/-- the store of six blank cells, under a name that the walk does not open -/
def z12 : List Value := [.int .i64 0, .string ⟨#[]⟩, .int .i64 0, .string ⟨#[]⟩, .int .i64 0, .string ⟨#[]⟩, .int .i64 0, .string ⟨#[]⟩, .int .i64 0, .string ⟨#[]⟩, .int .i64 0, .string ⟨#[]⟩]
theorem z12_one : ∀ u ∈ z12, u.oneCell' = true := by
  intro u hu
  simp only [z12, List.mem_cons, List.not_mem_nil, or_false] at hu
  rcases hu with rfl | rfl | rfl | rfl | rfl | rfl | rfl | rfl | rfl | rfl | rfl | rfl <;> rfl
def storeC6 (a v : Value) : Sem Unit := Instr.storeAt 110 a v
@[go_sem ↓] theorem storeC6_eq (a v : Value) : Instr.storeAt 110 a v = storeC6 a v := rfl
def blank (p : Pg) : Pg := { k := p.k, l := p.l, s := p.s, n := p.n }
theorem run_storeZ6 (w : World) (n : Nat) (p : Pg) (h : rowAt w n = some p.cs) : (storeC6 (.pointer (some ⟨n, 4, none⟩)) (.agg #[.int .i64 0, .string ⟨#[]⟩, .int .i64 0, .string ⟨#[]⟩, .int .i64 0, .string ⟨#[]⟩, .int .i64 0, .string ⟨#[]⟩, .int .i64 0, .string ⟨#[]⟩, .int .i64 0, .string ⟨#[]⟩])).run Try.prog w = .ok () (w.setRow n (blank p).cs) := by
  obtain ⟨t, ht⟩ := rowAt_heap h
  have hst := run_storeCells_at Try.prog n 4 t z12 0 p.cs w ht (by simp [Pg.size_cs, z12]) z12_one
  have e : (p.cs.toList.take (4 + 0) ++ z12 ++ p.cs.toList.drop (4 + 0 + z12.length)).toArray = (blank p).cs := rfl
  rw [e] at hst
  have h12 : (Try.prog.info? 110).map (·.size) = some 12 := by kernel_rfl
  cases hq : Try.prog.info? 110 with
  | none => simp [hq] at h12
  | some i =>
    have hi : i.size = 12 := by simpa [hq] using h12
    simp only [storeC6, Instr.storeAt, Instr.sureAddr, Sem.run_bind, Sem.run_pure, Result.andThen_ok]
    show (storeVar 110 ⟨n, 4, none⟩ (.agg z12.toArray)).run Try.prog w = _
    have hz : (Value.agg z12.toArray).cells = z12.toArray := rfl
    simp [storeVar, Sem.run_bind, sizeOf, typeInfo, hq, hi, hz, show z12.length = 12 from rfl, hst]
theorem hi_copied (lv st nx : Int) (c0 c1 c2 c3 c4 c5 : NC) : Copied (blank (ndPg lv st nx [c0, c1, c2, c3, c4, c5])) (ndPg lv st nx [c0, c1, c2, c3, c4, c5]) (ndPg lv st nx [c3, c4, c5]) 0 3 3 := by
  refine ⟨⟨rfl, rfl, rfl, rfl⟩, fun x hx => ?_, fun x hx => ?_⟩
  · rcases x with _ | _ | _ | _ | _ | _ | x
    all_goals first | rfl | omega
  · rcases x with _ | _ | _ | _ | _ | _ | x
    all_goals first | rfl | omega
theorem results_pptt {fn : Func} {p q u v : Tmp} {ty ty' : TypeId} (h : fn.results = #[.cell p ty, .cell q ty', .tmp u, .tmp v]) (tmps : Array Value) (P : Program) (w : World) :
    (results fn tmps).run P w = ((asAddr (tmps.getD p undef)).run P w).andThen fun a w₁ => ((loadVar ty a).run P w₁).andThen fun x w₂ => ((asAddr (tmps.getD q undef)).run P w₂).andThen fun b w₃ => ((loadVar ty' b).run P w₃).andThen fun y w₄ => .ok (.tuple #[x, y, tmps.getD u undef, tmps.getD v undef]) w₄ := by
  simp only [results, h]
  simp [Sem.run_bind, Result.andThen]
/-- the end of a function that hands back two pages and two numbers -/
theorem ret_pptt {fn : Func} {R : Ending → World → Prop} {a : Act} {w : World} {pt qt u v : Tmp} (h : fn.results = #[.cell pt 112, .cell qt 112, .tmp u, .tmp v]) (hd : a.defers = []) (n m : Nat) (p q : Pg) (hp : a.tmps.getD pt undef = .pointer (some ⟨n, 0, none⟩)) (hq : a.tmps.getD qt undef = .pointer (some ⟨m, 0, none⟩)) (hr : rowAt w n = some p.cs) (hr2 : rowAt w m = some q.cs)
    (hR : R (.returned (.tuple #[p.v, q.v, a.tmps.getD u undef, a.tmps.getD v undef])) w) : bodyPost Try.prog fn R .ret a w := by
  refine bodyPost_ret ?_ hd hR
  rw [results_pptt h, hp, hq]
  have hl := run_loadPage w n (by rw [hr]; rfl)
  have hl2 := run_loadPage w m (by rw [hr2]; rfl)
  rw [hr] at hl
  rw [hr2] at hl2
  simp only [asAddr, Sem.run_pure, Result.andThen_ok, hl, hl2]
  rfl
theorem tx_empty (r : ByteArray) : tx ByteArray.empty ++ r = ⟨#[0]⟩ ++ r := rfl
end
end Go.Proofs.Ytljommhbhpappaa
