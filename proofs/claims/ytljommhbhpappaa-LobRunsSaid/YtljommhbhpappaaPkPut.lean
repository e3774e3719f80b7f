/-
  Several texts in one: TreeW, TreeW2, TreeW3, TreeW4, TreeW5.
-/
import Derived.Test.YtljommhbhpappaaPkTree
import Derived.Test.YtljommhbhpappaaNode9
namespace Go.Proofs.Ytljommhbhpappaa
/-!
  Layer 16 (tree), plain law: a volume's pages one by one; what a put does, as values.
-/
section
open Go.RowKit Go.Joins
set_option linter.unusedVariables false
set_option linter.unusedSimpArgs false

/-! ## pages -/
theorem okC_nc {c : NC} (h1 : 1 ≤ c.st) (h2 : c.st ≤ 2) (h3 : c.key.size ≤ 8) (h4 : c.rest.size ≤ 25) : okC c.st c.d = true := by
  have hd : c.d.size = c.key.size + 1 + c.rest.size := by unfold NC.d; rw [ByteArray.size_append, tx_size]
  unfold okC
  simp only [Bool.and_eq_true, decide_eq_true_eq, Bool.or_eq_true, Bool.not_eq_true']
  exact ⟨⟨⟨by omega, h2⟩, by omega⟩, .inl (by simp; omega)⟩
theorem nd_okPg {n : Nat} {st nx : Int} {L : List NC} (h : NodeOk n L) (hn : n ≤ 255) (hst : 0 ≤ st ∧ st ≤ 65535) (hnx : 0 ≤ nx ∧ nx < 1024) : okPg (ndPg (n : Int) st nx L) = true := by
  obtain ⟨h6, -, h0, h1⟩ := h
  refine okPg_of ?_ (fun i hi => ?_)
  · unfold okH
    simp only [Bool.and_eq_true, decide_eq_true_eq]
    have e := nd_head (n : Int) st nx L
    rw [e.1, e.2.1, e.2.2.1, e.2.2.2]
    omega
  · rw [nd_a _ _ _ _ _ hi, nd_d _ _ _ _ _ hi]
    by_cases hl : i < L.length
    · rw [stL_get hl, dL_get hl]
      have hm := List.getElem_mem hl
      rcases n with _ | n
      · obtain ⟨a1, a2, a3, a4⟩ := h0 rfl _ hm
        exact okC_nc (by omega) (by omega) a3 (by omega)
      · obtain ⟨a1, a2, ch, a3, a4, a5⟩ := (h1 (by omega)).1 _ hm
        exact okC_nc (by omega) (by omega) a2 (by rw [a5, le4_size]; omega)
    · rw [stL_out (by omega), dL_out (by omega)]
      exact okC00
theorem VolOk.put {S : Vol} {d m : Pg} {n : Nat} (h : VolOk S d m n) (id : Int) (p : Pg) (h2 : 2 ≤ id) : VolOk (S.put id p) d m n := by
  refine ⟨⟨?_, ?_, h.dir.k⟩, h.dok, ⟨?_, ?_, h.map.k, h.map.cnt, h.map.lo, h.map.hi, h.map.sz, h.map.ok⟩, fun i hi => ?_, h.two, h.z0, h.z1⟩
  · rw [stE_put, if_neg (by omega)]; exact h.dir.e
  · rw [stPg_put, if_neg (by omega)]; exact h.dir.p
  · rw [stE_put, if_neg (by omega)]; exact h.map.e
  · rw [stPg_put, if_neg (by omega)]; exact h.map.p
  · rw [stE_put]
    split
    · rfl
    · exact h.there i hi
/-- a page is taken -/
theorem VolOk.take {S : Vol} {d m : Pg} {n : Nat} (h : VolOk S d m n) (r : Nat) (hr : r < n) : VolOk (S.put 1 (markPg m r true)) d (markPg m r true) n := by
  have hm := h.map.mark r true (by have := h.map.hi; omega)
  refine ⟨⟨?_, ?_, h.dir.k⟩, h.dok, hm, fun i hi => ?_, h.two, ?_, ?_⟩
  · rw [stE_put, if_neg (by omega)]; exact h.dir.e
  · rw [stPg_put, if_neg (by omega)]; exact h.dir.p
  · rw [stE_put]
    split
    · rfl
    · exact h.there i hi
  · rw [bitAt_lt h _ _ _ (by have := h.two; omega) hr]
    split
    · rfl
    · exact h.z0
  · rw [bitAt_lt h _ _ _ (by have := h.two; omega) hr]
    split
    · rfl
    · exact h.z1
/-- the lowest free page -/
def takeV (nn : Nat) (S : Vol) (m : Pg) : Option (Nat × Vol × Pg) :=
  match (List.range nn).find? (fun i => !bitAt m i) with
  | some i => some (i, S.put 1 (markPg m i true), markPg m i true)
  | none => none
theorem takeV_some {nn : Nat} {S : Vol} {d m : Pg} (h : VolOk S d m nn) {r : Nat} {S1 : Vol} {m1 : Pg} (ht : takeV nn S m = some (r, S1, m1)) :
    S1 = S.put 1 (markPg m r true) ∧ m1 = markPg m r true ∧ 2 ≤ r ∧ r < nn ∧ bitAt m r = false ∧ (∀ j, j < r → bitAt m j = true) ∧ VolOk S1 d m1 nn ∧ (∀ i, i < nn → bitAt m1 i = (if i = r then true else bitAt m i)) := by
  unfold takeV at ht
  cases hf : (List.range nn).find? (fun i => !bitAt m i) with
  | none => rw [hf] at ht; cases ht
  | some i =>
    rw [hf] at ht
    simp only [Option.some.injEq, Prod.mk.injEq] at ht
    obtain ⟨rfl, rfl, rfl⟩ := ht
    have hb := List.find?_some hf
    have hlt : i < nn := by simpa using List.mem_of_find?_eq_some hf
    have hbf : bitAt m i = false := by simpa using hb
    have h2 : 2 ≤ i := by
      by_cases e0 : i = 0
      · subst e0; rw [h.z0] at hbf; cases hbf
      by_cases e1 : i = 1
      · subst e1; rw [h.z1] at hbf; cases hbf
      omega
    refine ⟨rfl, rfl, h2, hlt, hbf, fun j hj => ?_, h.take i hlt, fun j hj => bitAt_lt h j i true hj hlt⟩
    obtain ⟨-, us, vs, e, hall⟩ := List.find?_eq_some_iff_append.1 hf
    have hja : j ∈ us := by
      have h3 : (List.range nn)[j]? = some j := by rw [List.getElem?_range (by omega)]
      have hlen : us.length = i := by
        have h4 : (List.range nn)[us.length]? = some i := by rw [e]; simp
        have h5 : us.length < nn := by
          have := congrArg List.length e
          simp at this; omega
        rw [List.getElem?_range h5] at h4
        exact Option.some.inj h4
      rw [e, List.getElem?_append_left (by omega)] at h3
      exact List.mem_of_getElem? h3
    simpa using hall j hja
theorem takeV_none {nn : Nat} {S : Vol} {m : Pg} (ht : takeV nn S m = none) : ∀ j, j < nn → bitAt m j = true := by
  unfold takeV at ht
  cases hf : (List.range nn).find? (fun i => !bitAt m i) with
  | some i => rw [hf] at ht; cases ht
  | none =>
    intro j hj
    have := List.find?_eq_none.1 hf j (by simpa using hj)
    simpa using this

/-! ## what hangs on pages alone -/
theorem leafAll_frame {S S' : Vol} {st : Int} : ∀ {l : List (Int × List NC)} {nxt : Int}, (∀ x ∈ l, stPg S' x.1 = stPg S x.1) → LeafAll S st l nxt → LeafAll S' st l nxt
  | [], _, _, _ => trivial
  | x :: r, nxt, h, ⟨h1, h2⟩ => ⟨(h x (List.mem_cons_self ..)).trans h1, leafAll_frame (fun y hy => h y (List.mem_cons_of_mem _ hy)) h2⟩
theorem inner_frame {S S' : Vol} {st : Int} : ∀ (n : Nat) (t : Tr n), (∀ i ∈ Tr.ids n t, stPg S' i = stPg S i) → Tr.Inner S st n t → Tr.Inner S' st n t
  | 0, _, _, _ => trivial
  | n + 1, t, h, ⟨h1, h2⟩ => ⟨(h _ (List.mem_cons_self ..)).trans h1, fun x hx => inner_frame n x.2 (fun i hi => h i (List.mem_cons_of_mem _ (List.mem_flatMap.2 ⟨x, hx, hi⟩))) (h2 x hx)⟩
theorem leaf_ids {n : Nat} {t : Tr n} {x : Int × List NC} (h : x ∈ Tr.leaves n t) : x.1 ∈ Tr.ids n t := (leaves_sub n t).subset (List.mem_map.2 ⟨x, h, rfl⟩)
theorem TrIn.frame {S S' : Vol} {st : Int} {n : Nat} {t : Tr n} (h : TrIn S st n t) (hp : ∀ i ∈ Tr.ids n t, stPg S' i = stPg S i ∧ stE S' i = stE S i) : TrIn S' st n t :=
  ⟨inner_frame n t (fun i hi => (hp i hi).1) h.inner, h.good, fun x hx => by
    obtain ⟨nx, h1, h2⟩ := h.leaves x hx
    exact ⟨nx, h1, (hp _ (leaf_ids hx)).1.trans h2⟩, fun i hi => by rw [(hp i hi).2]; exact h.ids i hi, h.low⟩
/-- inner nodes have two kids at least -/
def Tr.Wide : (n : Nat) → Tr n → Prop
  | 0, _ => True
  | n + 1, t => 2 ≤ (kidsOf t).length ∧ ∀ x ∈ kidsOf t, Tr.Wide n x.2
theorem leaves_ne : ∀ (n : Nat) (t : Tr n), Tr.Wide n t → Tr.leaves n t ≠ []
  | 0, t, _ => by simp [Tr.leaves]
  | n + 1, t, h => by
    obtain ⟨h1, h2⟩ := h
    cases hk : kidsOf t with
    | nil => rw [hk] at h1; simp at h1
    | cons x r =>
      show (kidsOf t).flatMap (fun x => Tr.leaves n x.2) ≠ []
      rw [hk, List.flatMap_cons]
      intro e
      exact leaves_ne n x.2 (h2 x (by rw [hk]; exact List.mem_cons_self ..)) (List.append_eq_nil_iff.1 e).1

/-! ## put -/
def keepsB (kp : List ByteArray) (k : ByteArray) : Bool := kp.any fun x => decide (x = k)
theorem keepsB_iff {kp : List ByteArray} {k : ByteArray} : keepsB kp k = true ↔ k ∈ kp := by
  unfold keepsB
  rw [List.any_eq_true]
  constructor
  · rintro ⟨x, hx, e⟩
    have : x = k := by simpa using e
    exact this ▸ hx
  · intro h
    exact ⟨k, h, by simp⟩
def cleanL (kp : List ByteArray) (L : List NC) : List NC := L.filter fun c => !(c.st == 2 && !keepsB kp c.key)
def insC (L : List NC) (c : NC) : List NC := insL L (findL c.key L 0).1 c
def kidC {n : Nat} (K : List (ByteArray × Tr n)) : List NC := K.map fun x => ⟨x.1, 1, le4 (Tr.id n x.2)⟩
def insK {n : Nat} (K : List (ByteArray × Tr n)) (sep : ByteArray) (b : Tr n) : List (ByteArray × Tr n) := K.take (findL sep (kidC K) 0).1 ++ (sep, b) :: K.drop (findL sep (kidC K) 0).1
def noKey {n : Nat} : List (ByteArray × Tr n) → List (ByteArray × Tr n)
  | [] => []
  | x :: r => (ByteArray.empty, x.2) :: r
inductive PR (n : Nat)
  | bad
  | one (t : Tr n)
  | two (a : Tr n) (sep : ByteArray) (b : Tr n)
def mkNode {n : Nat} (id : Int) (K : List (ByteArray × Tr n)) : Tr (n + 1) := (id, K)
def mkLeaf (id : Int) (L : List NC) : Tr 0 := (id, L)
def putLeaf (st : Int) (nn : Nat) (kp : List ByteArray) (c : NC) (t : Tr 0) (S : Vol) (m : Pg) : PR 0 × Vol × Pg :=
  let L0 := if t.2.length = 6 then cleanL kp t.2 else t.2
  let nx := (stPg S t.1).n
  if L0.length < 6 then (.one (mkLeaf t.1 (insC L0 c)), S.put t.1 (ndPg 0 st nx (insC L0 c)), m)
  else match takeV nn S m with
    | none => (.bad, S, m)
    | some (r, S1, m1) =>
      let sep := ((L0.drop 3).headD ⟨ByteArray.empty, 0, ByteArray.empty⟩).key
      let low := if KLt c.key sep then insC (L0.take 3) c else L0.take 3
      let high := if KLt c.key sep then L0.drop 3 else insC (L0.drop 3) c
      (.two (mkLeaf t.1 low) sep (mkLeaf r high), (S1.put t.1 (ndPg 0 st r low)).put r (ndPg 0 st nx high), m1)
/-- what a node does with what its kid has become -/
def putNode {n : Nat} (st : Int) (nn : Nat) (id : Int) (K : List (ByteArray × Tr n)) (j : Nat) (k : ByteArray) : PR n × Vol × Pg → PR (n + 1) × Vol × Pg
  | (.bad, S, m) => (.bad, S, m)
  | (.one t', S, m) => (.one (mkNode id (K.set j (k, t'))), S, m)
  | (.two a sep b, S, m) =>
    let K1 := K.set j (k, a)
    if K1.length < 6 then (.one (mkNode id (insK K1 sep b)), S.put id (ndPg (n + 1 : Nat) st 0 (kidC (insK K1 sep b))), m)
    else match takeV nn S m with
      | none => (.bad, S, m)
      | some (r, S1, m1) =>
        let sep2 := ((K1.drop 3).map (·.1)).headD ByteArray.empty
        let low := if KLt sep sep2 then insK (K1.take 3) sep b else K1.take 3
        let high := if KLt sep sep2 then noKey (K1.drop 3) else insK (noKey (K1.drop 3)) sep b
        (.two (mkNode id low) sep2 (mkNode r high), (S1.put id (ndPg (n + 1 : Nat) st 0 (kidC low))).put r (ndPg (n + 1 : Nat) st 0 (kidC high)), m1)
def putV (st : Int) (nn : Nat) (kp : List ByteArray) (c : NC) : (n : Nat) → Tr n → Vol → Pg → PR n × Vol × Pg
  | 0, t, S, m => putLeaf st nn kp c t S m
  | n + 1, t, S, m => match (kidsOf t)[downL c.key (Tr.cells (n + 1) t)]? with
    | none => (.bad, S, m)
    | some x => putNode st nn t.1 (kidsOf t) (downL c.key (Tr.cells (n + 1) t)) x.1 (putV st nn kp c n x.2 S m)
end

/-!
  Layer 16 (tree), plain law: what a put does to a leaf.
-/
section
open Go.RowKit Go.Joins
set_option linter.unusedVariables false
set_option linter.unusedSimpArgs false

theorem mem_insL {L : List NC} {i : Nat} {c x : NC} : x ∈ insL L i c ↔ x = c ∨ x ∈ L := by
  unfold insL
  rw [List.mem_append, List.mem_cons]
  constructor
  · rintro (h | h | h)
    · exact .inr (List.mem_of_mem_take h)
    · exact .inl h
    · exact .inr (List.mem_of_mem_drop h)
  · rintro (h | h)
    · exact .inr (.inl h)
    · rw [← List.take_append_drop i L, List.mem_append] at h
      rcases h with h | h
      · exact .inl h
      · exact .inr (.inr h)
theorem mem_insC {L : List NC} {c x : NC} : x ∈ insC L c ↔ x = c ∨ x ∈ L := mem_insL
theorem insC_len (L : List NC) (c : NC) : (insC L c).length = L.length + 1 := insL_len c (by have := (findL_le c.key L 0).2; omega)
theorem insC_rising {L : List NC} {c : NC} (hr : Rising L) (hn : ∀ x ∈ L, x.key ≠ c.key) : Rising (insC L c) := by
  obtain ⟨j, h1, h2, h3, h4, -⟩ := findL_spec (key := c.key) (L := L) (i := 0) hr
  have hj : (findL c.key L 0).1 = j := by omega
  unfold insC insL Rising
  rw [hj, List.pairwise_append]
  refine ⟨hr.sublist (List.take_sublist _ _), List.pairwise_cons.2 ⟨fun x hx => ?_, hr.sublist (List.drop_sublist _ _)⟩, fun x hx y hy => ?_⟩
  · obtain ⟨k, hk, rfl⟩ := List.mem_iff_getElem.1 hx
    rw [List.getElem_drop]
    rw [List.length_drop] at hk
    exact KLt.of_not (h4 (j + k) (by omega) (by omega)) (hn _ (List.getElem_mem _))
  · obtain ⟨k, hk, rfl⟩ := List.mem_iff_getElem.1 hx
    rw [List.getElem_take]
    rw [List.length_take] at hk
    have hlt := h3 k (by omega) (by omega)
    rcases List.mem_cons.1 hy with rfl | hy
    · exact hlt
    · obtain ⟨k2, hk2, rfl⟩ := List.mem_iff_getElem.1 hy
      rw [List.getElem_drop]
      rw [List.length_drop] at hk2
      exact KLt.lt_of_lt hlt (h4 (j + k2) (by omega) (by omega))
theorem findL_no {L : List NC} {key : ByteArray} (hr : Rising L) (hn : ∀ x ∈ L, x.key ≠ key) : (findL key L 0).2 = false := by
  obtain ⟨j, -, -, -, -, h5⟩ := findL_spec (key := key) (L := L) (i := 0) hr
  by_cases h : (findL key L 0).2 = true
  · obtain ⟨hj, e⟩ := h5.1 h
    exact absurd e (hn _ (List.getElem_mem hj))
  · simpa using h

/-- where a put begins -/
structure Pre (S : Vol) (d m : Pg) (nn : Nat) (st : Int) (n : Nat) (t : Tr n) (lo : ByteArray) (hi : Option ByteArray) (c : NC) : Prop where
  tin : TrIn S st n t
  vol : VolOk S d m nn
  nodup : (Tr.ids n t).Nodup
  own : ∀ i ∈ Tr.ids n t, 2 ≤ i ∧ i < nn ∧ bitAt m i.toNat = true
  ord : Tr.Ord n t lo hi
  inb : InB lo hi c.key
  wide : Tr.Wide n t
  leaf : c.leaf
  fresh : ∀ x ∈ flat (Tr.leaves n t), x.key ≠ c.key
  st0 : 0 ≤ st ∧ st ≤ 65535
/-- where it ends: one tree, or two -/
structure Post (S : Vol) (m : Pg) (S' : Vol) (m' d : Pg) (nn : Nat) (st : Int) (n : Nat) (t : Tr n) (R : List (Tr n)) (c : NC) (kp : List ByteArray) : Prop where
  tin : ∀ s ∈ R, TrIn S' st n s
  wide : ∀ s ∈ R, Tr.Wide n s
  vol : VolOk S' d m' nn
  nodup : (R.flatMap (Tr.ids n)).Nodup
  own : ∀ i ∈ R.flatMap (Tr.ids n), 2 ≤ i ∧ i < nn ∧ bitAt m' i.toNat = true
  old : ∀ i ∈ Tr.ids n t, i ∈ R.flatMap (Tr.ids n)
  new : ∀ i ∈ R.flatMap (Tr.ids n), i ∈ Tr.ids n t ∨ bitAt m i.toNat = false
  mono : ∀ i : Nat, i < nn → bitAt m i = true → bitAt m' i = true
  bits : ∀ i : Nat, i < nn → bitAt m' i = true → bitAt m i = true ∨ (i : Int) ∈ R.flatMap (Tr.ids n)
  frame : ∀ i, i ∉ R.flatMap (Tr.ids n) → i ≠ 1 → stPg S' i = stPg S i
  ses : ∀ i, stE S i = 0 → stE S' i = 0
  inv : ∀ Q : Vol → Prop, (∀ (V : Vol) (id : Int) (p : Pg), Q V → 1 ≤ id → id < (nn : Int) → okPg p = true → Q (V.put id p)) → Q S → Q S'
  chain : ∀ nxt, LeafAll S st (Tr.leaves n t) nxt → LeafAll S' st (R.flatMap (Tr.leaves n)) nxt
  head : ∀ nxt, nextOf (R.flatMap (Tr.leaves n)) nxt = nextOf (Tr.leaves n t) nxt
  memc : c ∈ flat (R.flatMap (Tr.leaves n))
  back : ∀ x ∈ flat (R.flatMap (Tr.leaves n)), x = c ∨ x ∈ flat (Tr.leaves n t)
  kept : ∀ x ∈ flat (Tr.leaves n t), x.st = 1 ∨ x.key ∈ kp → x ∈ flat (R.flatMap (Tr.leaves n))
def PostR (S : Vol) (m d : Pg) (nn : Nat) (st : Int) (n : Nat) (t : Tr n) (lo : ByteArray) (hi : Option ByteArray) (c : NC) (kp : List ByteArray) : PR n × Vol × Pg → Prop
  | (.bad, S', m') => (∀ Q : Vol → Prop, (∀ (V : Vol) (id : Int) (p : Pg), Q V → 1 ≤ id → id < (nn : Int) → okPg p = true → Q (V.put id p)) → Q S → Q S') ∧ ∀ i : Nat, i < nn → bitAt m' i = true
  | (.one t', S', m') => Post S m S' m' d nn st n t [t'] c kp ∧ Tr.id n t' = Tr.id n t ∧ Tr.Ord n t' lo hi
  | (.two a sep b, S', m') => Post S m S' m' d nn st n t [a, b] c kp ∧ Tr.id n a = Tr.id n t ∧ Tr.Ord n a lo (some sep) ∧ Tr.Ord n b sep hi ∧ KLt lo sep ∧ (∀ h ∈ hi, KLt sep h) ∧ sep.size ≤ 8

theorem cleanL_sub (kp : List ByteArray) (L : List NC) : (cleanL kp L).Sublist L := List.filter_sublist
theorem cleanL_kept {kp : List ByteArray} {L : List NC} {x : NC} (hx : x ∈ L) (h : x.st = 1 ∨ x.key ∈ kp) : x ∈ cleanL kp L := by
  unfold cleanL
  refine List.mem_filter.2 ⟨hx, ?_⟩
  rcases h with h | h
  · rw [h]; rfl
  · rw [keepsB_iff.2 h]; simp
theorem leafNode {L : List NC} (h6 : L.length ≤ 6) (hr : Rising L) (hl : ∀ x ∈ L, x.leaf) : NodeOk 0 L := ⟨h6, hr, fun _ => hl, fun h => absurd rfl h⟩
theorem tr0_leaf (id : Int) (L : List NC) : Tr.leaves 0 (mkLeaf id L) = [(id, L)] := rfl
theorem tr0_ids (id : Int) (L : List NC) : Tr.ids 0 (mkLeaf id L) = [id] := rfl

theorem putLeaf_ok {S : Vol} {d m : Pg} {nn : Nat} {st : Int} {t : Tr 0} {lo : ByteArray} {hi : Option ByteArray} {c : NC} (h : Pre S d m nn st 0 t lo hi c) (kp : List ByteArray) : PostR S m d nn st 0 t lo hi c kp (putLeaf st nn kp c t S m) := by
  obtain ⟨id, L⟩ := t
  obtain ⟨nx, hnx, hpg⟩ := h.tin.leaves (id, L) (List.mem_cons_self ..)
  have hid := h.own id (List.mem_cons_self ..)
  have hid2 := h.tin.ids id (List.mem_cons_self ..)
  have hnn := h.vol.map.hi
  obtain ⟨h6, hr, hlf, -⟩ := h.tin.good
  have hlf := hlf rfl
  have h6 : L.length ≤ 6 := h6
  have hfl : flat (Tr.leaves 0 ((id, L) : Tr 0)) = L := by simp [flat, Tr.leaves]
  have hfresh := h.fresh
  rw [hfl] at hfresh
  have hord : ∀ x ∈ L, InB lo hi x.key := h.ord
  have hnxe : (stPg S id).n = nx := by rw [show stPg S id = ndPg 0 st nx L from hpg]; rfl
  obtain ⟨L0, hL0⟩ : ∃ L0, (if L.length = 6 then cleanL kp L else L) = L0 := ⟨_, rfl⟩
  have hsub : L0.Sublist L := by
    rw [← hL0]; split
    · exact cleanL_sub kp L
    · exact List.Sublist.refl _
  have hkept : ∀ x ∈ L, x.st = 1 ∨ x.key ∈ kp → x ∈ L0 := fun x hx hk => by
    rw [← hL0]; split
    · exact cleanL_kept hx hk
    · exact hx
  have hr0 : Rising L0 := hr.sublist hsub
  have hlf0 : ∀ x ∈ L0, x.leaf := fun x hx => hlf x (hsub.subset hx)
  have hfr0 : ∀ x ∈ L0, x.key ≠ c.key := fun x hx => hfresh x (hsub.subset hx)
  have hb0 : ∀ x ∈ L0, InB lo hi x.key := fun x hx => hord x (hsub.subset hx)
  unfold putLeaf
  simp only [hL0, hnxe]
  by_cases h06 : L0.length < 6
  · rw [if_pos h06]
    have hno : NodeOk 0 (insC L0 c) := leafNode (by rw [insC_len]; omega) (insC_rising hr0 hfr0) (fun x hx => by
      rcases mem_insC.1 hx with rfl | hx
      · exact h.leaf
      · exact hlf0 x hx)
    have hok := nd_okPg hno (by omega) h.st0 hnx
    have hfl2 : flat ([mkLeaf id (insC L0 c)].flatMap (Tr.leaves 0)) = insC L0 c := by simp [flat, tr0_leaf]
    have hids : [mkLeaf id (insC L0 c)].flatMap (Tr.ids 0) = [id] := by simp [tr0_ids]
    have hlv : [mkLeaf id (insC L0 c)].flatMap (Tr.leaves 0) = [(id, insC L0 c)] := by simp [tr0_leaf]
    have hpn : stPg (S.put id (ndPg 0 st nx (insC L0 c))) id = ndPg 0 st nx (insC L0 c) := by rw [stPg_put, if_pos rfl]
    refine ⟨⟨?_, ?_, h.vol.put id _ hid.1, ?_, ?_, ?_, ?_, fun i _ hi => hi, fun i _ hi => .inl hi, ?_, ?_, ?_, ?_, ?_, ?_, ?_, ?_⟩, rfl, ?_⟩
    · intro s hs
      obtain rfl : s = mkLeaf id (insC L0 c) := by simpa using hs
      refine ⟨trivial, hno, fun x hx => ?_, fun i hi => ?_, by omega⟩
      · obtain rfl : x = (id, insC L0 c) := by simpa [tr0_leaf] using hx
        exact ⟨nx, hnx, hpn⟩
      · obtain rfl : i = id := by simpa [tr0_ids] using hi
        exact ⟨by rw [stE_put, if_pos rfl], hid2.2⟩
    · intro s hs; obtain rfl : s = mkLeaf id (insC L0 c) := by simpa using hs
      trivial
    · rw [hids]; simp
    · rw [hids]; intro i hi; obtain rfl : i = id := by simpa using hi
      exact hid
    · rw [hids]; exact fun i hi => hi
    · rw [hids]; exact fun i hi => .inl hi
    · rw [hids]
      intro i hi _
      rw [stPg_put, if_neg (by simpa using hi)]
    · intro i hi
      rw [stE_put]; split
      · rfl
      · exact hi
    · exact fun Q hQ h0 => hQ S id _ h0 (by omega) (by omega) hok
    · rw [hlv]
      rintro nxt ⟨h1, -⟩
      refine ⟨?_, trivial⟩
      have e1 : stPg S id = ndPg 0 st nxt L := h1
      have e2 : nx = nxt := by rw [← hnxe, e1]; rfl
      subst e2
      exact hpn
    · rw [hlv]; intro nxt; rfl
    · rw [hfl2]; exact mem_insC.2 (.inl rfl)
    · rw [hfl2, hfl]
      intro x hx
      rcases mem_insC.1 hx with rfl | hx
      · exact .inl rfl
      · exact .inr (hsub.subset hx)
    · rw [hfl2, hfl]
      exact fun x hx hk => mem_insC.2 (.inr (hkept x hx hk))
    · intro x hx
      rcases mem_insC.1 hx with rfl | hx
      · exact h.inb
      · exact hb0 x hx
  · rw [if_neg h06]
    have hl6 : L0.length = 6 := by have := hsub.length_le; omega
    cases htk : takeV nn S m with
    | none => exact ⟨fun Q _ h0 => h0, takeV_none htk⟩
    | some q =>
      obtain ⟨r, S1, m1⟩ := q
      obtain ⟨rfl, rfl, hr2, hrn, hrf, -, hv1, hbt⟩ := takeV_some h.vol htk
      have hrid : ((r : Nat) : Int) ≠ id := fun e => by
        have := hid.2.2
        rw [← e] at this
        simp at this
        rw [hrf] at this; cases this
      obtain ⟨c0, c1, c2, c3, c4, c5, rfl⟩ : ∃ c0 c1 c2 c3 c4 c5, L0 = [c0, c1, c2, c3, c4, c5] := by
        match L0, hl6 with
        | [c0, c1, c2, c3, c4, c5], _ => exact ⟨c0, c1, c2, c3, c4, c5, rfl⟩
      simp only [List.drop_succ_cons, List.drop_zero, List.take_succ_cons, List.take_zero, List.headD_cons]
      have hlow : Rising [c0, c1, c2] := hr0.sublist (List.take_sublist 3 [c0, c1, c2, c3, c4, c5])
      have hhigh : Rising [c3, c4, c5] := hr0.sublist (List.drop_sublist 3 [c0, c1, c2, c3, c4, c5])
      have hpw := List.pairwise_iff_getElem.1 hr0
      have hls : ∀ x ∈ [c0, c1, c2], KLt x.key c3.key := by
        intro x hx
        obtain ⟨k, hk, rfl⟩ := List.mem_iff_getElem.1 hx
        simp only [List.length_cons, List.length_nil] at hk
        rcases k with _ | _ | _ | k
        · exact hpw 0 3 (by simp) (by simp) (by omega)
        · exact hpw 1 3 (by simp) (by simp) (by omega)
        · exact hpw 2 3 (by simp) (by simp) (by omega)
        · omega
      have hhs : ∀ x ∈ [c3, c4, c5], ¬ KLt x.key c3.key := by
        intro x hx
        obtain ⟨k, hk, rfl⟩ := List.mem_iff_getElem.1 hx
        simp only [List.length_cons, List.length_nil] at hk
        rcases k with _ | _ | _ | k
        · exact KLt.irrefl _
        · exact (hpw 3 4 (by simp) (by simp) (by omega)).asymm
        · exact (hpw 3 5 (by simp) (by simp) (by omega)).asymm
        · omega
      have m3 : c3 ∈ [c0, c1, c2, c3, c4, c5] := by simp
      obtain ⟨low, hlo⟩ : ∃ low, (if KLt c.key c3.key then insC [c0, c1, c2] c else [c0, c1, c2]) = low := ⟨_, rfl⟩
      obtain ⟨high, hhi⟩ : ∃ high, (if KLt c.key c3.key then [c3, c4, c5] else insC [c3, c4, c5] c) = high := ⟨_, rfl⟩
      simp only [hlo, hhi]
      have hmem : ∀ x, x ∈ low ++ high ↔ x = c ∨ x ∈ [c0, c1, c2, c3, c4, c5] := by
        intro x
        rw [← hlo, ← hhi]
        by_cases hc : KLt c.key c3.key
        · rw [if_pos hc, if_pos hc, List.mem_append, mem_insC]
          simp only [List.mem_cons, List.not_mem_nil, or_false]
          constructor
          · rintro ((h | h | h | h) | h | h | h) <;> simp [h]
          · rintro (h | h | h | h | h | h | h) <;> simp [h]
        · rw [if_neg hc, if_neg hc, List.mem_append, mem_insC]
          simp only [List.mem_cons, List.not_mem_nil, or_false]
          constructor
          · rintro ((h | h | h) | h | h | h | h) <;> simp [h]
          · rintro (h | h | h | h | h | h | h) <;> simp [h]
      have hlowk : ∀ x ∈ low, KLt x.key c3.key := by
        rw [← hlo]; split
        · rename_i hc
          intro x hx
          rcases mem_insC.1 hx with rfl | hx
          · exact hc
          · exact hls x hx
        · exact hls
      have hhighk : ∀ x ∈ high, ¬ KLt x.key c3.key := by
        rw [← hhi]; split
        · exact hhs
        · rename_i hc
          intro x hx
          rcases mem_insC.1 hx with rfl | hx
          · exact hc
          · exact hhs x hx
      have hlowr : Rising low := by
        rw [← hlo]; split
        · exact insC_rising hlow (fun x hx => hfr0 x (by simp at hx ⊢; rcases hx with h | h | h <;> simp [h]))
        · exact hlow
      have hhighr : Rising high := by
        rw [← hhi]; split
        · exact hhigh
        · exact insC_rising hhigh (fun x hx => hfr0 x (by simp at hx ⊢; rcases hx with h | h | h <;> simp [h]))
      have hlow6 : low.length ≤ 6 := by rw [← hlo]; split <;> simp [insC_len]
      have hhigh6 : high.length ≤ 6 := by rw [← hhi]; split <;> simp [insC_len]
      have hleaf : ∀ x, x = c ∨ x ∈ [c0, c1, c2, c3, c4, c5] → x.leaf := fun x hx => by
        rcases hx with rfl | hx
        · exact h.leaf
        · exact hlf0 x hx
      have hinb : ∀ x, x = c ∨ x ∈ [c0, c1, c2, c3, c4, c5] → InB lo hi x.key := fun x hx => by
        rcases hx with rfl | hx
        · exact h.inb
        · exact hb0 x hx
      have hml : ∀ x ∈ low, x = c ∨ x ∈ [c0, c1, c2, c3, c4, c5] := fun x hx => (hmem x).1 (List.mem_append_left _ hx)
      have hmh : ∀ x ∈ high, x = c ∨ x ∈ [c0, c1, c2, c3, c4, c5] := fun x hx => (hmem x).1 (List.mem_append_right _ hx)
      have hnl : NodeOk 0 low := leafNode hlow6 hlowr (fun x hx => hleaf x (hml x hx))
      have hnh : NodeOk 0 high := leafNode hhigh6 hhighr (fun x hx => hleaf x (hmh x hx))
      have hrb : 0 ≤ ((r : Nat) : Int) ∧ ((r : Nat) : Int) < 1024 := by omega
      have hokl := nd_okPg hnl (by omega) h.st0 hrb
      have hokh := nd_okPg hnh (by omega) h.st0 hnx
      have hokm : okPg (markPg m r true) = true := hv1.map.ok
      have hids : [mkLeaf id low, mkLeaf r high].flatMap (Tr.ids 0) = [id, (r : Int)] := by simp [tr0_ids]
      have hlv : [mkLeaf id low, mkLeaf r high].flatMap (Tr.leaves 0) = [(id, low), ((r : Int), high)] := by simp [tr0_leaf]
      have hfl2 : flat ([mkLeaf id low, mkLeaf r high].flatMap (Tr.leaves 0)) = low ++ high := by rw [hlv]; simp [flat]
      have hpi : stPg (((S.put 1 (markPg m r true)).put id (ndPg 0 st r low)).put r (ndPg 0 st nx high)) id = ndPg 0 st r low := by
        rw [stPg_put, if_neg (fun e => hrid e.symm), stPg_put, if_pos rfl]
      have hpr : stPg (((S.put 1 (markPg m r true)).put id (ndPg 0 st r low)).put r (ndPg 0 st nx high)) r = ndPg 0 st nx high := by rw [stPg_put, if_pos rfl]
      have hse : ∀ i, i = id ∨ i = (r : Int) ∨ stE S i = 0 → stE (((S.put 1 (markPg m r true)).put id (ndPg 0 st r low)).put r (ndPg 0 st nx high)) i = 0 := by
        intro i hi
        rw [stE_put]; split
        · rfl
        · rw [stE_put]; split
          · rfl
          · rw [stE_put]; split
            · rfl
            · rename_i e1 e2 e3
              rcases hi with hi | hi | hi
              · exact absurd hi e2
              · exact absurd hi e1
              · exact hi
      have hbm : ∀ i, i < nn → bitAt (markPg m r true) i = (if i = r then true else bitAt m i) := hbt
      refine ⟨⟨?_, ?_, (hv1.put id _ hid.1).put r _ (by omega), ?_, ?_, ?_, ?_, ?_, ?_, ?_, fun i hi => hse i (.inr (.inr hi)), ?_, ?_, ?_, ?_, ?_, ?_⟩, rfl, ?_, ?_, ?_, ?_, ?_⟩
      · intro s hs
        rcases List.mem_cons.1 hs with rfl | hs
        · refine ⟨trivial, hnl, fun x hx => ?_, fun i hi => ?_, by omega⟩
          · obtain rfl : x = (id, low) := by simpa [tr0_leaf] using hx
            exact ⟨r, hrb, hpi⟩
          · obtain rfl : i = id := by simpa [tr0_ids] using hi
            exact ⟨hse i (.inl rfl), hid2.2⟩
        · obtain rfl : s = mkLeaf r high := by simpa using hs
          refine ⟨trivial, hnh, fun x hx => ?_, fun i hi => ?_, by omega⟩
          · obtain rfl : x = ((r : Int), high) := by simpa [tr0_leaf] using hx
            exact ⟨nx, hnx, hpr⟩
          · obtain rfl : i = (r : Int) := by simpa [tr0_ids] using hi
            exact ⟨hse _ (.inr (.inl rfl)), by omega⟩
      · exact fun s hs => trivial
      · rw [hids]
        refine List.nodup_cons.2 ⟨?_, by simp⟩
        simp only [List.mem_cons, List.not_mem_nil, or_false]
        exact fun e => hrid e.symm
      · rw [hids]
        intro i hi
        simp only [List.mem_cons, List.not_mem_nil, or_false] at hi
        rcases hi with rfl | rfl
        · refine ⟨hid.1, hid.2.1, ?_⟩
          rw [hbm _ (by omega)]; split
          · rfl
          · exact hid.2.2
        · refine ⟨by omega, by omega, ?_⟩
          rw [Int.toNat_natCast, hbm _ hrn, if_pos rfl]
      · rw [hids]; intro i hi; obtain rfl : i = id := by simpa [Tr.ids] using hi
        simp
      · rw [hids]
        intro i hi
        simp only [List.mem_cons, List.not_mem_nil, or_false] at hi
        rcases hi with rfl | rfl
        · exact .inl (List.mem_cons_self ..)
        · exact .inr (by rw [Int.toNat_natCast]; exact hrf)
      · intro i hi hb
        rw [hbm i hi]; split
        · rfl
        · exact hb
      · intro i hi hb
        rw [hbm i hi] at hb
        rw [hids]
        by_cases e : i = r
        · subst e; right; simp
        · rw [if_neg e] at hb; exact .inl hb
      · rw [hids]
        intro i hi h1
        simp only [List.mem_cons, List.not_mem_nil, or_false, not_or] at hi
        rw [stPg_put, if_neg hi.2, stPg_put, if_neg hi.1, stPg_put, if_neg h1]
      · intro Q hQ h0
        exact hQ _ _ _ (hQ _ _ _ (hQ _ _ _ h0 (by omega) (by omega) hokm) (by omega) (by omega) hokl) (by omega) (by omega) hokh
      · rw [hlv]
        rintro nxt ⟨h1, -⟩
        have e1 : stPg S id = ndPg 0 st nxt L := h1
        have e2 : nx = nxt := by rw [← hnxe, e1]; rfl
        subst e2
        exact ⟨hpi, hpr, trivial⟩
      · rw [hlv]; intro nxt; rfl
      · rw [hfl2]; exact (hmem c).2 (.inl rfl)
      · rw [hfl2, hfl]
        intro x hx
        rcases (hmem x).1 hx with e | e
        · exact .inl e
        · exact .inr (hsub.subset e)
      · rw [hfl2, hfl]
        exact fun x hx hk => (hmem x).2 (.inr (hkept x hx hk))
      · exact fun x hx => ⟨(hinb x (hml x hx)).1, fun y hy => by cases hy; exact hlowk x hx⟩
      · exact fun x hx => ⟨hhighk x hx, (hinb x (hmh x hx)).2⟩
      · exact KLt.lt_of_le (hb0 c0 (by simp)).1 (hls c0 (by simp))
      · exact (hb0 c3 m3).2
      · exact (hlf0 c3 m3).2.2.1
end

/-!
  Layer 16 (tree), plain law: what a put does to an inner node.
-/
section
open Go.RowKit Go.Joins
set_option linter.unusedVariables false
set_option linter.unusedSimpArgs false

/-! ## kids in order, as lists -/
def headK {n : Nat} (r : List (ByteArray × Tr n)) (hi : Option ByteArray) : Option ByteArray := match r with | [] => hi | y :: _ => some y.1
def lowK {n : Nat} (r : List (ByteArray × Tr n)) (lo : ByteArray) : ByteArray := match r with | [] => lo | y :: _ => y.1
def OrdK {n : Nat} : List (ByteArray × Tr n) → ByteArray → Option ByteArray → Prop
  | [], _, _ => True
  | x :: r, lo, hi => Tr.Ord n x.2 lo (headK r hi) ∧ OrdK r (lowK r lo) hi
theorem ordK_get {n : Nat} : ∀ (K : List (ByteArray × Tr n)) (lo : ByteArray) (hi : Option ByteArray), OrdK K lo hi ↔ ∀ i (h : i < K.length), Tr.Ord n K[i].2 (if i = 0 then lo else K[i].1) (if h' : i + 1 < K.length then some K[i + 1].1 else hi)
  | [], lo, hi => by simp [OrdK]
  | x :: r, lo, hi => by
    have ih := ordK_get r (lowK r lo) hi
    simp only [OrdK]
    rw [ih]
    constructor
    · rintro ⟨h1, h2⟩ i hi'
      rcases i with _ | i
      · cases r with
        | nil => simpa [headK] using h1
        | cons y s => simpa [headK] using h1
      · have h3 := h2 i (by simpa using hi')
        cases r with
        | nil => simp at hi'
        | cons y s =>
          rcases i with _ | i
          · simpa [lowK] using h3
          · simpa [lowK] using h3
    · intro h
      refine ⟨?_, fun i hi' => ?_⟩
      · have h1 := h 0 (by simp)
        cases r with
        | nil => simpa [headK] using h1
        | cons y s => simpa [headK] using h1
      · have h3 := h (i + 1) (by simpa using hi')
        cases r with
        | nil => simp at hi'
        | cons y s =>
          rcases i with _ | i
          · simpa [lowK] using h3
          · simpa [lowK] using h3
theorem ord_node {n : Nat} (id : Int) (K : List (ByteArray × Tr n)) (lo : ByteArray) (hi : Option ByteArray) : Tr.Ord (n + 1) (mkNode id K) lo hi ↔ (∀ y ∈ K.drop 1, InS lo hi y.1) ∧ OrdK K lo hi := by
  rw [ordK_get]
  show ((∀ i (h : i < K.length), 0 < i → InS lo hi K[i].1) ∧ _) ↔ _
  refine and_congr ⟨fun h y hy => ?_, fun h i hi' h0 => ?_⟩ Iff.rfl
  · obtain ⟨k, hk, rfl⟩ := List.mem_iff_getElem.1 hy
    rw [List.getElem_drop]
    rw [List.length_drop] at hk
    exact h (1 + k) (by omega) (by omega)
  · refine h _ ?_
    rw [List.mem_iff_getElem]
    refine ⟨i - 1, by rw [List.length_drop]; omega, ?_⟩
    rw [List.getElem_drop]
    congr 1
    omega
theorem ordK_append {n : Nat} : ∀ (A : List (ByteArray × Tr n)) (x : ByteArray × Tr n) (B : List (ByteArray × Tr n)) (lo : ByteArray) (hi : Option ByteArray), OrdK (A ++ x :: B) lo hi ↔ OrdK A lo (some x.1) ∧ OrdK (x :: B) (if A = [] then lo else x.1) hi
  | [], x, B, lo, hi => by simp [OrdK]
  | y :: [], x, B, lo, hi => by simp [OrdK, headK, lowK]
  | y :: z :: r, x, B, lo, hi => by
    have ih := ordK_append (z :: r) x B z.1 hi
    simp only [List.cons_append, OrdK, headK, lowK, reduceCtorEq, if_false, and_assoc] at ih ⊢
    rw [ih]

/-! ## where a key stands -/
theorem findL_at {key : ByteArray} : ∀ (P Q : List NC) (i : Nat), (∀ y ∈ P, KLt y.key key) → (∀ y ∈ Q.head?, ¬ KLt y.key key) → (findL key (P ++ Q) i).1 = i + P.length
  | [], [], i, _, _ => rfl
  | [], y :: r, i, _, h2 => by simp [findL, h2 y (by simp)]
  | x :: P, Q, i, h1, h2 => by
    have ih := findL_at P Q (i + 1) (fun y hy => h1 y (List.mem_cons_of_mem _ hy)) h2
    simp only [List.cons_append, findL, h1 x (List.mem_cons_self ..), if_true, ih, List.length_cons]
    omega
theorem kidC_append {n : Nat} (P Q : List (ByteArray × Tr n)) : kidC (P ++ Q) = kidC P ++ kidC Q := by simp [kidC]
theorem insK_at {n : Nat} {P Q : List (ByteArray × Tr n)} {sep : ByteArray} (b : Tr n) (h1 : ∀ y ∈ P, KLt y.1 sep) (h2 : ∀ y ∈ Q.head?, ¬ KLt y.1 sep) : insK (P ++ Q) sep b = P ++ (sep, b) :: Q := by
  have hf : (findL sep (kidC (P ++ Q)) 0).1 = P.length := by
    rw [kidC_append, findL_at _ _ _ (fun y hy => ?_) (fun y hy => ?_)]
    · simp [kidC]
    · obtain ⟨z, hz, rfl⟩ := List.mem_map.1 hy
      exact h1 z hz
    · cases Q with
      | nil => simp [kidC] at hy
      | cons q r =>
        simp [kidC] at hy
        subst hy
        exact h2 q (by simp)
  unfold insK
  rw [hf, List.take_left' rfl, List.drop_left' rfl]
theorem set_mid {α : Type} (A B : List α) (x y : α) : (A ++ x :: B).set A.length y = A ++ y :: B := by
  rw [List.set_append_right _ _ (Nat.le_refl _), Nat.sub_self, List.set_cons_zero]
theorem noKey_append {n : Nat} {P : List (ByteArray × Tr n)} (hP : P ≠ []) (Q : List (ByteArray × Tr n)) : noKey (P ++ Q) = noKey P ++ Q := by
  cases P with
  | nil => exact absurd rfl hP
  | cons x r => rfl
theorem noKey_snd {n : Nat} (K : List (ByteArray × Tr n)) : (noKey K).map (·.2) = K.map (·.2) := by cases K <;> rfl
/-- a full node's kids with one more, in halves -/
theorem halves {n : Nat} {A B : List (ByteArray × Tr n)} {k sep : ByteArray} {a b : Tr n} (hl : (A ++ (k, a) :: B).length = 6) (hr : (kidC (A ++ (k, a) :: (sep, b) :: B)).Pairwise fun x y => KLt x.key y.key) :
    ∃ s y L2, 3 ≤ s ∧ s ≤ 4 ∧ (A ++ (k, a) :: (sep, b) :: B).drop s = y :: L2 ∧ (((A ++ (k, a) :: B).drop 3).map (·.1)).headD ByteArray.empty = y.1 ∧
      (if KLt sep y.1 then insK ((A ++ (k, a) :: B).take 3) sep b else (A ++ (k, a) :: B).take 3) = (A ++ (k, a) :: (sep, b) :: B).take s ∧
      (if KLt sep y.1 then noKey ((A ++ (k, a) :: B).drop 3) else insK (noKey ((A ++ (k, a) :: B).drop 3)) sep b) = noKey (y :: L2) := by
  have hk : ∀ y ∈ A ++ [(k, a)], KLt y.1 sep := by
    intro y hy
    have e : A ++ (k, a) :: (sep, b) :: B = (A ++ [(k, a)]) ++ (sep, b) :: B := by simp
    rw [e, kidC_append] at hr
    exact (List.pairwise_append.1 hr).2.2 ⟨y.1, 1, _⟩ (List.mem_map.2 ⟨y, hy, rfl⟩) ⟨sep, 1, _⟩ (List.mem_map.2 ⟨(sep, b), List.mem_cons_self .., rfl⟩)
  have hB : ∀ y ∈ B, KLt sep y.1 := by
    intro y hy
    have e : A ++ (k, a) :: (sep, b) :: B = (A ++ [(k, a)]) ++ (sep, b) :: B := by simp
    rw [e, kidC_append] at hr
    exact (List.pairwise_cons.1 (List.pairwise_append.1 hr).2.1).1 ⟨y.1, 1, _⟩ (List.mem_map.2 ⟨y, hy, rfl⟩)
  have e1 : A ++ (k, a) :: B = (A ++ [(k, a)]) ++ B := by simp
  have e2 : A ++ (k, a) :: (sep, b) :: B = (A ++ [(k, a)]) ++ (sep, b) :: B := by simp
  rw [e1] at hl ⊢
  rw [e2] at hr ⊢
  generalize hP : A ++ [(k, a)] = P at *
  have hPne : P ≠ [] := by rw [← hP]; simp
  have hPl : 0 < P.length := List.length_pos_iff.2 hPne
  rw [List.length_append] at hl
  by_cases h3 : P.length ≤ 3
  · -- the new one goes to the lower half
    obtain ⟨y, L2, hd⟩ : ∃ y L2, B.drop (3 - P.length) = y :: L2 := by
      cases h : B.drop (3 - P.length) with
      | nil => have := congrArg List.length h; simp at this; omega
      | cons y L2 => exact ⟨y, L2, rfl⟩
    have hd1 : (P ++ B).drop 3 = y :: L2 := by
      rw [List.drop_append, List.drop_eq_nil_of_le h3, List.nil_append]; exact hd
    have hd2 : (P ++ (sep, b) :: B).drop 4 = y :: L2 := by
      rw [List.drop_append, List.drop_eq_nil_of_le (by omega), List.nil_append, show 4 - P.length = (3 - P.length) + 1 from by omega, List.drop_succ_cons]; exact hd
    have hy : KLt sep y.1 := hB y (List.mem_of_mem_drop (by rw [hd]; exact List.mem_cons_self ..))
    refine ⟨4, y, L2, by omega, by omega, hd2, by rw [hd1]; rfl, ?_, ?_⟩
    · rw [if_pos hy]
      have ht1 : (P ++ B).take 3 = P ++ B.take (3 - P.length) := by rw [List.take_append, List.take_of_length_le h3]
      have ht2 : (P ++ (sep, b) :: B).take 4 = P ++ (sep, b) :: B.take (3 - P.length) := by
        rw [List.take_append, List.take_of_length_le (by omega), show 4 - P.length = (3 - P.length) + 1 from by omega, List.take_succ_cons]
      rw [ht1, ht2]
      refine insK_at b hk (fun z hz => ?_)
      exact (hB z (List.mem_of_mem_take (List.mem_of_mem_head? hz))).asymm
    · rw [if_pos hy, hd1]
  · -- to the upper half
    have h3' : 3 < P.length := by omega
    obtain ⟨y, L3, hd⟩ : ∃ y L3, P.drop 3 = y :: L3 := by
      cases h : P.drop 3 with
      | nil => have := congrArg List.length h; simp at this; omega
      | cons y L3 => exact ⟨y, L3, rfl⟩
    have hd1 : (P ++ B).drop 3 = (y :: L3) ++ B := by rw [List.drop_append_of_le_length (by omega), hd]
    have hd2 : (P ++ (sep, b) :: B).drop 3 = (y :: L3) ++ (sep, b) :: B := by rw [List.drop_append_of_le_length (by omega), hd]
    have hyP : y ∈ P := List.mem_of_mem_drop (by rw [hd]; exact List.mem_cons_self ..)
    have hy : ¬ KLt sep y.1 := (hk y hyP).asymm
    refine ⟨3, y, L3 ++ (sep, b) :: B, by omega, by omega, by rw [hd2]; rfl, by rw [hd1]; rfl, ?_, ?_⟩
    · rw [if_neg hy, List.take_append_of_le_length (by omega), List.take_append_of_le_length (by omega)]
    · rw [if_neg hy, hd1]
      have e3 : noKey ((y :: L3) ++ B) = ((ByteArray.empty, y.2) :: L3) ++ B := rfl
      rw [e3, insK_at b ?_ (fun z hz => (hB z (List.mem_of_mem_head? hz)).asymm)]
      · rfl
      · intro z hz
        rcases List.mem_cons.1 hz with rfl | hz
        · exact KLt.pos (fun e => by
            have := hk y hyP
            rw [e] at this
            exact KLt.empty _ this)
        · exact hk z (List.mem_of_mem_drop (by rw [hd]; exact List.mem_cons_of_mem _ hz))
end

/-!
  Layer 16 (tree), plain law: an inner node around kids that a put has turned.
-/
section
open Go.RowKit Go.Joins
set_option linter.unusedVariables false
set_option linter.unusedSimpArgs false

abbrev idsT {n : Nat} (T : List (Tr n)) : List Int := T.flatMap (Tr.ids n)
abbrev lvsT {n : Nat} (T : List (Tr n)) : List (Int × List NC) := T.flatMap (Tr.leaves n)
def trees {n : Nat} (K : List (ByteArray × Tr n)) : List (Tr n) := K.map (·.2)
theorem trees_append {n : Nat} (A B : List (ByteArray × Tr n)) : trees (A ++ B) = trees A ++ trees B := by simp [trees]
theorem ids_node {n : Nat} (id : Int) (K : List (ByteArray × Tr n)) : Tr.ids (n + 1) (mkNode id K) = id :: idsT (trees K) := by
  show id :: K.flatMap (fun x => Tr.ids n x.2) = _
  simp [idsT, trees, List.flatMap_map]
theorem leaves_node {n : Nat} (id : Int) (K : List (ByteArray × Tr n)) : Tr.leaves (n + 1) (mkNode id K) = lvsT (trees K) := by
  show K.flatMap (fun x => Tr.leaves n x.2) = _
  simp [lvsT, trees, List.flatMap_map]
theorem lv_ids {n : Nat} {T : List (Tr n)} {x : Int × List NC} (h : x ∈ lvsT T) : x.1 ∈ idsT T := by
  obtain ⟨s, hs, hx⟩ := List.mem_flatMap.1 h
  exact List.mem_flatMap.2 ⟨s, hs, leaf_ids hx⟩

/-- kids behind a put below -/
structure Mid (S : Vol) (m : Pg) (S' : Vol) (m' d : Pg) (nn : Nat) (st : Int) (n : Nat) (id : Int) (K : List (ByteArray × Tr n)) (T : List (Tr n)) (c : NC) (kp : List ByteArray) : Prop where
  tin : ∀ s ∈ T, TrIn S' st n s
  wide : ∀ s ∈ T, Tr.Wide n s
  vol : VolOk S' d m' nn
  nodup : (idsT T).Nodup
  no : id ∉ idsT T
  own : ∀ i ∈ idsT T, 2 ≤ i ∧ i < nn ∧ bitAt m' i.toNat = true
  old : ∀ i ∈ idsT (trees K), i ∈ idsT T
  new : ∀ i ∈ idsT T, i ∈ idsT (trees K) ∨ bitAt m i.toNat = false
  mono : ∀ i : Nat, i < nn → bitAt m i = true → bitAt m' i = true
  bits : ∀ i : Nat, i < nn → bitAt m' i = true → bitAt m i = true ∨ (i : Int) ∈ idsT T
  frame : ∀ i, i ∉ idsT T → i ≠ 1 → stPg S' i = stPg S i
  ses : ∀ i, stE S i = 0 → stE S' i = 0
  inv : ∀ Q : Vol → Prop, (∀ (V : Vol) (id : Int) (p : Pg), Q V → 1 ≤ id → id < (nn : Int) → okPg p = true → Q (V.put id p)) → Q S → Q S'
  chain : ∀ nxt, LeafAll S st (lvsT (trees K)) nxt → LeafAll S' st (lvsT T) nxt
  head : ∀ nxt, nextOf (lvsT T) nxt = nextOf (lvsT (trees K)) nxt
  memc : c ∈ flat (lvsT T)
  back : ∀ x ∈ flat (lvsT T), x = c ∨ x ∈ flat (lvsT (trees K))
  kept : ∀ x ∈ flat (lvsT (trees K)), x.st = 1 ∨ x.key ∈ kp → x ∈ flat (lvsT T)

theorem nextOf_append (a b : List (Int × List NC)) (nxt : Int) : nextOf (a ++ b) nxt = nextOf a (nextOf b nxt) := by cases a <;> rfl

theorem mid_of {S S' : Vol} {d m m' : Pg} {nn : Nat} {st : Int} {n : Nat} {id : Int} {A B : List (ByteArray × Tr n)} {x : ByteArray × Tr n} {lo : ByteArray} {hi : Option ByteArray} {c : NC} {kp : List ByteArray} {R : List (Tr n)}
    (h : Pre S d m nn st (n + 1) (mkNode id (A ++ x :: B)) lo hi c) (hp : Post S m S' m' d nn st n x.2 R c kp) : Mid S m S' m' d nn st n id (A ++ x :: B) (trees A ++ R ++ trees B) c kp := by
  have hK : trees (A ++ x :: B) = trees A ++ x.2 :: trees B := by simp [trees]
  have hnd := h.nodup
  rw [ids_node, hK] at hnd
  obtain ⟨hidn, hnd⟩ := List.nodup_cons.1 hnd
  simp only [idsT, List.flatMap_append, List.flatMap_cons] at hnd hidn
  have hown : ∀ i ∈ idsT (trees A) ++ (Tr.ids n x.2 ++ idsT (trees B)), 2 ≤ i ∧ i < nn ∧ bitAt m i.toNat = true := fun i hi => h.own i (by
    rw [ids_node, hK]
    simp only [idsT, List.flatMap_append, List.flatMap_cons]
    exact List.mem_cons_of_mem _ hi)
  have hin : ∀ s ∈ trees A ++ trees B, TrIn S st n s ∧ Tr.Wide n s := fun s hs => by
    have hm : ∃ y ∈ A ++ x :: B, y.2 = s := by
      rcases List.mem_append.1 hs with hs | hs
      · obtain ⟨y, hy, e⟩ := List.mem_map.1 hs
        exact ⟨y, List.mem_append_left _ hy, e⟩
      · obtain ⟨y, hy, e⟩ := List.mem_map.1 hs
        exact ⟨y, List.mem_append_right _ (List.mem_cons_of_mem _ hy), e⟩
    obtain ⟨y, hy, rfl⟩ := hm
    exact ⟨h.tin.kid (t := mkNode id (A ++ x :: B)) hy, h.wide.2 y hy⟩
  have hA : ∀ i ∈ idsT (trees A) ++ idsT (trees B), i ∉ idsT R := by
    intro i hi hr
    have hi2 : i ∈ idsT (trees A) ++ (Tr.ids n x.2 ++ idsT (trees B)) := by
      rcases List.mem_append.1 hi with hi | hi
      · exact List.mem_append_left _ hi
      · exact List.mem_append_right _ (List.mem_append_right _ hi)
    rcases hp.new i hr with e | e
    · rcases List.mem_append.1 hi with hi | hi
      · exact (List.nodup_append.1 hnd).2.2 i hi i (List.mem_append_left _ e) rfl
      · exact (List.nodup_append.1 (List.nodup_append.1 hnd).2.1).2.2 i e i hi rfl
    · rw [(hown i hi2).2.2] at e; cases e
  have hfr : ∀ i ∈ idsT (trees A) ++ idsT (trees B), stPg S' i = stPg S i := fun i hi => by
    refine hp.frame i (hA i hi) ?_
    have hi2 : i ∈ idsT (trees A) ++ (Tr.ids n x.2 ++ idsT (trees B)) := by
      rcases List.mem_append.1 hi with hi | hi
      · exact List.mem_append_left _ hi
      · exact List.mem_append_right _ (List.mem_append_right _ hi)
    have := hown i hi2
    omega
  have hidm : ∀ i, i ∈ idsT (trees A ++ R ++ trees B) ↔ i ∈ idsT (trees A) ++ idsT (trees B) ∨ i ∈ idsT R := fun i => by
    simp only [idsT, List.flatMap_append, List.mem_append]
    constructor
    · rintro ((h | h) | h) <;> simp [h]
    · rintro ((h | h) | h) <;> simp [h]
  have hlv : lvsT (trees A ++ R ++ trees B) = lvsT (trees A) ++ (lvsT R ++ lvsT (trees B)) := by simp [lvsT]
  have hlv0 : lvsT (trees (A ++ x :: B)) = lvsT (trees A) ++ (Tr.leaves n x.2 ++ lvsT (trees B)) := by rw [hK]; simp [lvsT]
  have hids0 : idsT (trees (A ++ x :: B)) = idsT (trees A) ++ (Tr.ids n x.2 ++ idsT (trees B)) := by rw [hK]; simp [idsT]
  have hidb : bitAt m id.toNat = true := (h.own id (by rw [ids_node]; exact List.mem_cons_self ..)).2.2
  have hsub : ∀ s ∈ trees A ++ trees B, ∀ i ∈ Tr.ids n s, i ∈ idsT (trees A) ++ idsT (trees B) := fun s hs i hi => by
    rcases List.mem_append.1 hs with hs | hs
    · exact List.mem_append_left _ (List.mem_flatMap.2 ⟨s, hs, hi⟩)
    · exact List.mem_append_right _ (List.mem_flatMap.2 ⟨s, hs, hi⟩)
  refine ⟨?_, ?_, hp.vol, ?_, ?_, ?_, ?_, ?_, hp.mono, ?_, ?_, hp.ses, hp.inv, ?_, ?_, ?_, ?_, ?_⟩
  · intro s hs
    have hs2 : s ∈ trees A ++ trees B ∨ s ∈ R := by
      simp only [List.mem_append] at hs ⊢
      rcases hs with (hs | hs) | hs <;> simp [hs]
    rcases hs2 with hs2 | hs2
    · have ht := (hin s hs2).1
      exact ht.frame fun i hi => ⟨hfr i (hsub s hs2 i hi), (hp.ses i (ht.ids i hi).1).trans (ht.ids i hi).1.symm⟩
    · exact hp.tin s hs2
  · intro s hs
    have hs2 : s ∈ trees A ++ trees B ∨ s ∈ R := by
      simp only [List.mem_append] at hs ⊢
      rcases hs with (hs | hs) | hs <;> simp [hs]
    rcases hs2 with hs2 | hs2
    · exact (hin s hs2).2
    · exact hp.wide s hs2
  · simp only [idsT, List.flatMap_append]
    have n1 := List.nodup_append.1 hnd
    have n2 := List.nodup_append.1 n1.2.1
    refine List.nodup_append.2 ⟨List.nodup_append.2 ⟨n1.1, hp.nodup, fun a ha b hb e => ?_⟩, n2.2.1, fun a ha b hb e => ?_⟩
    · subst e; exact hA a (List.mem_append_left _ ha) hb
    · subst e
      rcases List.mem_append.1 ha with ha | ha
      · exact n1.2.2 a ha a (List.mem_append_right _ hb) rfl
      · exact hA a (List.mem_append_right _ hb) ha
  · intro hi
    rcases (hidm id).1 hi with hi | hi
    · refine hidn ?_
      rcases List.mem_append.1 hi with hi | hi
      · exact List.mem_append_left _ hi
      · exact List.mem_append_right _ (List.mem_append_right _ hi)
    · rcases hp.new id hi with e | e
      · exact hidn (List.mem_append_right _ (List.mem_append_left _ e))
      · rw [hidb] at e; cases e
  · intro i hi
    rcases (hidm i).1 hi with hi | hi
    · have hi2 : i ∈ idsT (trees A) ++ (Tr.ids n x.2 ++ idsT (trees B)) := by
        rcases List.mem_append.1 hi with hi | hi
        · exact List.mem_append_left _ hi
        · exact List.mem_append_right _ (List.mem_append_right _ hi)
      have ho := hown i hi2
      exact ⟨ho.1, ho.2.1, hp.mono i.toNat (by omega) ho.2.2⟩
    · exact hp.own i hi
  · rw [hids0]
    intro i hi
    rw [hidm]
    rcases List.mem_append.1 hi with hi | hi
    · exact .inl (List.mem_append_left _ hi)
    · rcases List.mem_append.1 hi with hi | hi
      · exact .inr (hp.old i hi)
      · exact .inl (List.mem_append_right _ hi)
  · rw [hids0]
    intro i hi
    rcases (hidm i).1 hi with hi | hi
    · left
      rcases List.mem_append.1 hi with hi | hi
      · exact List.mem_append_left _ hi
      · exact List.mem_append_right _ (List.mem_append_right _ hi)
    · rcases hp.new i hi with e | e
      · exact .inl (List.mem_append_right _ (List.mem_append_left _ e))
      · exact .inr e
  · intro i hi hb
    rcases hp.bits i hi hb with e | e
    · exact .inl e
    · exact .inr ((hidm _).2 (.inr e))
  · intro i hi h1
    exact hp.frame i (fun e => hi ((hidm _).2 (.inr e))) h1
  · intro nxt hc
    rw [hlv0] at hc
    rw [hlv]
    rw [LeafAll.split, LeafAll.split] at hc ⊢
    obtain ⟨c1, c2, c3⟩ := hc
    refine ⟨?_, hp.chain _ c2, leafAll_frame (fun y hy => hfr _ (List.mem_append_right _ (lv_ids hy))) c3⟩
    rw [nextOf_append] at c1 ⊢
    rw [show nextOf (lvsT R) (nextOf (lvsT (trees B)) nxt) = nextOf (Tr.leaves n x.2) (nextOf (lvsT (trees B)) nxt) from hp.head _]
    exact leafAll_frame (fun y hy => hfr _ (List.mem_append_left _ (lv_ids hy))) c1
  · intro nxt
    rw [hlv, hlv0, nextOf_append, nextOf_append, nextOf_append, nextOf_append, show nextOf (lvsT R) (nextOf (lvsT (trees B)) nxt) = nextOf (Tr.leaves n x.2) (nextOf (lvsT (trees B)) nxt) from hp.head _]
  · rw [hlv, flat_append, flat_append]
    exact List.mem_append_right _ (List.mem_append_left _ hp.memc)
  · rw [hlv, hlv0, flat_append, flat_append, flat_append, flat_append]
    intro y hy
    simp only [List.mem_append] at hy ⊢
    rcases hy with hy | hy | hy
    · exact .inr (.inl hy)
    · rcases hp.back y hy with e | e
      · exact .inl e
      · exact .inr (.inr (.inl e))
    · exact .inr (.inr (.inr hy))
  · rw [hlv, hlv0, flat_append, flat_append, flat_append, flat_append]
    intro y hy hk
    simp only [List.mem_append] at hy ⊢
    rcases hy with hy | hy | hy
    · exact .inl hy
    · exact .inr (.inl (hp.kept y hy hk))
    · exact .inr (.inr hy)

/-! ## nodes over such kids -/
theorem gs_perm {n : Nat} : ∀ Gs : List (Tr (n + 1)), List.Perm (Gs.flatMap (Tr.ids (n + 1))) (Gs.map (·.1) ++ idsT (Gs.flatMap fun g => trees (kidsOf g)))
  | [] => by simp [idsT]
  | g :: r => by
    have ih := gs_perm r
    have e : Tr.ids (n + 1) g = g.1 :: idsT (trees (kidsOf g)) := ids_node g.1 (kidsOf g)
    simp only [List.flatMap_cons, List.map_cons, e, List.cons_append, idsT, List.flatMap_append] at ih ⊢
    refine List.Perm.cons _ ?_
    refine (List.Perm.append_left _ ih).trans ?_
    rw [← List.append_assoc, ← List.append_assoc]
    exact List.Perm.append_right _ List.perm_append_comm
theorem gs_leaves {n : Nat} : ∀ Gs : List (Tr (n + 1)), Gs.flatMap (Tr.leaves (n + 1)) = lvsT (Gs.flatMap fun g => trees (kidsOf g))
  | [] => rfl
  | g :: r => by
    have ih := gs_leaves r
    have e : Tr.leaves (n + 1) g = lvsT (trees (kidsOf g)) := leaves_node g.1 (kidsOf g)
    simp only [List.flatMap_cons, e, lvsT, List.flatMap_append] at ih ⊢
    rw [ih]
theorem post_of {S S' S2 : Vol} {d m m' m2 : Pg} {nn : Nat} {st : Int} {n : Nat} {id : Int} {K : List (ByteArray × Tr n)} {T : List (Tr n)} {c : NC} {kp : List ByteArray} {lo : ByteArray} {hi : Option ByteArray}
    (h : Pre S d m nn st (n + 1) (mkNode id K) lo hi c) (hm : Mid S m S' m' d nn st n id K T c kp) (Gs : List (Tr (n + 1))) (hT : (Gs.flatMap fun g => trees (kidsOf g)) = T)
    (hpg : ∀ g ∈ Gs, stPg S2 g.1 = ndPg (n + 1 : Nat) st 0 (Tr.cells (n + 1) g)) (hoth : ∀ i, i ∉ Gs.map (·.1) → i ≠ 1 → stPg S2 i = stPg S' i) (hse : ∀ i, stE S' i = 0 → stE S2 i = 0) (hsg : ∀ g ∈ Gs, stE S2 g.1 = 0)
    (hvol : VolOk S2 d m2 nn) (hb2 : ∀ i : Nat, i < nn → (bitAt m2 i = true ↔ bitAt m' i = true ∨ (i : Int) ∈ Gs.map (·.1))) (hgn : (Gs.map (·.1)).Nodup) (hidg : id ∈ Gs.map (·.1))
    (hg : ∀ i : Int, i ∈ Gs.map (·.1) → 2 ≤ i ∧ i < (nn : Int) ∧ i ∉ idsT T ∧ (i = id ∨ bitAt m i.toNat = false))
    (hgood : ∀ g ∈ Gs, NodeOk (n + 1) (Tr.cells (n + 1) g)) (hwide : ∀ g ∈ Gs, 2 ≤ (kidsOf g).length)
    (hinv : ∀ Q : Vol → Prop, (∀ (V : Vol) (id : Int) (p : Pg), Q V → 1 ≤ id → id < (nn : Int) → okPg p = true → Q (V.put id p)) → Q S' → Q S2) :
    Post S m S2 m2 d nn st (n + 1) (mkNode id K) Gs c kp := by
  have hnn := h.vol.map.hi
  have hperm := gs_perm Gs
  rw [hT] at hperm
  have hlv := gs_leaves Gs
  rw [hT] at hlv
  have hmem : ∀ i, i ∈ Gs.flatMap (Tr.ids (n + 1)) ↔ i ∈ Gs.map (·.1) ∨ i ∈ idsT T := fun i => by rw [hperm.mem_iff, List.mem_append]
  have hkid : ∀ g ∈ Gs, ∀ y ∈ kidsOf g, y.2 ∈ T := fun g hgm y hy => by
    rw [← hT]
    exact List.mem_flatMap.2 ⟨g, hgm, List.mem_map.2 ⟨y, hy, rfl⟩⟩
  have hkin : ∀ s ∈ T, TrIn S2 st n s := fun s hs => by
    have ht := hm.tin s hs
    refine ht.frame fun i hi => ?_
    have hit : i ∈ idsT T := List.mem_flatMap.2 ⟨s, hs, hi⟩
    refine ⟨hoth i (fun e => (hg i e).2.2.1 hit) (by have := (hm.own i hit).1; omega), ?_⟩
    rw [(ht.ids i hi).1]; exact hse i (ht.ids i hi).1
  have hids : Tr.ids (n + 1) (mkNode id K) = id :: idsT (trees K) := ids_node id K
  have hl0 : Tr.leaves (n + 1) (mkNode id K) = lvsT (trees K) := leaves_node id K
  refine ⟨?_, ?_, hvol, ?_, ?_, ?_, ?_, ?_, ?_, ?_, fun i hi => hse i (hm.ses i hi), fun Q hQ h0 => hinv Q hQ (hm.inv Q hQ h0), ?_, ?_, ?_, ?_, ?_⟩
  · intro g hgm
    refine ⟨⟨hpg g hgm, fun y hy => (hkin _ (hkid g hgm y hy)).inner⟩, ⟨hgood g hgm, fun y hy => (hkin _ (hkid g hgm y hy)).good⟩, fun x hx => ?_, fun i hi => ?_, h.tin.low⟩
    · obtain ⟨y, hy, hx⟩ := List.mem_flatMap.1 hx
      exact (hkin _ (hkid g hgm y hy)).leaves x hx
    · have hi' : i ∈ g.1 :: (kidsOf g).flatMap (fun x => Tr.ids n x.2) := hi
      rcases List.mem_cons.1 hi' with rfl | hi'
      · have := hg g.1 (List.mem_map.2 ⟨g, hgm, rfl⟩)
        exact ⟨hsg g hgm, by omega, by omega⟩
      · obtain ⟨y, hy, hi'⟩ := List.mem_flatMap.1 hi'
        exact (hkin _ (hkid g hgm y hy)).ids i hi'
  · intro g hgm
    exact ⟨hwide g hgm, fun y hy => hm.wide _ (hkid g hgm y hy)⟩
  · rw [hperm.nodup_iff]
    refine List.nodup_append.2 ⟨hgn, hm.nodup, fun a ha b hb e => ?_⟩
    subst e
    exact (hg a ha).2.2.1 hb
  · intro i hi
    rcases (hmem i).1 hi with hi | hi
    · have hh := hg i hi
      refine ⟨hh.1, hh.2.1, (hb2 i.toNat (by omega)).2 (.inr ?_)⟩
      rw [Int.toNat_of_nonneg (by omega)]; exact hi
    · have ho := hm.own i hi
      exact ⟨ho.1, ho.2.1, (hb2 i.toNat (by omega)).2 (.inl ho.2.2)⟩
  · rw [hids]
    intro i hi
    rw [hmem]
    rcases List.mem_cons.1 hi with rfl | hi
    · exact .inl hidg
    · exact .inr (hm.old i hi)
  · rw [hids]
    intro i hi
    rcases (hmem i).1 hi with hi | hi
    · rcases (hg i hi).2.2.2 with e | e
      · exact .inl (by rw [e]; exact List.mem_cons_self ..)
      · exact .inr e
    · rcases hm.new i hi with e | e
      · exact .inl (List.mem_cons_of_mem _ e)
      · exact .inr e
  · exact fun i hi hb => (hb2 i hi).2 (.inl (hm.mono i hi hb))
  · intro i hi hb
    rcases (hb2 i hi).1 hb with e | e
    · rcases hm.bits i hi e with e | e
      · exact .inl e
      · exact .inr ((hmem _).2 (.inr e))
    · exact .inr ((hmem _).2 (.inl e))
  · intro i hi h1
    rw [hmem, not_or] at hi
    exact (hoth i hi.1 h1).trans (hm.frame i hi.2 h1)
  · rw [hl0, hlv]
    intro nxt hc
    refine leafAll_frame (fun x hx => ?_) (hm.chain nxt hc)
    have hx2 := lv_ids hx
    exact hoth _ (fun e => (hg _ e).2.2.1 hx2) (by have := (hm.own _ hx2).1; omega)
  · rw [hl0, hlv]; exact hm.head
  · rw [hlv]; exact hm.memc
  · rw [hl0, hlv]; exact hm.back
  · rw [hl0, hlv]; exact hm.kept
end

/-!
  Layer 16 (tree), plain law: what a put does to a whole tree.
-/
section
open Go.RowKit Go.Joins
set_option linter.unusedVariables false
set_option linter.unusedSimpArgs false

theorem rising_kids {n : Nat} (K : List (ByteArray × Tr n)) : Rising (kidC K) ↔ K.Pairwise fun y z => KLt y.1 z.1 := by
  unfold Rising kidC
  rw [List.pairwise_map]
theorem ordK_low {n : Nat} {B : List (ByteArray × Tr n)} {u v : ByteArray} {hi : Option ByteArray} (h : OrdK B (lowK B u) hi) : OrdK B (lowK B v) hi := by
  cases B with
  | nil => trivial
  | cons y r => exact h
theorem node_kids {n : Nat} {K : List (ByteArray × Tr n)} (h6 : K.length ≤ 6) (h0 : 0 < K.length) (he : K[0].1 = ByteArray.empty) (hr : K.Pairwise fun y z => KLt y.1 z.1) (hk : ∀ y ∈ K, y.1.size ≤ 8 ∧ 1 ≤ Tr.id n y.2 ∧ Tr.id n y.2 < 1024) : NodeOk (n + 1) (kidC K) := by
  refine ⟨by simpa [kidC] using h6, (rising_kids K).2 hr, fun h => by omega, fun _ => ⟨fun c hc => ?_, by simpa [kidC] using h0, ?_⟩⟩
  · obtain ⟨y, hy, rfl⟩ := List.mem_map.1 hc
    have := hk y hy
    exact ⟨rfl, this.1, _, this.2.1, this.2.2, rfl⟩
  · simp [kidC, he]
theorem cells_mk {n : Nat} (id : Int) (K : List (ByteArray × Tr n)) : Tr.cells (n + 1) (mkNode id K) = kidC K := rfl
theorem kids_mk {n : Nat} (id : Int) (K : List (ByteArray × Tr n)) : kidsOf (mkNode id K) = K := rfl

theorem kidC_get {n : Nat} (K : List (ByteArray × Tr n)) (i : Nat) (h : i < K.length) : ((kidC K)[i]'(by simpa [kidC] using h)).key = K[i].1 := by simp [kidC]
theorem gids_one {n : Nat} (id : Int) (K : List (ByteArray × Tr n)) : ([mkNode id K].map fun g : Tr (n + 1) => g.1) = [id] := rfl
theorem gids_two {n : Nat} (id r : Int) (K L : List (ByteArray × Tr n)) : ([mkNode id K, mkNode r L].map fun g : Tr (n + 1) => g.1) = [id, r] := rfl

theorem putNode_ok {S : Vol} {d m : Pg} {nn : Nat} {st : Int} {n : Nat} {id : Int} {A B : List (ByteArray × Tr n)} {x : ByteArray × Tr n} {lo : ByteArray} {hi : Option ByteArray} {c : NC} {kp : List ByteArray}
    (h : Pre S d m nn st (n + 1) (mkNode id (A ++ x :: B)) lo hi c) (r : PR n × Vol × Pg)
    (hr : PostR S m d nn st n x.2 (if A = [] then lo else x.1) (headK B hi) c kp r) : PostR S m d nn st (n + 1) (mkNode id (A ++ x :: B)) lo hi c kp (putNode st nn id (A ++ x :: B) A.length x.1 r) := by
  obtain ⟨k, xt⟩ := x
  obtain ⟨hsep, hord⟩ := (ord_node id _ lo hi).1 h.ord
  rw [ordK_append] at hord
  obtain ⟨hoA, hoX, hoB⟩ := hord
  simp only at hoA hoX hoB hr ⊢
  have hgood := h.tin.good.1
  rw [cells_mk] at hgood
  obtain ⟨h6, hri, -, hinn⟩ := hgood
  obtain ⟨hinn, hp0, he0⟩ := hinn (by omega)
  rw [rising_kids] at hri
  have hpA := List.pairwise_append.1 hri
  have hpX := List.pairwise_cons.1 hpA.2.1
  have hl6 : (A ++ (k, xt) :: B).length ≤ 6 := by simpa [kidC] using h6
  have hid := h.own id (by rw [ids_node]; exact List.mem_cons_self ..)
  have hkey : ∀ y ∈ A ++ (k, xt) :: B, y.1.size ≤ 8 := fun y hy => (hinn ⟨y.1, 1, le4 (Tr.id n y.2)⟩ (List.mem_map.2 ⟨y, hy, rfl⟩)).2.1
  have hk8 : k.size ≤ 8 := hkey (k, xt) (by simp)
  have hfirst : ∀ (z : Tr n) (C : List (ByteArray × Tr n)) (hh : 0 < (A ++ (k, z) :: C).length), (A ++ (k, z) :: C)[0].1 = ByteArray.empty := by
    intro z C hh
    have e : (kidC (A ++ (k, xt) :: B))[0].key = (A ++ (k, xt) :: B)[0].1 := kidC_get _ 0 (by simp; omega)
    have he1 := e.symm.trans he0
    cases A with
    | nil => exact he1
    | cons y r => exact he1
  have hwide := h.wide.1
  rw [kids_mk] at hwide
  obtain ⟨q, S', m'⟩ := r
  cases q with
  | bad => exact hr
  | one t' =>
    obtain ⟨hp, hti, hto⟩ := hr
    have hmid := mid_of h hp
    have hK1 : (A ++ (k, xt) :: B).set A.length (k, t') = A ++ (k, t') :: B := set_mid A B _ _
    have hcells : kidC (A ++ (k, t') :: B) = kidC (A ++ (k, xt) :: B) := by simp [kidC, hti]
    show PostR S m d nn st (n + 1) _ lo hi c kp (.one (mkNode id ((A ++ (k, xt) :: B).set A.length (k, t'))), S', m')
    rw [hK1]
    refine ⟨post_of h hmid [mkNode id (A ++ (k, t') :: B)] ?_ ?_ ?_ (fun i hi => hi) ?_ hmid.vol ?_ ?_ ?_ ?_ ?_ ?_ (fun Q _ h0 => h0), rfl, ?_⟩
    · simp [kids_mk, trees]
    · intro g hg
      obtain rfl : g = mkNode id (A ++ (k, t') :: B) := by simpa using hg
      rw [cells_mk, hcells]
      exact (hmid.frame id hmid.no (by omega)).trans h.tin.inner.1
    · exact fun i _ _ => rfl
    · intro g hg
      obtain rfl : g = mkNode id (A ++ (k, t') :: B) := by simpa using hg
      exact hmid.ses id (h.tin.ids id (by rw [ids_node]; exact List.mem_cons_self ..)).1
    · intro i hi
      refine ⟨.inl, ?_⟩
      rintro (e | e)
      · exact e
      · rw [gids_one] at e
        have e2 : (i : Int) = id := by simpa using e
        have := hid.2.2
        rw [← e2, Int.toNat_natCast] at this
        exact hmid.mono i hi this
    · rw [gids_one]; simp
    · rw [gids_one]; simp
    · intro i hi
      rw [gids_one] at hi
      obtain rfl : i = id := by simpa using hi
      exact ⟨hid.1, hid.2.1, hmid.no, .inl rfl⟩
    · intro g hg
      obtain rfl : g = mkNode id (A ++ (k, t') :: B) := by simpa using hg
      rw [cells_mk, hcells]
      exact h.tin.good.1
    · intro g hg
      obtain rfl : g = mkNode id (A ++ (k, t') :: B) := by simpa using hg
      rw [kids_mk]; simpa using hwide
    · refine (ord_node id _ lo hi).2 ⟨fun y hy => ?_, (ordK_append A (k, t') B lo hi).2 ⟨hoA, hto, hoB⟩⟩
      cases A with
      | nil => exact hsep y hy
      | cons z r =>
        simp only [List.cons_append, List.drop_succ_cons, List.drop_zero, List.mem_append, List.mem_cons] at hy hsep
        rcases hy with hy | rfl | hy
        · exact hsep y (.inl hy)
        · exact hsep (k, xt) (.inr (.inl rfl))
        · exact hsep y (.inr (.inr hy))
  | two a sep b =>
    obtain ⟨hp, hai, hao, hbo, hlt, hhi, hs8⟩ := hr
    have hmid := mid_of h hp
    have hK1 : (A ++ (k, xt) :: B).set A.length (k, a) = A ++ (k, a) :: B := set_mid A B _ _
    have hlen1 : (A ++ (k, a) :: B).length = (A ++ (k, xt) :: B).length := by simp
    have hksep : KLt k sep := by
      cases A with
      | nil =>
        have hk0 : k = ByteArray.empty := hfirst xt B (by simp)
        subst hk0
        refine KLt.pos (fun e => ?_)
        subst e
        exact KLt.empty _ hlt
      | cons z r => simpa using hlt
    have hsepB : ∀ y ∈ B, KLt sep y.1 := by
      cases B with
      | nil => intro y hy; cases hy
      | cons z r =>
        have hz := hhi z.1 rfl
        have hp2 := List.pairwise_cons.1 hpX.2
        intro y hy
        rcases List.mem_cons.1 hy with rfl | hy
        · exact hz
        · exact hz.trans (hp2.1 y hy)
    have hri2 : (A ++ (k, a) :: (sep, b) :: B).Pairwise fun y z => KLt y.1 z.1 := by
      refine List.pairwise_append.2 ⟨hpA.1, List.pairwise_cons.2 ⟨fun y hy => ?_, List.pairwise_cons.2 ⟨fun y hy => hsepB y hy, hpX.2⟩⟩, fun y hy z hz => ?_⟩
      · rcases List.mem_cons.1 hy with rfl | hy
        · exact hksep
        · exact hpX.1 y hy
      · rcases List.mem_cons.1 hz with rfl | hz
        · exact hpA.2.2 y hy (k, xt) (List.mem_cons_self ..)
        · rcases List.mem_cons.1 hz with rfl | hz
          · exact (hpA.2.2 y hy (k, xt) (List.mem_cons_self ..)).trans hksep
          · exact hpA.2.2 y hy z (List.mem_cons_of_mem _ hz)
    have hinsep : InS lo hi sep := by
      refine ⟨?_, fun hh hhm => ?_⟩
      · cases A with
        | nil => exact hlt
        | cons z r =>
          have hk := (hsep (k, xt) (by simp)).1
          exact hk.trans hksep
      · cases B with
        | nil => exact hhi hh hhm
        | cons z r => exact (hhi z.1 rfl).trans ((hsep z (by
            cases A with
            | nil => simp
            | cons y s => simp)).2 hh hhm)
    have hsep2 : ∀ y ∈ (A ++ (k, a) :: (sep, b) :: B).drop 1, InS lo hi y.1 := by
      intro y hy
      cases A with
      | nil =>
        simp only [List.nil_append, List.drop_succ_cons, List.drop_zero, List.mem_cons] at hy hsep
        rcases hy with rfl | hy
        · exact hinsep
        · exact hsep y hy
      | cons z r =>
        simp only [List.cons_append, List.drop_succ_cons, List.drop_zero, List.mem_append, List.mem_cons] at hy hsep
        rcases hy with hy | rfl | rfl | hy
        · exact hsep y (.inl hy)
        · exact hsep (k, xt) (.inr (.inl rfl))
        · exact hinsep
        · exact hsep y (.inr (.inr hy))
    have hord2 : OrdK (A ++ (k, a) :: (sep, b) :: B) lo hi := (ordK_append A (k, a) _ lo hi).2 ⟨hoA, hao, hbo, ordK_low hoB⟩
    have hmk : ∀ y ∈ A ++ (k, a) :: (sep, b) :: B, y.1.size ≤ 8 ∧ y.2 ∈ trees A ++ [a, b] ++ trees B := by
      intro y hy
      simp only [List.mem_append, List.mem_cons, List.not_mem_nil, or_false]
      rcases List.mem_append.1 hy with hy | hy
      · exact ⟨hkey y (List.mem_append_left _ hy), .inl (.inl (List.mem_map.2 ⟨y, hy, rfl⟩))⟩
      · rcases List.mem_cons.1 hy with rfl | hy
        · exact ⟨hk8, .inl (.inr (.inl rfl))⟩
        · rcases List.mem_cons.1 hy with rfl | hy
          · exact ⟨hs8, .inl (.inr (.inr rfl))⟩
          · exact ⟨hkey y (List.mem_append_right _ (List.mem_cons_of_mem _ hy)), .inr (List.mem_map.2 ⟨y, hy, rfl⟩)⟩
    have hki : ∀ y ∈ A ++ (k, a) :: (sep, b) :: B, y.1.size ≤ 8 ∧ 1 ≤ Tr.id n y.2 ∧ Tr.id n y.2 < 1024 := fun y hy => by
      obtain ⟨h1, h2⟩ := hmk y hy
      have := (hmid.tin _ h2).ids _ (id_mem n y.2)
      exact ⟨h1, this.2⟩
    have htr : trees (A ++ (k, a) :: (sep, b) :: B) = trees A ++ [a, b] ++ trees B := by simp [trees]
    have hins : insK (A ++ (k, a) :: B) sep b = A ++ (k, a) :: (sep, b) :: B := by
      have e1 : A ++ (k, a) :: B = (A ++ [(k, a)]) ++ B := by simp
      rw [e1, insK_at b]
      · simp
      · intro y hy
        rcases List.mem_append.1 hy with hy | hy
        · exact (hpA.2.2 y hy (k, xt) (List.mem_cons_self ..)).trans hksep
        · obtain rfl : y = (k, a) := by simpa using hy
          exact hksep
      · exact fun y hy => (hsepB y (List.mem_of_mem_head? hy)).asymm
    have hstn := h.st0
    have hlow := h.tin.low
    have hlen2 : (A ++ (k, a) :: (sep, b) :: B).length = (A ++ (k, xt) :: B).length + 1 := by simp; omega
    show PostR S m d nn st (n + 1) _ lo hi c kp (putNode st nn id (A ++ (k, xt) :: B) A.length k (.two a sep b, S', m'))
    unfold putNode
    simp only [hK1]
    by_cases h6' : (A ++ (k, a) :: B).length < 6
    · rw [if_pos h6', hins]
      have hno : NodeOk (n + 1) (kidC (A ++ (k, a) :: (sep, b) :: B)) := node_kids (by omega) (by simp; omega) (hfirst a _ (by simp; omega)) hri2 hki
      have hok := nd_okPg hno hlow hstn (by omega : (0 : Int) ≤ 0 ∧ (0 : Int) < 1024)
      refine ⟨post_of h hmid [mkNode id (A ++ (k, a) :: (sep, b) :: B)] ?_ ?_ ?_ ?_ ?_ (hmid.vol.put id _ hid.1) ?_ ?_ ?_ ?_ ?_ ?_ ?_, rfl, (ord_node id _ lo hi).2 ⟨hsep2, hord2⟩⟩
      · simpa [kids_mk] using htr
      · intro g hg
        obtain rfl : g = mkNode id (A ++ (k, a) :: (sep, b) :: B) := by simpa using hg
        rw [cells_mk]
        show stPg _ id = _
        rw [stPg_put, if_pos rfl]
      · intro i hi _
        rw [gids_one] at hi
        rw [stPg_put, if_neg (by simpa using hi)]
      · intro i hi
        rw [stE_put]; split
        · rfl
        · exact hi
      · intro g hg
        obtain rfl : g = mkNode id (A ++ (k, a) :: (sep, b) :: B) := by simpa using hg
        show stE _ id = 0
        rw [stE_put, if_pos rfl]
      · intro i hi
        refine ⟨.inl, ?_⟩
        rintro (e | e)
        · exact e
        · rw [gids_one] at e
          have e2 : (i : Int) = id := by simpa using e
          have := hid.2.2
          rw [← e2, Int.toNat_natCast] at this
          exact hmid.mono i hi this
      · rw [gids_one]; simp
      · rw [gids_one]; simp
      · intro i hi
        rw [gids_one] at hi
        obtain rfl : i = id := by simpa using hi
        exact ⟨hid.1, hid.2.1, hmid.no, .inl rfl⟩
      · intro g hg
        obtain rfl : g = mkNode id (A ++ (k, a) :: (sep, b) :: B) := by simpa using hg
        exact hno
      · intro g hg
        obtain rfl : g = mkNode id (A ++ (k, a) :: (sep, b) :: B) := by simpa using hg
        rw [kids_mk]; omega
      · exact fun Q hQ h0 => hQ _ _ _ h0 (by omega) (by omega) hok
    · rw [if_neg h6']
      have hl1 : (A ++ (k, a) :: B).length = 6 := by omega
      cases htk : takeV nn S' m' with
      | none => exact ⟨fun Q hQ h0 => hmid.inv Q hQ h0, takeV_none htk⟩
      | some q =>
        obtain ⟨r, S1, m1⟩ := q
        obtain ⟨rfl, rfl, hr2, hrn, hrf, -, hv1, hbt⟩ := takeV_some hmid.vol htk
        obtain ⟨s, y, L2, hs3, hs4, hd, hsp, hlo, hhi2⟩ := halves (sep := sep) (b := b) hl1 ((rising_kids _).2 hri2)
        simp only [hsp, hlo, hhi2]
        obtain ⟨K2, hK2⟩ : ∃ K2, A ++ (k, a) :: (sep, b) :: B = K2 := ⟨_, rfl⟩
        have hk2f : ∀ hh : 0 < K2.length, K2[0].1 = ByteArray.empty := fun hh => by subst hK2; exact hfirst a _ (by simp; omega)
        rw [hK2] at hd hri2 hsep2 hord2 hki htr hlen2 ⊢
        have hsplit : K2 = K2.take s ++ y :: L2 := by rw [← hd, List.take_append_drop]
        have hK2l : K2.length = 7 := by rw [hlen2, ← hlen1, hl1]
        have htl : (K2.take s).length = s := by rw [List.length_take]; omega
        have hLl : (y :: L2).length = 7 - s := by rw [← hd, List.length_drop]; omega
        have hpw := hri2
        rw [hsplit] at hpw
        have hpw2 := List.pairwise_append.1 hpw
        have hpw3 := List.pairwise_cons.1 hpw2.2.1
        have hkl : ∀ z ∈ K2.take s, z ∈ K2 := fun z hz => List.mem_of_mem_take hz
        have hkh : ∀ z ∈ y :: L2, z ∈ K2 := fun z hz => by rw [hsplit]; exact List.mem_append_right _ hz
        have hy1 : y.1 ≠ ByteArray.empty := fun e => by
          have h0 : 0 < (K2.take s).length := by omega
          have := hpw2.2.2 _ (List.getElem_mem h0) y (List.mem_cons_self ..)
          rw [e] at this
          exact KLt.empty _ this
        have hy1b : InS lo hi y.1 := hsep2 y (by
          have : y ∈ K2.drop s := by rw [hd]; exact List.mem_cons_self ..
          have h2 : K2.drop s = (K2.drop 1).drop (s - 1) := by rw [List.drop_drop]; congr 1; omega
          rw [h2] at this
          exact List.mem_of_mem_drop this)
        have hnl : NodeOk (n + 1) (kidC (K2.take s)) := node_kids (by omega) (by omega) (by rw [List.getElem_take]; exact hk2f _) hpw2.1 (fun z hz => hki z (hkl z hz))
        have hnh : NodeOk (n + 1) (kidC (noKey (y :: L2))) := by
          refine node_kids (by simp only [noKey, List.length_cons] at hLl ⊢; omega) (by simp [noKey]) rfl ?_ ?_
          · refine List.pairwise_cons.2 ⟨fun z hz => ?_, hpw3.2⟩
            have := hpw3.1 z hz
            exact KLt.pos (fun e => by rw [e] at this; exact KLt.empty _ this)
          · intro z hz
            rcases List.mem_cons.1 hz with rfl | hz
            · exact ⟨by simp, (hki y (hkh y (List.mem_cons_self ..))).2⟩
            · exact hki z (hkh z (List.mem_cons_of_mem _ hz))
        have hokl := nd_okPg hnl hlow hstn (by omega : (0 : Int) ≤ 0 ∧ (0 : Int) < 1024)
        have hokh := nd_okPg hnh hlow hstn (by omega : (0 : Int) ≤ 0 ∧ (0 : Int) < 1024)
        have hokm : okPg (markPg m' r true) = true := hv1.map.ok
        have hrid : ((r : Nat) : Int) ≠ id := fun e => by
          have := hmid.mono id.toNat (by omega) hid.2.2
          rw [← e, Int.toNat_natCast, hrf] at this; cases this
        have hrT : ((r : Nat) : Int) ∉ idsT (trees A ++ [a, b] ++ trees B) := fun e => by
          have := (hmid.own _ e).2.2
          rw [Int.toNat_natCast, hrf] at this; cases this
        have hrm : bitAt m r = false := by
          cases hb : bitAt m r with
          | false => rfl
          | true => rw [hmid.mono r hrn hb] at hrf; cases hrf
        have hgt : ([mkNode id (K2.take s), mkNode (r : Int) (noKey (y :: L2))].flatMap fun g => trees (kidsOf g)) = trees A ++ [a, b] ++ trees B := by
          rw [← htr]
          conv => rhs; rw [hsplit]
          simp only [List.flatMap_cons, List.flatMap_nil, List.append_nil, kids_mk]
          rw [trees_append]
          congr 1
        have hordS := hord2
        rw [hsplit, ordK_append] at hordS
        have htne : K2.take s ≠ [] := fun e => by rw [e] at htl; simp at htl; omega
        rw [if_neg htne] at hordS
        have hd1 : K2.drop 1 = (K2.take s).drop 1 ++ y :: L2 := by
          conv => lhs; rw [hsplit]
          rw [List.drop_append_of_le_length (by omega)]
        refine ⟨post_of h hmid [mkNode id (K2.take s), mkNode (r : Int) (noKey (y :: L2))] hgt ?_ ?_ ?_ ?_ ((hv1.put id _ hid.1).put r _ (by omega)) ?_ ?_ ?_ ?_ ?_ ?_ ?_, rfl, ?_, ?_, ?_, hy1b.2, (hki y (hkh y (List.mem_cons_self ..))).1⟩
        · intro g hg
          rcases List.mem_cons.1 hg with rfl | hg
          · rw [cells_mk]
            show stPg _ id = _
            rw [stPg_put, if_neg (fun e => hrid e.symm), stPg_put, if_pos rfl]
          · obtain rfl : g = mkNode (r : Int) (noKey (y :: L2)) := by simpa using hg
            rw [cells_mk]
            show stPg _ (r : Int) = _
            rw [stPg_put, if_pos rfl]
        · intro i hi h1
          rw [gids_two] at hi
          simp only [List.mem_cons, List.not_mem_nil, or_false, not_or] at hi
          rw [stPg_put, if_neg hi.2, stPg_put, if_neg hi.1, stPg_put, if_neg h1]
        · intro i hi
          rw [stE_put]; split
          · rfl
          · rw [stE_put]; split
            · rfl
            · rw [stE_put]; split
              · rfl
              · exact hi
        · intro g hg
          rcases List.mem_cons.1 hg with rfl | hg
          · show stE _ id = 0
            rw [stE_put]; split
            · rfl
            · rw [stE_put, if_pos rfl]
          · obtain rfl : g = mkNode (r : Int) (noKey (y :: L2)) := by simpa using hg
            show stE _ (r : Int) = 0
            rw [stE_put, if_pos rfl]
        · intro i hi
          rw [hbt i hi, gids_two]
          simp only [List.mem_cons, List.not_mem_nil, or_false]
          by_cases e : i = r
          · subst e; simp
          · rw [if_neg e]
            refine ⟨.inl, ?_⟩
            rintro (e2 | e2 | e2)
            · exact e2
            · have := hid.2.2
              rw [← e2, Int.toNat_natCast] at this
              exact hmid.mono i hi this
            · exact absurd (by omega) e
        · rw [gids_two]
          exact List.nodup_cons.2 ⟨by simpa using fun e => hrid e.symm, by simp⟩
        · rw [gids_two]; simp
        · intro i hi
          rw [gids_two] at hi
          simp only [List.mem_cons, List.not_mem_nil, or_false] at hi
          rcases hi with rfl | rfl
          · exact ⟨hid.1, hid.2.1, hmid.no, .inl rfl⟩
          · exact ⟨by omega, by omega, hrT, .inr (by rw [Int.toNat_natCast]; exact hrm)⟩
        · intro g hg
          rcases List.mem_cons.1 hg with rfl | hg
          · exact hnl
          · obtain rfl : g = mkNode (r : Int) (noKey (y :: L2)) := by simpa using hg
            exact hnh
        · intro g hg
          rcases List.mem_cons.1 hg with rfl | hg
          · rw [kids_mk]; omega
          · obtain rfl : g = mkNode (r : Int) (noKey (y :: L2)) := by simpa using hg
            rw [kids_mk]; simp only [noKey, List.length_cons] at hLl ⊢; omega
        · exact fun Q hQ h0 => hQ _ _ _ (hQ _ _ _ (hQ _ _ _ h0 (by omega) (by omega) hokm) (by omega) (by omega) hokl) (by omega) (by omega) hokh
        · refine (ord_node id _ lo _).2 ⟨fun z hz => ⟨(hsep2 z (by rw [hd1]; exact List.mem_append_left _ hz)).1, fun hh hhm => ?_⟩, hordS.1⟩
          cases hhm
          exact hpw2.2.2 z (List.mem_of_mem_drop hz) y (List.mem_cons_self ..)
        · refine (ord_node (r : Int) _ _ hi).2 ⟨fun z hz => ?_, hordS.2⟩
          have hz2 : z ∈ L2 := hz
          exact ⟨hpw3.1 z hz2, (hsep2 z (by rw [hd1]; exact List.mem_append_right _ (List.mem_cons_of_mem _ hz2))).2⟩
        · have h1 : 1 < (K2.take s).length := by omega
          have h2 := hsep2 (K2.take s)[1] (by
            rw [hd1]
            refine List.mem_append_left _ ?_
            rw [List.mem_iff_getElem]
            exact ⟨0, by rw [List.length_drop]; omega, by rw [List.getElem_drop]⟩)
          exact h2.1.trans (hpw2.2.2 _ (List.getElem_mem h1) y (List.mem_cons_self ..))

/-- what a put does, whole -/
theorem putV_ok {d : Pg} {nn : Nat} {st : Int} {c : NC} (kp : List ByteArray) : ∀ (n : Nat) (t : Tr n) (S : Vol) (m : Pg) (lo : ByteArray) (hi : Option ByteArray), Pre S d m nn st n t lo hi c → PostR S m d nn st n t lo hi c kp (putV st nn kp c n t S m)
  | 0, t, S, m, lo, hi, h => putLeaf_ok h kp
  | n + 1, (id, K), S, m, lo, hi, h => by
    have hh : Pre S d m nn st (n + 1) (mkNode id K) lo hi c := h
    show PostR S m d nn st (n + 1) (mkNode id K) lo hi c kp (match K[downL c.key (kidC K)]? with | none => _ | some x => putNode st nn id K (downL c.key (kidC K)) x.1 (putV st nn kp c n x.2 S m))
    have hgood := hh.tin.good.1
    rw [cells_mk] at hgood
    obtain ⟨h6, hr, -, hin⟩ := hgood
    obtain ⟨hin, hp0, he0⟩ := hin (by omega)
    obtain ⟨hdl, hd1, hd2⟩ := downL_spec (key := c.key) hr hp0 he0
    have hjl : downL c.key (kidC K) < K.length := by simpa [kidC] using hdl
    generalize downL c.key (kidC K) = j at *
    rw [List.getElem?_eq_getElem hjl]
    simp only
    obtain ⟨x, hx⟩ : ∃ x, K[j] = x := ⟨_, rfl⟩
    have hKs := take_drop_get K j hjl
    have hjA : (K.take j).length = j := by rw [List.length_take]; omega
    rw [hx] at hKs ⊢
    have hdx : ¬ KLt c.key x.1 := by
      have := hd1
      rw [kidC_get K j hjl, hx] at this
      exact this
    have hdB : ∀ y ∈ (K.drop (j + 1)).head?, KLt c.key y.1 := by
      intro y hy
      rw [List.head?_drop] at hy
      obtain ⟨h1, h2⟩ := List.getElem?_eq_some_iff.1 hy
      have := hd2 (j + 1) (by simpa [kidC] using h1) (by omega)
      rw [kidC_get K (j + 1) h1, h2] at this
      exact this
    generalize hA : K.take j = A at *
    generalize hB : K.drop (j + 1) = B at *
    rw [hKs] at hh ⊢
    rw [← hjA]
    obtain ⟨hsep, hord⟩ := (ord_node id _ lo hi).1 hh.ord
    rw [ordK_append] at hord
    refine putNode_ok hh _ (putV_ok kp n x.2 S m _ _ ?_)
    have hxm : x ∈ A ++ x :: B := List.mem_append_right _ (List.mem_cons_self ..)
    have hnd := hh.nodup
    rw [ids_node] at hnd
    have hidsub : ∀ i ∈ Tr.ids n x.2, i ∈ Tr.ids (n + 1) (mkNode id (A ++ x :: B)) := fun i hi => by
      rw [ids_node]
      exact List.mem_cons_of_mem _ (List.mem_flatMap.2 ⟨x.2, List.mem_map.2 ⟨x, hxm, rfl⟩, hi⟩)
    refine ⟨hh.tin.kid (t := mkNode id (A ++ x :: B)) hxm, hh.vol, ?_, fun i hi => hh.own i (hidsub i hi), hord.2.1, ⟨?_, ?_⟩, hh.wide.2 x hxm, hh.leaf, fun y hy => hh.fresh y ?_, hh.st0⟩
    · have h1 := (List.nodup_cons.1 hnd).2
      have e : idsT (trees (A ++ x :: B)) = idsT (trees A) ++ (Tr.ids n x.2 ++ idsT (trees B)) := by simp [trees, idsT]
      rw [e] at h1
      exact (List.nodup_append.1 (List.nodup_append.1 h1).2.1).1
    · split
      · exact hh.inb.1
      · exact hdx
    · intro z hz
      cases B with
      | nil => exact hh.inb.2 z hz
      | cons y r =>
        cases hz
        exact hdB y (by simp)
    · rw [leaves_node]
      obtain ⟨l, hl, hyl⟩ := mem_flat.1 hy
      exact mem_flat.2 ⟨l, List.mem_flatMap.2 ⟨x.2, List.mem_map.2 ⟨x, hxm, rfl⟩, hl⟩, hyl⟩
end
end Go.Proofs.Ytljommhbhpappaa
