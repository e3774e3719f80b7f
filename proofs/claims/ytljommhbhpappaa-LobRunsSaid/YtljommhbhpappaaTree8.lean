/-
  Layer 16 (tree): put, whole.
-/
import Derived.Test.YtljommhbhpappaaPkWalk
import Derived.Test.YtljommhbhpappaaPkIdx
namespace Go.Proofs.Ytljommhbhpappaa
open Go.RowKit Go.Joins
set_option linter.unusedVariables false
set_option linter.unusedSimpArgs false

def prV {n : Nat} : PR n → Value
  | .bad => .tuple #[.string ⟨#[]⟩, .int .i64 0, .int .i64 140]
  | .one _ => .tuple #[.string ⟨#[]⟩, .int .i64 0, .int .i64 0]
  | .two _ sep b => .tuple #[.string sep, .int .i64 (Tr.id n b), .int .i64 0]
theorem post_node {S S' : Vol} {m d m' : Pg} {nn : Nat} {st : Int} {n : Nat} {t : Tr n} {R : List (Tr n)} {c : NC} {kp : List ByteArray} (h : Post S m S' m' d nn st n t R c kp) : ∀ s ∈ R, NodeOk n (Tr.cells n s) := fun s hs => (h.tin s hs).good.node
/-- six cells, parted -/
theorem splitHi_leaf {L : List NC} (h : L.length = 6) : splitHi 0 L = L.drop 3 := by
  rcases L with _ | ⟨c0, _ | ⟨c1, _ | ⟨c2, _ | ⟨c3, _ | ⟨c4, _ | ⟨c5, _ | ⟨c6, r⟩⟩⟩⟩⟩⟩⟩ <;> simp at h
  rfl
theorem splitHi_sub {L : List NC} (h : L.length ≤ 6) (h6 : ¬ L.length = 6) : True := trivial
theorem splitHi_zero : ∀ (L : List NC), ∀ x ∈ splitHi 0 L, x ∈ L := by
  intro L
  rcases L with _ | ⟨c0, _ | ⟨c1, _ | ⟨c2, _ | ⟨c3, r⟩⟩⟩⟩ <;> simp [splitHi]
  exact fun a ha => .inr (.inr (.inr (.inr ha)))
theorem splitHi_risingZ {L : List NC} (h : Rising L) : Rising (splitHi 0 L) := by
  rcases L with _ | ⟨c0, _ | ⟨c1, _ | ⟨c2, _ | ⟨c3, r⟩⟩⟩⟩ <;> simp only [splitHi, if_true] <;> try exact List.Pairwise.nil
  exact (List.pairwise_cons.1 (List.pairwise_cons.1 (List.pairwise_cons.1 h).2).2).2
theorem splitHi_in {lv : Int} (hlv : ¬ lv = 0) {L : List NC} : ∀ x ∈ splitHi lv L, x ∈ L ∨ ∃ y ∈ L, x = ⟨ByteArray.empty, y.st, y.rest⟩ := by
  rcases L with _ | ⟨c0, _ | ⟨c1, _ | ⟨c2, _ | ⟨c3, r⟩⟩⟩⟩ <;> simp [splitHi, hlv]
  exact fun a ha => .inl (.inr (.inr (.inr (.inr ha))))
theorem splitHi_rising {lv : Int} (hlv : ¬ lv = 0) {L : List NC} (h : Rising L) : Rising (splitHi lv L) := by
  rcases L with _ | ⟨c0, _ | ⟨c1, _ | ⟨c2, _ | ⟨c3, r⟩⟩⟩⟩ <;> simp only [splitHi, hlv, if_false] <;> try exact List.Pairwise.nil
  have h3 := List.pairwise_cons.1 (List.pairwise_cons.1 (List.pairwise_cons.1 (List.pairwise_cons.1 h).2).2).2
  refine List.pairwise_cons.2 ⟨fun x hx => KLt.pos (fun e => ?_), h3.2⟩
  have := h3.1 x hx
  rw [e] at this
  exact KLt.empty _ this
theorem tailV_leaf {nn : Nat} {st : Int} {kp : List ByteArray} {c : NC} {t : Tr 0} {S : Vol} {m : Pg} (h6 : t.2.length ≤ 6) :
    tailV nn st 0 (stPg S t.1).n t.1 (if t.2.length = 6 then cleanL kp t.2 else t.2) c S m = (prV (putLeaf st nn kp c t S m).1, (putLeaf st nn kp c t S m).2.1, (putLeaf st nn kp c t S m).2.2) := by
  unfold tailV putLeaf
  obtain ⟨L, hL⟩ : ∃ L, (if t.2.length = 6 then cleanL kp t.2 else t.2) = L := ⟨_, rfl⟩
  have hl : L.length ≤ 6 := by
    rw [← hL]; split
    · exact Nat.le_trans (cleanL_sub kp t.2).length_le h6
    · exact h6
  simp only [hL]
  by_cases h : L.length < 6
  · rw [if_pos h, if_pos h]; rfl
  · rw [if_neg h, if_neg h]
    cases takeV nn S m with
    | none => rfl
    | some q =>
      obtain ⟨r, S1, m1⟩ := q
      simp only [if_true]
      unfold lowOf highOf sepOf
      rw [splitHi_leaf (by omega)]
      rfl
theorem leaf_tail {S : Vol} {d m : Pg} {nn : Nat} {st : Int} {t : Tr 0} {lo : ByteArray} {hi : Option ByteArray} {c : NC} (h : Pre S d m nn st 0 t lo hi c) (kp : List ByteArray) {nx : Int} (hnx : 0 ≤ nx ∧ nx < 1024) (hpg : stPg S t.1 = ndPg 0 st nx t.2) :
    TailOk nn st 0 nx t.1 (if t.2.length = 6 then cleanL kp t.2 else t.2) c S d m := by
  have hpo := putLeaf_ok h kp
  have hid := h.own t.1 (List.mem_cons_self ..)
  have hnn := h.vol.map.hi
  obtain ⟨h6, hr, hlf, -⟩ := h.tin.good
  have hlf := hlf rfl
  have h6 : t.2.length ≤ 6 := h6
  have hfl : flat (Tr.leaves 0 t) = t.2 := by
    show flat [(t.1, t.2)] = t.2
    simp [flat]
  have hfresh := h.fresh
  rw [hfl] at hfresh
  have hnxe : (stPg S t.1).n = nx := by rw [hpg]; rfl
  unfold putLeaf at hpo
  obtain ⟨L, hL⟩ : ∃ L, (if t.2.length = 6 then cleanL kp t.2 else t.2) = L := ⟨_, rfl⟩
  simp only [hL, hnxe] at hpo
  rw [hL]
  have hsub : L.Sublist t.2 := by
    rw [← hL]; split
    · exact cleanL_sub kp _
    · exact List.Sublist.refl _
  have hr0 : Rising L := hr.sublist hsub
  have hlf0 : ∀ x ∈ L, x.leaf := fun x hx => hlf x (hsub.subset hx)
  have hfr0 : ∀ x ∈ L, x.key ≠ c.key := fun x hx => hfresh x (hsub.subset hx)
  have hl := Nat.le_trans hsub.length_le h6
  refine ⟨h.vol, hl, fun x hx => (hlf0 x hx).ok, h.leaf.ok, findL_no hr0 hfr0, by omega, by omega, fun hlt => ?_, fun he r S1 m1 ht => ?_, findL_no (hr0.sublist (List.take_sublist ..)) (fun x hx => hfr0 x (List.mem_of_mem_take hx)), findL_no (splitHi_risingZ hr0) (fun x hx => hfr0 x (splitHi_zero L x hx)), fun x hx => (hlf0 x (splitHi_zero L x hx)).ok⟩
  · rw [if_pos hlt] at hpo
    exact nd_okPg (n := 0) (post_node hpo.1 _ (List.mem_singleton.2 rfl)) (by omega) h.st0 hnx
  · rw [if_neg (by omega), ht] at hpo
    have hrn := (takeV_some h.vol ht).2.2.2.1
    have n1 := post_node hpo.1 _ (List.mem_cons_self ..)
    have n2 := post_node hpo.1 _ (List.mem_cons_of_mem _ (List.mem_singleton.2 rfl))
    rw [if_pos rfl]
    refine ⟨nd_okPg (n := 0) n1 (by omega) h.st0 (by omega), ?_⟩
    unfold highOf sepOf
    rw [splitHi_leaf he]
    exact nd_okPg (n := 0) n2 (by omega) h.st0 hnx
/-- put at a leaf -/
theorem wput_zero {S : Vol} {d m : Pg} {nn : Nat} {st : Int} {t : Tr 0} {lo : ByteArray} {hi : Option ByteArray} {c : NC} (h : Pre S d m nn st 0 t lo hi c) (ka : Option Addr) (kc : Nat) (kp : List ByteArray) (root : Int) (b mb hb pb wb : Nat) (w : World) (hs : PM w wb b mb hb pb st root ka kc kp S) :
    Calls Try.prog 84 #[.pointer (some ⟨wb, 0, none⟩), .int .i64 (Tr.id 0 t), .int .i64 ((0 : Nat) : Int), .string c.key, .agg #[.int .i64 c.st, .string c.d]] w fun e w' => e = .returned (prV (putV st nn kp c 0 t S m).1) ∧ TS w w' wb b mb hb pb st root ka kc kp (putV st nn kp c 0 t S m).2.1 := by
  obtain ⟨nx, hnx, hpg⟩ := h.tin.leaves (t.1, t.2) (List.mem_cons_self ..)
  have hg := h.tin.good
  have hT := leaf_tail h kp hnx hpg
  have hV := tailV_leaf (nn := nn) (st := st) (kp := kp) (c := c) (S := S) (m := m) (t := t) hg.1
  have hnxe : (stPg S t.1).n = nx := by rw [show stPg S t.1 = ndPg 0 st nx t.2 from hpg]; rfl
  rw [hnxe] at hV
  exact wput_leaf st root t.1 nx t.2 c hg.1 (hg.2.2.1 rfl) ka kc kp b mb hb pb wb w hs
    (fun w' hs' hw' => wget_tr h.tin nx hpg b mb hb pb wb root _ w' hs' hw') hT _ _ _ hV

/-! ## inner nodes -/
theorem kidC_set {n : Nat} (K : List (ByteArray × Tr n)) (j : Nat) (hj : j < K.length) (a : Tr n) (ha : Tr.id n a = Tr.id n K[j].2) : kidC (K.set j (K[j].1, a)) = kidC K := by
  unfold kidC
  apply List.ext_getElem
  · simp
  · intro i h1 h2
    simp only [List.getElem_map, List.getElem_set]
    split
    · rename_i e; subst e; simp [ha]
    · rfl
theorem kidC_insK {n : Nat} (K : List (ByteArray × Tr n)) (sep : ByteArray) (b : Tr n) : kidC (insK K sep b) = insC (kidC K) ⟨sep, 1, le4 (Tr.id n b)⟩ := by
  unfold insK insC insL
  simp only [kidC, List.map_append, List.map_cons, List.map_take, List.map_drop]
theorem kidC_take {n : Nat} (K : List (ByteArray × Tr n)) (i : Nat) : kidC (K.take i) = (kidC K).take i := by simp [kidC, List.map_take]
theorem kidC_hi {n : Nat} {lv : Int} (hlv : ¬ lv = 0) {K : List (ByteArray × Tr n)} (h : K.length = 6) : splitHi lv (kidC K) = kidC (noKey (K.drop 3)) := by
  rcases K with _ | ⟨c0, _ | ⟨c1, _ | ⟨c2, _ | ⟨c3, _ | ⟨c4, _ | ⟨c5, _ | ⟨c6, r⟩⟩⟩⟩⟩⟩⟩ <;> simp at h
  simp [splitHi, kidC, noKey, hlv]
theorem kidC_sep {n : Nat} (K : List (ByteArray × Tr n)) : sepOf (kidC K) = ((K.drop 3).map (·.1)).headD ByteArray.empty := by
  unfold sepOf kidC
  rw [← List.map_drop]
  cases K.drop 3 <;> rfl
theorem kidC_len {n : Nat} (K : List (ByteArray × Tr n)) : (kidC K).length = K.length := by simp [kidC]
theorem tailV_node {nn : Nat} {st : Int} {n : Nat} {id : Int} {K : List (ByteArray × Tr n)} {j : Nat} (hj : j < K.length) {a b : Tr n} (ha : Tr.id n a = Tr.id n K[j].2) {sep : ByteArray} {S : Vol} {m : Pg} (h6 : K.length ≤ 6) {q : PR n × Vol × Pg} (hq : q = (.two a sep b, S, m)) :
    tailV nn st ((n + 1 : Nat) : Int) 0 id (kidC K) ⟨sep, 1, le4 (Tr.id n b)⟩ S m = (prV (putNode st nn id K j K[j].1 q).1, (putNode st nn id K j K[j].1 q).2.1, (putNode st nn id K j K[j].1 q).2.2) := by
  have hlv : ¬ ((n + 1 : Nat) : Int) = 0 := by omega
  subst hq
  unfold tailV putNode
  obtain ⟨K1, hK1⟩ : ∃ K1, K.set j (K[j].1, a) = K1 := ⟨_, rfl⟩
  have hk : kidC K = kidC K1 := by rw [← hK1, kidC_set K j hj a ha]
  have hl : K1.length = K.length := by rw [← hK1]; simp
  simp only [hK1, hk, kidC_len]
  by_cases h : K1.length < 6
  · rw [if_pos h, if_pos h, kidC_insK]; rfl
  · rw [if_neg h, if_neg h]
    cases takeV nn S m with
    | none => rfl
    | some q =>
      obtain ⟨r, S1, m1⟩ := q
      simp only [if_neg hlv]
      unfold lowOf highOf
      rw [kidC_sep, kidC_hi hlv (by omega)]
      by_cases hk2 : KLt sep (((K1.drop 3).map (·.1)).headD ByteArray.empty)
      · simp only [hk2, if_true, kidC_insK, kidC_take]; rfl
      · simp only [hk2, if_false, kidC_insK, kidC_take]; rfl
theorem pre_kid {S : Vol} {d m : Pg} {nn : Nat} {st : Int} {n : Nat} {id : Int} {K : List (ByteArray × Tr n)} {lo : ByteArray} {hi : Option ByteArray} {c : NC} (hh : Pre S d m nn st (n + 1) (mkNode id K) lo hi c) :
    ∃ hj : downL c.key (kidC K) < K.length, ∃ lo' hi', Pre S d m nn st n K[downL c.key (kidC K)].2 lo' hi' c ∧ (∀ sep, KLt lo' sep → (∀ x ∈ hi', KLt sep x) → ∀ y ∈ kidC K, y.key ≠ sep) := by
  have hgood := hh.tin.good.1
  rw [cells_mk] at hgood
  obtain ⟨h6, hr, -, hin⟩ := hgood
  obtain ⟨hin, hp0, he0⟩ := hin (by omega)
  obtain ⟨hdl, hd1, hd2⟩ := downL_spec (key := c.key) hr hp0 he0
  have hjl : downL c.key (kidC K) < K.length := by simpa [kidC] using hdl
  refine ⟨hjl, ?_⟩
  generalize downL c.key (kidC K) = j at *
  obtain ⟨x, hx⟩ : ∃ x, K[j] = x := ⟨_, rfl⟩
  have hKs := take_drop_get K j hjl
  have hjA : (K.take j).length = j := by rw [List.length_take]; omega
  rw [hx] at hKs ⊢
  have hdx : ¬ KLt c.key x.1 := by
    have := hd1
    rw [kidC_get K j hjl, hx] at this
    exact this
  have hdB : ∀ y ∈ (K.drop (j + 1)).head?, KLt c.key y.1 := by
    intro y hy
    rw [List.head?_drop] at hy
    obtain ⟨h1, h2⟩ := List.getElem?_eq_some_iff.1 hy
    have := hd2 (j + 1) (by simpa [kidC] using h1) (by omega)
    rw [kidC_get K (j + 1) h1, h2] at this
    exact this
  generalize hA : K.take j = A at *
  generalize hB : K.drop (j + 1) = B at *
  rw [rising_kids] at hr
  have he0' : K[0].1 = ByteArray.empty := (kidC_get K 0 (by omega)).symm.trans he0
  clear he0 hd1 hd2
  subst hKs
  obtain ⟨hsep, hord⟩ := (ord_node id _ lo hi).1 hh.ord
  rw [ordK_append] at hord
  have hxm : x ∈ A ++ x :: B := List.mem_append_right _ (List.mem_cons_self ..)
  have hnd := hh.nodup
  rw [ids_node] at hnd
  have hidsub : ∀ i ∈ Tr.ids n x.2, i ∈ Tr.ids (n + 1) (mkNode id (A ++ x :: B)) := fun i hi => by
    rw [ids_node]
    exact List.mem_cons_of_mem _ (List.mem_flatMap.2 ⟨x.2, List.mem_map.2 ⟨x, hxm, rfl⟩, hi⟩)
  refine ⟨if A = [] then lo else x.1, headK B hi, ⟨hh.tin.kid (t := mkNode id (A ++ x :: B)) hxm, hh.vol, ?_, fun i hi => hh.own i (hidsub i hi), hord.2.1, ⟨?_, ?_⟩, hh.wide.2 x hxm, hh.leaf, fun y hy => hh.fresh y ?_, hh.st0⟩, ?_⟩
  · have h1 := (List.nodup_cons.1 hnd).2
    have e : idsT (trees (A ++ x :: B)) = idsT (trees A) ++ (Tr.ids n x.2 ++ idsT (trees B)) := by simp [trees, idsT]
    rw [e] at h1
    exact (List.nodup_append.1 (List.nodup_append.1 h1).2.1).1
  · split
    · exact hh.inb.1
    · exact hdx
  · intro z hz
    cases B with
    | nil => exact hh.inb.2 z hz
    | cons y r =>
      cases hz
      exact hdB y (by simp)
  · rw [leaves_node]
    obtain ⟨l, hl, hyl⟩ := mem_flat.1 hy
    exact mem_flat.2 ⟨l, List.mem_flatMap.2 ⟨x.2, List.mem_map.2 ⟨x, hxm, rfl⟩, hl⟩, hyl⟩
  · intro sep h1 h2 y hy
    have hpA := List.pairwise_append.1 hr
    have hpX := List.pairwise_cons.1 hpA.2.1
    obtain ⟨z, hz, rfl⟩ := List.mem_map.1 hy
    show z.1 ≠ sep
    rcases List.mem_append.1 hz with hz | hz
    · have hne : A ≠ [] := fun e => by rw [e] at hz; simp at hz
      rw [if_neg hne] at h1
      exact ((hpA.2.2 z hz x (List.mem_cons_self ..)).trans h1).ne
    · rcases List.mem_cons.1 hz with rfl | hz
      · by_cases hne : A = []
        · subst hne
          intro e
          have e0 : z.1 = ByteArray.empty := he0'
          rw [← e, e0] at h1
          exact KLt.empty _ h1
        · rw [if_neg hne] at h1
          exact h1.ne
      · cases B with
        | nil => simp at hz
        | cons u r =>
          have hu := h2 u.1 rfl
          rcases List.mem_cons.1 hz with rfl | hz
          · exact fun e => hu.ne e.symm
          · have := (List.pairwise_cons.1 hpX.2).1 z hz
            exact fun e => (hu.trans this).ne e.symm
theorem putV_node {nn : Nat} {st : Int} {kp : List ByteArray} {c : NC} {n : Nat} {id : Int} {K : List (ByteArray × Tr n)} {S : Vol} {m : Pg} (hj : downL c.key (kidC K) < K.length) :
    putV st nn kp c (n + 1) (mkNode id K) S m = putNode st nn id K (downL c.key (kidC K)) K[downL c.key (kidC K)].1 (putV st nn kp c n K[downL c.key (kidC K)].2 S m) := by
  show (match K[downL c.key (kidC K)]? with | none => _ | some x => putNode st nn id K (downL c.key (kidC K)) x.1 (putV st nn kp c n x.2 S m)) = _
  rw [List.getElem?_eq_getElem hj]
/-- put, at any level -/
theorem wput_any {d : Pg} {nn : Nat} {st : Int} {c : NC} (ka : Option Addr) (kc : Nat) (kp : List ByteArray) (root : Int) (b mb hb pb wb : Nat) : ∀ (n : Nat) (t : Tr n) (S : Vol) (m : Pg) (lo : ByteArray) (hi : Option ByteArray), Pre S d m nn st n t lo hi c → ∀ w, PM w wb b mb hb pb st root ka kc kp S →
    Calls Try.prog 84 #[.pointer (some ⟨wb, 0, none⟩), .int .i64 (Tr.id n t), .int .i64 (n : Int), .string c.key, .agg #[.int .i64 c.st, .string c.d]] w fun e w' => e = .returned (prV (putV st nn kp c n t S m).1) ∧ TS w w' wb b mb hb pb st root ka kc kp (putV st nn kp c n t S m).2.1
  | 0, t, S, m, lo, hi, h, w, hs => wput_zero h ka kc kp root b mb hb pb wb w hs
  | n + 1, (id, K), S, m, lo, hi, h, w, hs => by
    have hh : Pre S d m nn st (n + 1) (mkNode id K) lo hi c := h
    have hpo := putV_ok kp (n + 1) (mkNode id K) S m lo hi hh
    obtain ⟨hj, lo', hi', hpre, hno⟩ := pre_kid hh
    have hgood := hh.tin.good.1
    rw [cells_mk] at hgood
    have hcells := hgood.cells
    have hgood' := hgood
    obtain ⟨h6, hr, -, hin⟩ := hgood
    obtain ⟨hin, hp0, he0⟩ := hin (by omega)
    have hlow := hh.tin.low
    have hnn := hh.vol.map.hi
    have ih := wput_any ka kc kp root b mb hb pb wb n K[downL c.key (kidC K)].2 S m lo' hi' hpre
    have hpk := putV_ok kp n K[downL c.key (kidC K)].2 S m lo' hi' hpre
    rw [putV_node hj] at hpo
    have hjl : downL c.key (kidC K) < (kidC K).length := by rw [kidC_len]; exact hj
    have hcell : (kidC K)[downL c.key (kidC K)] = ⟨K[downL c.key (kidC K)].1, 1, le4 (Tr.id n K[downL c.key (kidC K)].2)⟩ := by simp [kidC]
    have hxin := hin _ (List.getElem_mem hjl)
    rw [hcell] at hxin
    have hcid := hpre.own _ (id_mem n _)
    have hres : putV st nn kp c (n + 1) (id, K) S m = putNode st nn id K (downL c.key (kidC K)) K[downL c.key (kidC K)].1 (putV st nn kp c n K[downL c.key (kidC K)].2 S m) := putV_node hj
    rw [hres]
    have hpg : stPg S id = ndPg ((n + 1 : Nat) : Int) st 0 (kidC K) := hh.tin.inner.1
    have hgw := fun w' hs' hw' => wget_tr hh.tin 0 hpg b mb hb pb wb root (.slice ka kp.length kc) w' hs' hw'
    obtain ⟨q, hq⟩ : ∃ q, putV st nn kp c n K[downL c.key (kidC K)].2 S m = q := ⟨_, rfl⟩
    rw [hq] at ih hpk hpo ⊢
    obtain ⟨q, Sk, mk⟩ := q
    have hlv : wrap64 (((n + 1 : Nat) : Int) - 1) = (n : Int) := by unfold wrap64; omega
    have hid := hh.own id (by rw [ids_node]; exact List.mem_cons_self ..)
    have hK6 : K.length ≤ 6 := by rw [← kidC_len K]; exact h6
    have step := fun (c1 : NC) (Vk V : Value) (S' : Vol) (m' : Pg) => wput_inner (S := S) (Sk := Sk) (d := d) (m := mk) (nn := nn) ((n + 1 : Nat) : Int) (n : Int) (decide_eq_true (by omega)) hlv st root id (kidC K) h6 hcells (downL c.key (kidC K)) hjl (Tr.id n K[downL c.key (kidC K)].2) c c1 rfl 1 (tx K[downL c.key (kidC K)].1 ++ le4 (Tr.id n K[downL c.key (kidC K)].2)) (by rw [hcell]) (by rw [hcell]; rfl) (fun w' => nchild_ok 1 _ _ (by decide) hxin.2.1 (by omega) (by omega) w') ka kc kp b mb hb pb wb w hs hgw Vk V S' m'
    cases q with
    | bad => exact step c _ _ Sk mk (fun w' hs' => ih w' hs') (.inl ⟨140, .inr rfl, rfl, rfl, rfl⟩)
    | one t' => exact step c _ _ Sk mk (fun w' hs' => ih w' hs') (.inl ⟨0, .inl rfl, rfl, rfl, rfl⟩)
    | two a sep b' =>
      obtain ⟨hpk, hida, hoa, hob, hls, hsh, hs8⟩ := hpk
      have hbid := hpk.own (Tr.id n b') (by simp [id_mem])
      have hV := tailV_node (nn := nn) (st := st) (id := id) (S := Sk) (m := mk) (b := b') (sep := sep) hj hida hK6 rfl
      refine step ⟨sep, 1, le4 (Tr.id n b')⟩ _ _ _ _ (fun w' hs' => ih w' hs') (.inr ⟨Tr.id n b', rfl, by simp; omega, fun w' => ninner_ok sep _ hs8 (by omega) (by omega) w', ?_, hV⟩)
      have hfree := hno sep hls hsh
      have hlv0 : ¬ ((n + 1 : Nat) : Int) = 0 := by omega
      have hcok : (⟨sep, 1, le4 (Tr.id n b')⟩ : NC).ok := ⟨show (1 : Int) ≠ 0 by decide, hs8, by rw [le4_size]; omega⟩
      have hsep0 : sep ≠ ByteArray.empty := fun e => by rw [e] at hls; exact KLt.empty _ hls
      obtain ⟨K1, hK1⟩ : ∃ K1, K.set (downL c.key (kidC K)) (K[downL c.key (kidC K)].1, a) = K1 := ⟨_, rfl⟩
      have hk : kidC K = kidC K1 := by rw [← hK1, kidC_set K _ hj a hida]
      have hl : K1.length = K.length := by rw [← hK1]; simp
      unfold putNode at hpo
      simp only [hK1] at hpo
      refine ⟨hpk.vol, h6, hcells, hcok, findL_no hr hfree, by omega, by omega, fun hlt => ?_, fun he r S1 m1 ht => ?_, findL_no (hr.sublist (List.take_sublist ..)) (fun x hx => hfree x (List.mem_of_mem_take hx)), findL_no (splitHi_rising hlv0 hr) (fun x hx => ?_), fun x hx => ?_⟩
      · rw [kidC_len] at hlt
        rw [if_pos (by omega)] at hpo
        rw [hk, ← kidC_insK]
        exact nd_okPg (n := n + 1) (post_node hpo.1 _ (List.mem_singleton.2 rfl)) hlow hh.st0 (by omega)
      · rw [kidC_len] at he
        rw [if_neg (by omega), ht] at hpo
        have n1 := post_node hpo.1 _ (List.mem_cons_self ..)
        have n2 := post_node hpo.1 _ (List.mem_cons_of_mem _ (List.mem_singleton.2 rfl))
        rw [cells_mk] at n1 n2
        rw [if_neg hlv0, hk]
        have e1 := nd_okPg (n := n + 1) n1 hlow hh.st0 (by omega : (0 : Int) ≤ 0 ∧ (0 : Int) < 1024)
        have e2 := nd_okPg (n := n + 1) n2 hlow hh.st0 (by omega : (0 : Int) ≤ 0 ∧ (0 : Int) < 1024)
        unfold lowOf highOf
        rw [kidC_sep, kidC_hi hlv0 (by omega)]
        by_cases hk2 : KLt sep (((K1.drop 3).map (·.1)).headD ByteArray.empty)
        · simp only [hk2, if_true, kidC_insK, kidC_take] at e1 e2 ⊢; exact ⟨e1, e2⟩
        · simp only [hk2, if_false, kidC_insK, kidC_take] at e1 e2 ⊢; exact ⟨e1, e2⟩
      · rcases splitHi_in hlv0 x hx with hx | ⟨y, hy, rfl⟩
        · exact hfree x hx
        · exact fun e => hsep0 e.symm
      · rcases splitHi_in hlv0 x hx with hx | ⟨y, hy, rfl⟩
        · exact hcells x hx
        · have := hcells y hy
          exact ⟨this.1, by simp, this.2.2⟩
end Go.Proofs.Ytljommhbhpappaa
