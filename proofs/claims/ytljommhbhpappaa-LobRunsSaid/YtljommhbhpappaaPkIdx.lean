/-
  Several texts in one: Idx, TreeG, TreeS, TreeF.
-/
import Derived.Test.YtljommhbhpappaaPkTree
import Derived.Test.YtljommhbhpappaaPkPut
namespace Go.Proofs.Ytljommhbhpappaa
/-!
  A volume with one store, an index or one of objects; one stage in a law's own memory.
-/
section
open Go.RowKit Go.Joins
set_option linter.unusedVariables false
set_option linter.unusedSimpArgs false

/-- a stage in a law's own memory -/
structure One (w0 w : World) (b mb hb pb : Nat) (S : Vol) : Prop where
  low : Below w0.heap.size w0 w
  st : StageAt w b mb hb pb S
  hi : w0.heap.size ≤ mb ∧ w0.heap.size ≤ pb
theorem One.below {w0 w w' : World} {b mb hb pb : Nat} {S : Vol} (h : One w0 w b mb hb pb S) (hb2 : Below w.heap.size w w') : One w0 w' b mb hb pb S :=
  ⟨h.low.trans (hb2.mono h.low.size), h.st.below hb2 h.st.lt, h.hi⟩
theorem One.grow {w0 w w' : World} {b mb hb pb : Nat} {S S' : Vol} (h : One w0 w b mb hb pb S) (hg : w.grownBy w' (some mb)) (hs : StageAt w' b mb hb pb S') : One w0 w' b mb hb pb S' :=
  ⟨h.low.grown hg h.low.size (fun q hq => by cases hq; exact h.hi.1), hs, h.hi⟩
theorem One.alloc {w0 w : World} {b mb hb pb : Nat} {S : Vol} (h : One w0 w b mb hb pb S) (o : Obj) : One w0 (w.alloc o) b mb hb pb S := h.below ((Below.refl _ _).alloc (Nat.le_refl _) o)
theorem One.drew {w0 w : World} {b mb hb pb : Nat} {S : Vol} (h : One w0 w b mb hb pb S) : One w0 w.drew b mb hb pb S := h.below (Below.refl _ _).drew
theorem new_one (hb pb : Nat) (l : List Pg) (w0 w : World) (hB : Below w0.heap.size w0 w) (h : ShelfAt w hb pb l) (h2 : w0.heap.size ≤ pb) :
    Calls Try.prog 37 #[.iface 69 (.pointer (some ⟨hb, 0, none⟩))] w fun e w' => ∃ b mb, e = .returned (.pointer (some ⟨b, 0, none⟩)) ∧ One w0 w' b mb hb pb ⟨l, []⟩ :=
  (new_any hb pb l w h).mono fun e w' ⟨b, mb, he, hb', h3, h4, hs⟩ => by
    have := hB.size
    exact ⟨b, mb, he, hB.trans (hb'.mono hB.size), hs, by omega, h2⟩
theorem format_start (N n : Nat) (h4 : 4 ≤ n) (hn : n ≤ 1024) (b mb hb pb : Nat) (w : World) (hs : StageAt w b mb hb pb ⟨List.replicate N Pg.zero, []⟩) :
    Calls Try.prog 38 #[.pointer (some ⟨b, 0, none⟩), .int .i64 n] w fun e w' => e = .returned (.int .i64 0) ∧ w.grownBy w' (some mb) ∧ StageAt w' b mb hb pb (Vol.formed ⟨List.replicate N Pg.zero, []⟩ n) :=
  format_ok _ b mb hb pb w hs n h4 hn

/-- a volume whose first store is a tree, and nothing else -/
structure IdxOk (S : Vol) (d m : Pg) (n : Nat) (kd : Int) (N : Nat) (T : Tr N) : Prop where
  vol : VolOk S d m n
  live : d.a 0 = 1
  ent : d.d 0 = entryD kd (Tr.id N T)
  kind : kd = 2 ∨ kd = 3
  tree : TrAt S 1 N T
  bits : ∀ i : Nat, i < n → bitAt m i = (decide (i < 2) || decide ((i : Int) ∈ Tr.ids N T))
  most : ∀ i ∈ Tr.ids N T, 2 ≤ i ∧ i < n
  wide : Tr.Wide N T
theorem IdxOk.find {S : Vol} {d m : Pg} {n : Nat} {kd : Int} {N : Nat} {T : Tr N} (h : IdxOk S d m n kd N T) (b mb hb pb : Nat) (w' : World) (hs : StageAt w' b mb hb pb S) :
    Calls Try.prog 68 #[.pointer (some ⟨b, 0, none⟩), .int .i64 1] w' fun e w2 => e = .returned (.tuple #[.int .i64 kd, .int .i64 (Tr.id N T), .int .i64 1, .int .i64 0]) ∧ Below w'.heap.size w' w2 := by
  have hid := h.tree.tin.ids _ (id_mem N T)
  have hk := h.kind
  exact find_st b mb hb pb w' hs h.vol 0 (by omega) (by rw [h.live]; decide) kd (Tr.id N T) (by omega) (by omega) (by omega) (by omega) h.ent 1 rfl 1 h.live

/-- a new one -/
def I0 (N n : Nat) (kd : Int) : Vol := (Vol.formed ⟨List.replicate N Pg.zero, []⟩ n).made { k := 1 } (newMap n) 0 2 kd
def dI0 (kd : Int) : Pg := ({ k := 1 } : Pg).setC 0 1 (entryD kd 2)
theorem emptyNd (st : Int) : ({ k := 4, s := st } : Pg) = ndPg 0 st 0 [] := rfl
theorem I0_ok (N n : Nat) (kd : Int) (hkd : kd = 2 ∨ kd = 3) (h4 : 4 ≤ n) (hn : n ≤ 1024) (hN : n ≤ N) : IdxOk (I0 N n kd) (dI0 kd) (markPg (newMap n) 2 true) n kd 0 (2, []) := by
  have h0 := VolOk.new (List.replicate N Pg.zero) n [] h4 hn (by simpa using hN)
  have hkd1 : ¬ kd = 1 := by omega
  have hpg : stPg (I0 N n kd) 2 = ndPg 0 1 0 [] := by
    unfold I0 Vol.made
    rw [stPg_put, if_neg (by omega), stPg_put, if_pos (show (2 : Int) = ((2 : Nat) : Int) from rfl), if_neg hkd1]
    exact emptyNd 1
  have hse : stE (I0 N n kd) 2 = 0 := by
    unfold I0 Vol.made
    rw [stE_put, if_neg (by omega), stE_put, if_pos (show (2 : Int) = ((2 : Nat) : Int) from rfl)]
  have hkd0 : ({ k := 1 } : Pg).a 0 = 0 := rfl
  refine ⟨h0.make 0 2 kd (by omega) (by omega) (by omega), ?_, ?_, hkd, ⟨⟨trivial, ⟨by simp [Tr.cells], List.Pairwise.nil, fun _ c hc => (by cases hc), fun h => absurd rfl h⟩, ?_, ?_, by omega⟩, ?_, ?_, ?_⟩, ?_, ?_, ?_⟩
  · unfold dI0; rw [a_setC _ _ _ (by omega) (by omega), if_pos rfl]
  · unfold dI0; rw [d_setC _ _ _ (by omega) (by omega), if_pos rfl]; rfl
  · intro x hx
    have : x = ((2 : Int), ([] : List NC)) := by simpa [Tr.leaves] using hx
    subst this
    exact ⟨0, by omega, hpg⟩
  · intro i hi
    have : i = 2 := by simpa [Tr.ids] using hi
    subst this
    exact ⟨hse, by omega, by omega⟩
  · exact ⟨hpg, trivial⟩
  · simp [Tr.ids]
  · intro c hc
    cases hc
  · intro i hi
    rw [bitAt_mark _ _ _ _ (by omega) (by omega) h0.map.sz, newMap_bit _ _ (by omega)]
    simp only [Tr.ids, List.mem_cons, List.not_mem_nil, or_false]
    by_cases e : i = 2
    · subst e; simp
    · have : ¬ (i : Int) = 2 := by omega
      simp [e, this]
  · intro i hi
    have : i = 2 := by simpa [Tr.ids] using hi
    subst this
    omega
  · trivial
theorem make_start (N n : Nat) (kd : Int) (hkd : kd = 2 ∨ kd = 3) (h4 : 4 ≤ n) (hn : n ≤ 1024) (hN : n ≤ N) (b mb hb pb : Nat) (w : World) (hs : StageAt w b mb hb pb (Vol.formed ⟨List.replicate N Pg.zero, []⟩ n)) :
    Calls Try.prog 40 #[.pointer (some ⟨b, 0, none⟩), .int .i64 kd] w fun e w' => e = .returned (.tuple #[.int .i64 1, .int .i64 0]) ∧ w.grownBy w' (some mb) ∧ StageAt w' b mb hb pb (I0 N n kd) := by
  have h0 := VolOk.new (List.replicate N Pg.zero) n [] h4 hn (by simpa using hN)
  have ha : ({ k := 1 } : Pg).a 0 = 0 := rfl
  have hok := ok_setC h0.dok 0 (by omega) 1 (entryD kd (2 : Nat)) (okC_full (.inl rfl) (by rw [entry_size]; omega) (by rw [entry_size]; omega))
  refine (make_ok _ b mb hb pb { k := 1 } (newMap n) n w hs h0.dir h0.map 0 (by omega) ha (by omega) 2 (by omega) (by rw [newMap_bit _ _ (by omega)]; rfl) (fun j hj => by rw [newMap_bit _ _ (by omega)]; simp [hj]) kd hkd hok).mono ?_
  rintro e w' ⟨h1, h2, h3⟩
  refine ⟨h1, h2, ?_⟩
  unfold I0 Vol.made
  rw [if_neg (by omega)]
  exact h3
end

/-!
  Layer 16 (tree), plain law: a tree that grows by a level; a volume's tree behind a put.
-/
section
open Go.RowKit Go.Joins
set_option linter.unusedVariables false
set_option linter.unusedSimpArgs false

theorem wide_count : ∀ (n : Nat) (t : Tr n), Tr.Wide n t → 2 ^ n ≤ (Tr.leaves n t).length
  | 0, t, _ => by simp [Tr.leaves]
  | n + 1, (id, K), ⟨h1, h2⟩ => by
    have h1 : 2 ≤ K.length := h1
    have h2 : ∀ x ∈ K, Tr.Wide n x.2 := h2
    obtain ⟨x, y, r, rfl⟩ : ∃ x y r, K = x :: y :: r := by
      match K, h1 with
      | x :: y :: r, _ => exact ⟨x, y, r, rfl⟩
    have e1 := wide_count n x.2 (h2 x (by simp))
    have e2 := wide_count n y.2 (h2 y (by simp))
    show 2 ^ (n + 1) ≤ ((x :: y :: r).flatMap fun x => Tr.leaves n x.2).length
    simp only [List.flatMap_cons, List.length_append]
    rw [Nat.pow_succ]
    omega
/-- the same tree, its root's page another -/
def moveT : (n : Nat) → Tr n → Int → Tr n
  | 0, t, r => mkLeaf r t.2
  | _ + 1, t, r => mkNode r (kidsOf t)
def growV (st : Int) (nn : Nat) {n : Nat} (root : Int) (a : Tr n) (sep : ByteArray) (b : Tr n) (S : Vol) (m : Pg) : Option (Tr (n + 1) × Vol × Pg) :=
  match takeV nn S m with
  | none => none
  | some (r, S1, m1) => some (mkNode root [(ByteArray.empty, moveT n a r), (sep, b)], (S1.put r (stPg S root)).put root (ndPg (n + 1 : Nat) st 0 [⟨ByteArray.empty, 1, le4 r⟩, ⟨sep, 1, le4 (Tr.id n b)⟩]), m1)
theorem moveT_id : ∀ (n : Nat) (t : Tr n) (r : Int), Tr.id n (moveT n t r) = r
  | 0, _, _ => rfl
  | _ + 1, _, _ => rfl
theorem moveT_cells : ∀ (n : Nat) (t : Tr n) (r : Int), Tr.cells n (moveT n t r) = Tr.cells n t
  | 0, _, _ => rfl
  | _ + 1, _, _ => rfl
theorem moveT_wide : ∀ (n : Nat) (t : Tr n) (r : Int), Tr.Wide n t → Tr.Wide n (moveT n t r)
  | 0, _, _, _ => trivial
  | _ + 1, _, _, h => h
theorem moveT_good : ∀ (n : Nat) (t : Tr n) (r : Int), Tr.Good n t → Tr.Good n (moveT n t r)
  | 0, _, _, h => h
  | _ + 1, _, _, h => h
theorem moveT_ord : ∀ (n : Nat) (t : Tr n) (r : Int) (lo : ByteArray) (hi : Option ByteArray), Tr.Ord n t lo hi → Tr.Ord n (moveT n t r) lo hi
  | 0, _, _, _, _, h => h
  | _ + 1, _, _, _, _, h => h
theorem moveT_flat : ∀ (n : Nat) (t : Tr n) (r : Int), flat (Tr.leaves n (moveT n t r)) = flat (Tr.leaves n t)
  | 0, t, r => rfl
  | _ + 1, _, _ => rfl
/-- the other pages of a tree -/
def restIds : (n : Nat) → Tr n → List Int
  | 0, _ => []
  | n + 1, t => idsT (trees (kidsOf t))
theorem ids_cons : ∀ (n : Nat) (t : Tr n), Tr.ids n t = Tr.id n t :: restIds n t
  | 0, t => rfl
  | n + 1, (id, K) => ids_node id K
theorem moveT_rest : ∀ (n : Nat) (t : Tr n) (r : Int), restIds n (moveT n t r) = restIds n t
  | 0, _, _ => rfl
  | _ + 1, _, _ => rfl
theorem moveT_tin {S S2 : Vol} {st : Int} : ∀ {n : Nat} {t : Tr n} (r : Int), TrIn S st n t → 1 ≤ r → r < 1024 → stE S2 r = 0 → stPg S2 r = stPg S (Tr.id n t) → (∀ i ∈ restIds n t, stPg S2 i = stPg S i ∧ stE S2 i = stE S i) → TrIn S2 st n (moveT n t r)
  | 0, (id, L), r, h, h1, h2, h3, h4, h5 => by
    refine ⟨trivial, h.good, fun x hx => ?_, fun i hi => ?_, h.low⟩
    · obtain rfl : x = (r, L) := by simpa [moveT, tr0_leaf] using hx
      obtain ⟨nx, hn, hp⟩ := h.leaves (id, L) (List.mem_cons_self ..)
      exact ⟨nx, hn, h4.trans hp⟩
    · obtain rfl : i = r := by simpa [moveT, tr0_ids] using hi
      exact ⟨h3, h1, h2⟩
  | n + 1, (id, K), r, h, h1, h2, h3, h4, h5 => by
    have hkid : ∀ y ∈ K, TrIn S2 st n y.2 := fun y hy => by
      have ht : TrIn S st n y.2 := h.kid (t := mkNode id K) hy
      exact ht.frame fun i hi => h5 i (List.mem_flatMap.2 ⟨y.2, List.mem_map.2 ⟨y, hy, rfl⟩, hi⟩)
    refine ⟨⟨h4.trans h.inner.1, fun y hy => (hkid y hy).inner⟩, h.good, fun x hx => ?_, fun i hi => ?_, h.low⟩
    · obtain ⟨y, hy, hx⟩ := List.mem_flatMap.1 hx
      exact (hkid y hy).leaves x hx
    · have hi' : i ∈ r :: K.flatMap (fun x => Tr.ids n x.2) := hi
      rcases List.mem_cons.1 hi' with rfl | hi'
      · exact ⟨h3, h1, h2⟩
      · obtain ⟨y, hy, hi'⟩ := List.mem_flatMap.1 hi'
        exact (hkid y hy).ids i hi'
theorem moveT_leaves : ∀ (n : Nat) (t : Tr n) (r : Int), (n = 0 ∧ ∃ L, Tr.leaves n t = [(Tr.id n t, L)] ∧ Tr.leaves n (moveT n t r) = [(r, L)]) ∨ (Tr.leaves n (moveT n t r) = Tr.leaves n t ∧ ∀ x ∈ Tr.leaves n t, x.1 ∈ restIds n t)
  | 0, (id, L), r => .inl ⟨rfl, L, rfl, rfl⟩
  | n + 1, (id, K), r => .inr ⟨rfl, fun x hx => by
    obtain ⟨y, hy, hx⟩ := List.mem_flatMap.1 hx
    exact List.mem_flatMap.2 ⟨y.2, List.mem_map.2 ⟨y, hy, rfl⟩, leaf_ids hx⟩⟩

/-- what has become of the cells -/
structure FlatPut (F F' : List NC) (c : NC) (kp : List ByteArray) : Prop where
  memc : c ∈ F'
  back : ∀ x ∈ F', x = c ∨ x ∈ F
  kept : ∀ x ∈ F, x.st = 1 ∨ x.key ∈ kp → x ∈ F'
theorem IdxOk.pre {S : Vol} {d m : Pg} {nn : Nat} {kd : Int} {N : Nat} {T : Tr N} (h : IdxOk S d m nn kd N T) {c : NC} (hc : c.leaf) (hf : ∀ x ∈ flat (Tr.leaves N T), x.key ≠ c.key) : Pre S d m nn 1 N T ByteArray.empty none c :=
  ⟨h.tree.tin, h.vol, h.tree.nodup, fun i hi => by
    have h1 := h.most i hi
    refine ⟨h1.1, h1.2, ?_⟩
    rw [h.bits i.toNat (by omega), Int.toNat_of_nonneg (by omega)]
    simp [hi], h.tree.ord, ⟨KLt.empty _, fun z hz => by cases hz⟩, h.wide, hc, hf, by omega⟩
theorem IdxOk.few {S : Vol} {d m : Pg} {nn : Nat} {kd : Int} {N : Nat} {T : Tr N} (h : IdxOk S d m nn kd N T) : N ≤ 9 := by
  have h1 := wide_count N T h.wide
  have h2 := h.tree.leaves_few
  by_cases hN : N ≤ 9
  · exact hN
  · have : 2 ^ 10 ≤ 2 ^ N := Nat.pow_le_pow_right (by omega) (by omega)
    omega
theorem idx_of {S S' : Vol} {d m m' : Pg} {nn : Nat} {kd : Int} {N N' : Nat} {T : Tr N} {T' : Tr N'} (h : IdxOk S d m nn kd N T) (hv : VolOk S' d m' nn) (hid : Tr.id N' T' = Tr.id N T) (ht : TrAt S' 1 N' T') (hw : Tr.Wide N' T')
    (hold : ∀ i ∈ Tr.ids N T, i ∈ Tr.ids N' T') (hown : ∀ i ∈ Tr.ids N' T', 2 ≤ i ∧ i < nn ∧ bitAt m' i.toNat = true) (hmono : ∀ i : Nat, i < nn → bitAt m i = true → bitAt m' i = true)
    (hbits : ∀ i : Nat, i < nn → bitAt m' i = true → bitAt m i = true ∨ (i : Int) ∈ Tr.ids N' T') : IdxOk S' d m' nn kd N' T' := by
  refine ⟨hv, h.live, by rw [hid]; exact h.ent, h.kind, ht, fun i hi => ?_, fun i hi => ⟨(hown i hi).1, (hown i hi).2.1⟩, hw⟩
  rw [Bool.eq_iff_iff, Bool.or_eq_true, decide_eq_true_eq, decide_eq_true_eq]
  constructor
  · intro hb
    rcases hbits i hi hb with e | e
    · rw [h.bits i hi, Bool.or_eq_true, decide_eq_true_eq, decide_eq_true_eq] at e
      rcases e with e | e
      · exact .inl e
      · exact .inr (hold _ e)
    · exact .inr e
  · rintro (e | e)
    · refine hmono i hi ?_
      rw [h.bits i hi]; simp [e]
    · have := (hown _ e).2.2
      rwa [Int.toNat_natCast] at this
theorem post_one {n : Nat} (t : Tr n) : [t].flatMap (Tr.ids n) = Tr.ids n t ∧ [t].flatMap (Tr.leaves n) = Tr.leaves n t := by simp
theorem post_two {n : Nat} (a b : Tr n) : [a, b].flatMap (Tr.ids n) = Tr.ids n a ++ Tr.ids n b ∧ [a, b].flatMap (Tr.leaves n) = Tr.leaves n a ++ Tr.leaves n b := by simp

theorem idx_one {S S' : Vol} {d m m' : Pg} {nn : Nat} {kd : Int} {N : Nat} {T T' : Tr N} {c : NC} {kp : List ByteArray} (h : IdxOk S d m nn kd N T) (hp : Post S m S' m' d nn 1 N T [T'] c kp) (hid : Tr.id N T' = Tr.id N T) (ho : Tr.Ord N T' ByteArray.empty none) :
    IdxOk S' d m' nn kd N T' ∧ FlatPut (flat (Tr.leaves N T)) (flat (Tr.leaves N T')) c kp := by
  have e := post_one T'
  have o1 := hp.own; have o2 := hp.old; have o3 := hp.bits; have o4 := hp.nodup; have o5 := hp.chain; have o6 := hp.memc; have o7 := hp.back; have o8 := hp.kept
  rw [e.1] at o1 o2 o3 o4
  rw [e.2] at o5 o6 o7 o8
  have ht := hp.tin T' (List.mem_cons_self ..)
  exact ⟨idx_of h hp.vol hid ⟨ht, o5 0 h.tree.chain, o4, ho⟩ (hp.wide T' (List.mem_cons_self ..)) o2 o1 hp.mono o3, ⟨o6, o7, o8⟩⟩

theorem idx_grow {S S' S2 : Vol} {d m m' m2 : Pg} {nn : Nat} {kd : Int} {N : Nat} {T a b : Tr N} {sep : ByteArray} {c : NC} {kp : List ByteArray} {T2 : Tr (N + 1)} (h : IdxOk S d m nn kd N T) (hp : Post S m S' m' d nn 1 N T [a, b] c kp) (hid : Tr.id N a = Tr.id N T)
    (hoa : Tr.Ord N a ByteArray.empty (some sep)) (hob : Tr.Ord N b sep none) (hlt : KLt ByteArray.empty sep) (hs8 : sep.size ≤ 8) (hg : growV 1 nn (Tr.id N T) a sep b S' m' = some (T2, S2, m2)) :
    IdxOk S2 d m2 nn kd (N + 1) T2 ∧ FlatPut (flat (Tr.leaves N T)) (flat (Tr.leaves (N + 1) T2)) c kp ∧ Tr.id (N + 1) T2 = Tr.id N T ∧
      ∀ Q : Vol → Prop, (∀ (V : Vol) (id : Int) (p : Pg), Q V → 1 ≤ id → id < (nn : Int) → okPg p = true → Q (V.put id p)) → Q S' → Q S2 := by
  have e := post_two a b
  have o1 := hp.own; have o2 := hp.old; have o3 := hp.bits; have o4 := hp.nodup; have o5 := hp.chain; have o6 := hp.memc; have o7 := hp.back; have o8 := hp.kept; have o9 := hp.new
  rw [e.1] at o1 o2 o3 o4 o9
  rw [e.2] at o5 o6 o7 o8
  have hN := h.few
  have hta := hp.tin a (List.mem_cons_self ..)
  have htb := hp.tin b (List.mem_cons_of_mem _ (List.mem_cons_self ..))
  have hwa := hp.wide a (List.mem_cons_self ..)
  have hwb := hp.wide b (List.mem_cons_of_mem _ (List.mem_cons_self ..))
  have hnn := h.vol.map.hi
  unfold growV at hg
  cases htk : takeV nn S' m' with
  | none => rw [htk] at hg; cases hg
  | some q =>
    obtain ⟨r, S1, m1⟩ := q
    obtain ⟨rfl, rfl, hr2, hrn, hrf, -, hv1, hbt⟩ := takeV_some hp.vol htk
    rw [htk] at hg
    simp only [Option.some.injEq, Prod.mk.injEq] at hg
    obtain ⟨rfl, rfl, rfl⟩ := hg
    obtain ⟨root, hroot⟩ : ∃ root, Tr.id N T = root := ⟨_, rfl⟩
    rw [hroot] at hid ⊢
    have hda := ids_cons N a
    rw [hid] at hda
    rw [hda, List.cons_append] at o4
    obtain ⟨n1, n2⟩ := List.nodup_cons.1 o4
    have hrootA : root ∈ Tr.ids N a ++ Tr.ids N b := by rw [hda]; simp
    have hro := o1 root hrootA
    have hrall : ∀ i ∈ Tr.ids N a ++ Tr.ids N b, i ≠ (r : Int) := fun i hi e => by
      have := (o1 i hi).2.2
      rw [e, Int.toNat_natCast, hrf] at this; cases this
    have hrr : (r : Int) ≠ root := fun e => hrall root hrootA e.symm
    have hrest : ∀ i ∈ restIds N a ++ Tr.ids N b, i ≠ root ∧ i ≠ (r : Int) ∧ 2 ≤ i := fun i hi => by
      have hm : i ∈ Tr.ids N a ++ Tr.ids N b := by rw [hda]; exact List.mem_cons_of_mem _ hi
      exact ⟨fun e => n1 (e ▸ hi), hrall i hm, (o1 i hm).1⟩
    obtain ⟨top, htop⟩ : ∃ top, ndPg ((N + 1 : Nat) : Int) 1 0 [⟨ByteArray.empty, 1, le4 r⟩, ⟨sep, 1, le4 (Tr.id N b)⟩] = top := ⟨_, rfl⟩
    have hkk : kidC [(ByteArray.empty, moveT N a r), (sep, b)] = [⟨ByteArray.empty, 1, le4 r⟩, ⟨sep, 1, le4 (Tr.id N b)⟩] := by simp [kidC, moveT_id]
    have hibn := htb.ids _ (id_mem N b)
    have hno : NodeOk (N + 1) (kidC [(ByteArray.empty, moveT N a r), (sep, b)]) := by
      refine node_kids (by simp) (by simp) rfl (List.pairwise_cons.2 ⟨fun z hz => ?_, by simp⟩) (fun y hy => ?_)
      · obtain rfl : z = (sep, b) := by simpa using hz
        exact hlt
      · rcases List.mem_cons.1 hy with rfl | hy
        · exact ⟨by simp, by rw [moveT_id]; omega, by rw [moveT_id]; omega⟩
        · obtain rfl : y = (sep, b) := by simpa using hy
          exact ⟨hs8, hibn.2⟩
    have hokt : okPg top = true := by
      rw [← htop, ← hkk]
      exact nd_okPg hno (by omega) (by omega) (by omega)
    obtain ⟨pa, hpa⟩ : ∃ pa, stPg S' root = pa := ⟨_, rfl⟩
    have hoka : okPg pa = true := by
      obtain ⟨nx, hnx, hpp⟩ : ∃ nx, (0 ≤ nx ∧ nx < 1024) ∧ stPg S' root = ndPg (N : Int) 1 nx (Tr.cells N a) := by
        rw [← hid]
        cases N with
        | zero =>
          obtain ⟨nx, h1, h2⟩ := hta.leaves (a.1, a.2) (List.mem_cons_self ..)
          exact ⟨nx, h1, h2⟩
        | succ n => exact ⟨0, by omega, hta.inner.1⟩
      rw [← hpa, hpp]
      exact nd_okPg hta.good.node hta.low (by omega) hnx
    rw [htop, hpa]
    obtain ⟨S2, hS2⟩ : ∃ S2, ((S'.put 1 (markPg m' r true)).put r pa).put root top = S2 := ⟨_, rfl⟩
    rw [hS2]
    have hpr : stPg S2 root = top := by rw [← hS2, stPg_put, if_pos rfl]
    have hpr2 : stPg S2 r = pa := by rw [← hS2, stPg_put, if_neg hrr, stPg_put, if_pos rfl]
    have hpo : ∀ i, i ≠ root → i ≠ (r : Int) → i ≠ 1 → stPg S2 i = stPg S' i := fun i h1 h2 h3 => by rw [← hS2, stPg_put, if_neg h1, stPg_put, if_neg h2, stPg_put, if_neg h3]
    have hse : ∀ i, stE S' i = 0 → stE S2 i = 0 := fun i hi => by
      rw [← hS2, stE_put]; split
      · rfl
      · rw [stE_put]; split
        · rfl
        · rw [stE_put]; split
          · rfl
          · exact hi
    have hser : stE S2 r = 0 := by rw [← hS2, stE_put, if_neg hrr, stE_put, if_pos rfl]
    have hv2 : VolOk S2 d (markPg m' r true) nn := by rw [← hS2]; exact (hv1.put r pa (by omega)).put root top hro.1
    have hta2 : TrIn S2 1 N (moveT N a r) := moveT_tin r hta (by omega) (by omega) hser (by rw [hid, hpr2, hpa]) (fun i hi => by
      obtain ⟨q1, q2, q3⟩ := hrest i (List.mem_append_left _ hi)
      have hz := (hta.ids i (by rw [hda]; exact List.mem_cons_of_mem _ hi)).1
      exact ⟨hpo i q1 q2 (by omega), (hse i hz).trans hz.symm⟩)
    have htb2 : TrIn S2 1 N b := htb.frame fun i hi => by
      obtain ⟨q1, q2, q3⟩ := hrest i (List.mem_append_right _ hi)
      have hz := (htb.ids i hi).1
      exact ⟨hpo i q1 q2 (by omega), (hse i hz).trans hz.symm⟩
    have hTids : Tr.ids (N + 1) (mkNode root [(ByteArray.empty, moveT N a r), (sep, b)]) = root :: ((r : Int) :: restIds N a ++ Tr.ids N b) := by
      rw [ids_node]
      simp [trees, idsT, ids_cons N (moveT N a r), moveT_id, moveT_rest]
    have hTlv : Tr.leaves (N + 1) (mkNode root [(ByteArray.empty, moveT N a r), (sep, b)]) = Tr.leaves N (moveT N a r) ++ Tr.leaves N b := by
      rw [leaves_node]; simp [trees, lvsT]
    have hfl : flat (Tr.leaves (N + 1) (mkNode root [(ByteArray.empty, moveT N a r), (sep, b)])) = flat (Tr.leaves N a ++ Tr.leaves N b) := by
      rw [hTlv, flat_append, flat_append, moveT_flat]
    have htin : TrIn S2 1 (N + 1) (mkNode root [(ByteArray.empty, moveT N a r), (sep, b)]) := by
      have hk : ∀ y ∈ [(ByteArray.empty, moveT N a r), (sep, b)], TrIn S2 1 N y.2 := fun y hy => by
        rcases List.mem_cons.1 hy with rfl | hy
        · exact hta2
        · obtain rfl : y = (sep, b) := by simpa using hy
          exact htb2
      refine ⟨⟨?_, fun y hy => (hk y hy).inner⟩, ⟨hno, fun y hy => (hk y hy).good⟩, fun x hx => ?_, fun i hi => ?_, by omega⟩
      · rw [cells_mk, hkk, htop]
        exact hpr
      · obtain ⟨y, hy, hx⟩ := List.mem_flatMap.1 hx
        exact (hk y hy).leaves x hx
      · have hi' : i ∈ root :: [(ByteArray.empty, moveT N a r), (sep, b)].flatMap (fun x => Tr.ids N x.2) := hi
        rcases List.mem_cons.1 hi' with rfl | hi'
        · exact ⟨hse _ (hta.ids i (by rw [hda]; exact List.mem_cons_self ..)).1, by omega, by omega⟩
        · obtain ⟨y, hy, hi'⟩ := List.mem_flatMap.1 hi'
          exact (hk y hy).ids i hi'
    have hch := o5 0 h.tree.chain
    rw [LeafAll.split] at hch
    have hch2 : LeafAll S2 1 (Tr.leaves N (moveT N a r) ++ Tr.leaves N b) 0 := by
      rw [LeafAll.split]
      refine ⟨?_, leafAll_frame (fun x hx => ?_) hch.2⟩
      · rcases moveT_leaves N a r with ⟨-, L, e1, e2⟩ | ⟨e1, e2⟩
        · rw [e1] at hch
          rw [e2]
          refine ⟨?_, trivial⟩
          have := hch.1.1
          rw [hid] at this
          show stPg S2 r = _
          rw [hpr2, ← hpa, this]
        · rw [e1]
          refine leafAll_frame (fun x hx => ?_) hch.1
          obtain ⟨q1, q2, q3⟩ := hrest x.1 (List.mem_append_left _ (e2 x hx))
          exact hpo _ q1 q2 (by omega)
      · obtain ⟨q1, q2, q3⟩ := hrest x.1 (List.mem_append_right _ (leaf_ids hx))
        exact hpo _ q1 q2 (by omega)
    have hbm : ∀ i, i < nn → bitAt (markPg m' r true) i = (if i = r then true else bitAt m' i) := hbt
    refine ⟨idx_of h hv2 (show root = _ from hroot.symm) ⟨htin, by rw [hTlv]; exact hch2, ?_, ?_⟩ ⟨by simp [kids_mk], fun y hy => ?_⟩ ?_ ?_ ?_ ?_, ?_, rfl, ?_⟩
    · rw [hTids]
      refine List.nodup_cons.2 ⟨?_, List.nodup_cons.2 ⟨?_, n2⟩⟩
      · intro hi
        rcases List.mem_cons.1 hi with e | e
        · exact hrr e.symm
        · exact n1 e
      · intro hi
        exact (hrest _ hi).2.1 rfl
    · refine (ord_node root _ _ none).2 ⟨fun y hy => ?_, ?_⟩
      · obtain rfl : y = (sep, b) := by simpa using hy
        exact ⟨hlt, fun z hz => by cases hz⟩
      · exact ⟨moveT_ord N a r _ _ hoa, hob, trivial⟩
    · rw [kids_mk] at hy
      rcases List.mem_cons.1 hy with rfl | hy
      · exact moveT_wide N a r hwa
      · obtain rfl : y = (sep, b) := by simpa using hy
        exact hwb
    · rw [hTids]
      intro i hi
      have := o2 i hi
      rw [hda, List.cons_append] at this
      rcases List.mem_cons.1 this with rfl | e
      · exact List.mem_cons_self ..
      · exact List.mem_cons_of_mem _ (List.mem_cons_of_mem _ e)
    · rw [hTids]
      intro i hi
      rcases List.mem_cons.1 hi with rfl | hi
      · refine ⟨hro.1, hro.2.1, ?_⟩
        rw [hbm _ (by omega)]; split
        · rfl
        · exact hro.2.2
      · have hi' : i ∈ (r : Int) :: (restIds N a ++ Tr.ids N b) := hi
        rcases List.mem_cons.1 hi' with rfl | hi'
        · exact ⟨by omega, by omega, by rw [Int.toNat_natCast, hbm _ hrn, if_pos rfl]⟩
        · have ho := o1 i (by rw [hda]; exact List.mem_cons_of_mem _ hi')
          refine ⟨ho.1, ho.2.1, ?_⟩
          rw [hbm _ (by omega)]; split
          · rfl
          · exact ho.2.2
    · intro i hi hb
      rw [hbm i hi]; split
      · rfl
      · exact hp.mono i hi hb
    · rw [hTids]
      intro i hi hb
      rw [hbm i hi] at hb
      by_cases e : i = r
      · subst e; right; simp
      · rw [if_neg e] at hb
        rcases o3 i hi hb with q | q
        · exact .inl q
        · right
          rw [hda, List.cons_append] at q
          rcases List.mem_cons.1 q with q | q
          · rw [q]; exact List.mem_cons_self ..
          · exact List.mem_cons_of_mem _ (List.mem_cons_of_mem _ q)
    · rw [show flat (Tr.leaves (N + 1) (mkNode root [(ByteArray.empty, moveT N a r), (sep, b)])) = flat (Tr.leaves N a ++ Tr.leaves N b) from hfl]
      exact ⟨o6, o7, o8⟩
    · intro Q hQ h0
      rw [← hS2]
      exact hQ _ _ _ (hQ _ _ _ (hQ _ _ _ h0 (by omega) (by omega) hv1.map.ok) (by omega) (by omega) hoka) (by omega) (by omega) hokt
end

/-!
  Layer 16 (tree), plain law: one cell of a leaf is laid anew.
-/
section
open Go.RowKit Go.Joins
set_option linter.unusedVariables false
set_option linter.unusedSimpArgs false

def setC (c : NC) (L : List NC) : List NC := L.map fun x => if x.key = c.key then c else x
theorem setC_keys (c : NC) (L : List NC) : (setC c L).map (·.key) = L.map (·.key) := by
  unfold setC
  rw [List.map_map]
  refine List.map_congr_left fun x _ => ?_
  show (if x.key = c.key then c else x).key = x.key
  split
  · rename_i e; exact e.symm
  · rfl
theorem setC_rising {c : NC} {L : List NC} (h : Rising L) : Rising (setC c L) := by
  have h1 : (L.map (·.key)).Pairwise KLt := List.pairwise_map.2 h
  rw [← setC_keys c L] at h1
  exact List.pairwise_map.1 h1
theorem setC_len (c : NC) (L : List NC) : (setC c L).length = L.length := by simp [setC]
theorem setC_none {c : NC} {L : List NC} (h : ∀ x ∈ L, x.key ≠ c.key) : setC c L = L := by
  unfold setC
  conv => rhs; rw [← List.map_id L]
  refine List.map_congr_left fun x hx => ?_
  rw [if_neg (h x hx)]; rfl
theorem setC_mem {c : NC} {L : List NC} {x : NC} (h : x ∈ setC c L) : x = c ∨ (x ∈ L ∧ x.key ≠ c.key) := by
  obtain ⟨y, hy, e⟩ := List.mem_map.1 h
  split at e
  · exact .inl e.symm
  · rename_i hn; subst e; exact .inr ⟨hy, hn⟩
theorem setC_node {c : NC} (hc : c.leaf) {L : List NC} (h : NodeOk 0 L) : NodeOk 0 (setC c L) := by
  obtain ⟨h6, hr, h0, h1⟩ := h
  refine ⟨by rw [setC_len]; exact h6, setC_rising hr, fun _ x hx => ?_, fun h => absurd rfl h⟩
  rcases setC_mem hx with rfl | hx
  · exact hc
  · exact h0 rfl x hx.1
theorem setC_append (c : NC) (A B : List NC) : setC c (A ++ B) = setC c A ++ setC c B := by simp [setC]
theorem setC_at {c : NC} {L : List NC} (hr : Rising L) (i : Nat) (hi : i < L.length) (hk : L[i].key = c.key) : setC c L = L.set i c := by
  apply List.ext_getElem
  · simp [setC]
  · intro j h1 h2
    rw [List.getElem_set]
    have hj : j < L.length := by simpa [setC] using h1
    have e0 : (setC c L)[j] = if L[j].key = c.key then c else L[j] := by simp [setC]
    rw [e0]
    by_cases e : i = j
    · subst e; rw [if_pos hk, if_pos rfl]
    · rw [if_neg e, if_neg]
      intro e2
      rcases Nat.lt_or_gt_of_ne e with hlt | hlt
      · have := List.pairwise_iff_getElem.1 hr i j hi hj hlt
        rw [hk, e2] at this
        exact KLt.irrefl _ this
      · have := List.pairwise_iff_getElem.1 hr j i hj hi hlt
        rw [hk, e2] at this
        exact KLt.irrefl _ this
def setT (c : NC) : (n : Nat) → Tr n → Tr n
  | 0, t => mkLeaf t.1 (setC c t.2)
  | n + 1, t => mkNode t.1 ((kidsOf t).map fun x => (x.1, setT c n x.2))
theorem setT_id (c : NC) : ∀ (n : Nat) (t : Tr n), Tr.id n (setT c n t) = Tr.id n t
  | 0, _ => rfl
  | _ + 1, _ => rfl
theorem setT_cells (c : NC) (n : Nat) (t : Tr (n + 1)) : Tr.cells (n + 1) (setT c (n + 1) t) = Tr.cells (n + 1) t := by
  show kidC ((kidsOf t).map fun x => (x.1, setT c n x.2)) = kidC (kidsOf t)
  unfold kidC
  rw [List.map_map]
  refine List.map_congr_left fun x _ => ?_
  show (⟨x.1, 1, le4 (Tr.id n (setT c n x.2))⟩ : NC) = _
  rw [setT_id]
theorem setT_kids (c : NC) (n : Nat) (t : Tr (n + 1)) : kidsOf (setT c (n + 1) t) = (kidsOf t).map fun x => (x.1, setT c n x.2) := rfl
theorem setT_ids (c : NC) : ∀ (n : Nat) (t : Tr n), Tr.ids n (setT c n t) = Tr.ids n t
  | 0, _ => rfl
  | n + 1, t => by
    show t.1 :: ((kidsOf t).map fun x => (x.1, setT c n x.2)).flatMap (fun x => Tr.ids n x.2) = t.1 :: (kidsOf t).flatMap fun x => Tr.ids n x.2
    rw [List.flatMap_map]
    congr 2
    funext x
    exact setT_ids c n x.2
theorem setT_leaves (c : NC) : ∀ (n : Nat) (t : Tr n), Tr.leaves n (setT c n t) = (Tr.leaves n t).map fun x => (x.1, setC c x.2)
  | 0, _ => rfl
  | n + 1, t => by
    show ((kidsOf t).map fun x => (x.1, setT c n x.2)).flatMap (fun x => Tr.leaves n x.2) = ((kidsOf t).flatMap fun x => Tr.leaves n x.2).map _
    rw [List.flatMap_map, List.map_flatMap]
    congr 1
    funext x
    exact setT_leaves c n x.2
theorem flat_setC (c : NC) : ∀ l : List (Int × List NC), flat (l.map fun x => (x.1, setC c x.2)) = setC c (flat l)
  | [] => rfl
  | x :: r => by
    rw [List.map_cons, flat_cons, flat_cons, setC_append, flat_setC c r]
theorem setT_flat (c : NC) (n : Nat) (t : Tr n) : flat (Tr.leaves n (setT c n t)) = setC c (flat (Tr.leaves n t)) := by
  rw [setT_leaves, flat_setC]
theorem setT_wide (c : NC) : ∀ (n : Nat) (t : Tr n), Tr.Wide n t → Tr.Wide n (setT c n t)
  | 0, _, _ => trivial
  | n + 1, t, ⟨h1, h2⟩ => ⟨by rw [setT_kids, List.length_map]; exact h1, fun x hx => by
    rw [setT_kids] at hx
    obtain ⟨y, hy, rfl⟩ := List.mem_map.1 hx
    exact setT_wide c n y.2 (h2 y hy)⟩
theorem setT_good {c : NC} (hc : c.leaf) : ∀ (n : Nat) (t : Tr n), Tr.Good n t → Tr.Good n (setT c n t)
  | 0, _, h => setC_node hc h
  | n + 1, t, ⟨h1, h2⟩ => ⟨by rw [setT_cells]; exact h1, fun x hx => by
    rw [setT_kids] at hx
    obtain ⟨y, hy, rfl⟩ := List.mem_map.1 hx
    exact setT_good hc n y.2 (h2 y hy)⟩
theorem setT_ord (c : NC) : ∀ (n : Nat) (t : Tr n) (lo : ByteArray) (hi : Option ByteArray), Tr.Ord n t lo hi → Tr.Ord n (setT c n t) lo hi
  | 0, t, lo, hi, h => fun x hx => by
    have hk : x.key ∈ (setC c t.2).map (·.key) := List.mem_map.2 ⟨x, hx, rfl⟩
    rw [setC_keys] at hk
    obtain ⟨y, hy, e⟩ := List.mem_map.1 hk
    rw [← e]
    exact h y hy
  | n + 1, t, lo, hi, ⟨h1, h2⟩ => by
    have hl : (kidsOf (setT c (n + 1) t)).length = (kidsOf t).length := by rw [setT_kids, List.length_map]
    refine ⟨fun i hi' h0 => ?_, fun i hi' => ?_⟩
    · have := h1 i (by omega) h0
      simpa [setT_kids] using this
    · have h3 := setT_ord c n _ _ _ (h2 i (by omega))
      simp only [setT_kids, List.getElem_map, List.length_map]
      exact h3
theorem setT_inner {S : Vol} {st id : Int} {p : Pg} (c : NC) (hl : (stPg S id).l = 0) : ∀ (n : Nat) (t : Tr n), Tr.Inner S st n t → Tr.Inner (S.put id p) st n (setT c n t)
  | 0, _, _ => trivial
  | n + 1, t, ⟨h1, h2⟩ => by
    have hne : t.1 ≠ id := fun e => by
      rw [← e, h1] at hl
      have : ((n + 1 : Nat) : Int) = 0 := hl
      omega
    refine ⟨?_, fun x hx => ?_⟩
    · rw [setT_cells]
      show stPg (S.put id p) t.1 = _
      rw [stPg_put, if_neg hne]
      exact h1
    · rw [setT_kids] at hx
      obtain ⟨y, hy, rfl⟩ := List.mem_map.1 hx
      exact setT_inner c hl n y.2 (h2 y hy)

/-- a cell of a key's leaf laid anew -/
structure SetOk (S : Vol) (d m : Pg) (nn : Nat) (kd : Int) (N : Nat) (T : Tr N) (c : NC) (id nx : Int) (L : List NC) : Prop where
  idx : IdxOk (S.put id (ndPg 0 1 nx (setC c L))) d m nn kd N (setT c N T)
  flat : flat (Tr.leaves N (setT c N T)) = setC c (flat (Tr.leaves N T))
  ok : okPg (ndPg 0 1 nx (setC c L)) = true
  page : stPg S id = ndPg 0 1 nx L
  se : stE S id = 0
  id2 : 2 ≤ id
  idn : id < nn
  node : NodeOk 0 L
theorem leaf_in {S : Vol} {d m : Pg} {nn : Nat} {kd : Int} {N : Nat} {T : Tr N} (h : IdxOk S d m nn kd N T) (key : ByteArray) :
    ∃ pre post, Tr.leaves N T = pre ++ Tr.leaf key N T :: post ∧ (∀ x ∈ pre, ∀ c ∈ x.2, KLt c.key key) ∧ (∀ x ∈ post, ∀ c ∈ x.2, KLt key c.key) ∧ (∀ x ∈ pre ++ post, x.1 ≠ (Tr.leaf key N T).1) := by
  obtain ⟨pre, post, h1, h2, h3⟩ := leaf_split (key := key) N T _ _ h.tree.tin.good h.tree.ord
  refine ⟨pre, post, h1, h2, h3, ?_⟩
  have hn := h.tree.nodup.sublist (leaves_sub N T)
  rw [h1, List.map_append, List.map_cons] at hn
  have hn2 := List.nodup_append.1 hn
  have hn3 := List.nodup_cons.1 hn2.2.1
  intro x hx e
  rcases List.mem_append.1 hx with hx | hx
  · exact hn2.2.2 _ (List.mem_map.2 ⟨x, hx, rfl⟩) _ (List.mem_cons_self ..) e
  · exact hn3.1 (List.mem_map.2 ⟨x, hx, e⟩)
theorem setT_ok {S : Vol} {d m : Pg} {nn : Nat} {kd : Int} {N : Nat} {T : Tr N} (h : IdxOk S d m nn kd N T) {c : NC} (hc : c.leaf) :
    SetOk S d m nn kd N T c (Tr.leaf c.key N T).1 (stPg S (Tr.leaf c.key N T).1).n (Tr.leaf c.key N T).2 := by
  obtain ⟨pre, post, h1, h2, h3, h4⟩ := leaf_in h c.key
  obtain ⟨lf, hlf⟩ : ∃ lf, Tr.leaf c.key N T = lf := ⟨_, rfl⟩
  rw [hlf] at h1 h4 ⊢
  obtain ⟨id, L⟩ := lf
  have hmem : (id, L) ∈ Tr.leaves N T := by rw [h1]; simp
  obtain ⟨nx, hnx, hpg⟩ := h.tree.tin.leaves _ hmem
  have hpg : stPg S id = ndPg 0 1 nx L := hpg
  have hnxe : (stPg S id).n = nx := by rw [hpg]; rfl
  rw [hnxe]
  have hidm : id ∈ Tr.ids N T := leaf_ids hmem
  obtain ⟨hn, hse, -⟩ := h.tree.leafOk _ hmem
  have hn : NodeOk 0 L := hn
  have hse : stE S id = 0 := hse
  have hmost := h.most id hidm
  have hnn := h.vol.map.hi
  obtain ⟨p, hp⟩ : ∃ p, ndPg 0 1 nx (setC c L) = p := ⟨_, rfl⟩
  have hok : okPg p = true := by rw [← hp]; exact nd_okPg (n := 0) (setC_node hc hn) (by omega) (by omega) hnx
  have hl : (stPg S id).l = 0 := by rw [hpg]; rfl
  have hpre : ∀ x ∈ pre, setC c x.2 = x.2 := fun x hx => setC_none fun y hy => (h2 x hx y hy).ne
  have hpost : ∀ x ∈ post, setC c x.2 = x.2 := fun x hx => setC_none fun y hy e => (h3 x hx y hy).ne e.symm
  have hlv : Tr.leaves N (setT c N T) = pre ++ (id, setC c L) :: post := by
    rw [setT_leaves, h1, List.map_append, List.map_cons]
    congr 1
    · conv => rhs; rw [← List.map_id pre]
      refine List.map_congr_left fun x hx => ?_
      rw [hpre x hx]; rfl
    · congr 1
      conv => rhs; rw [← List.map_id post]
      refine List.map_congr_left fun x hx => ?_
      rw [hpost x hx]; rfl
  have hpo : ∀ i, i ≠ id → stPg (S.put id p) i = stPg S i := fun i hi => by rw [stPg_put, if_neg hi]
  have hpi : stPg (S.put id p) id = p := by rw [stPg_put, if_pos rfl]
  refine ⟨?_, setT_flat c N T, by rw [hp]; exact hok, hpg, hse, hmost.1, hmost.2, hn⟩
  rw [hp]
  have hids := setT_ids c N T
  have htin : TrIn (S.put id p) 1 N (setT c N T) := by
    refine ⟨setT_inner c hl N T h.tree.tin.inner, setT_good hc N T h.tree.tin.good, fun x hx => ?_, fun i hi => ?_, h.tree.tin.low⟩
    · rw [hlv] at hx
      rcases List.mem_append.1 hx with hx | hx
      · obtain ⟨nx', g1, g2⟩ := h.tree.tin.leaves x (by rw [h1]; exact List.mem_append_left _ hx)
        exact ⟨nx', g1, (hpo _ (h4 x (List.mem_append_left _ hx))).trans g2⟩
      · rcases List.mem_cons.1 hx with rfl | hx
        · exact ⟨nx, hnx, hpi.trans hp.symm⟩
        · obtain ⟨nx', g1, g2⟩ := h.tree.tin.leaves x (by rw [h1]; exact List.mem_append_right _ (List.mem_cons_of_mem _ hx))
          exact ⟨nx', g1, (hpo _ (h4 x (List.mem_append_right _ hx))).trans g2⟩
    · rw [hids] at hi
      have := h.tree.tin.ids i hi
      refine ⟨?_, this.2⟩
      rw [stE_put]; split
      · rfl
      · exact this.1
  refine ⟨h.vol.put id p hmost.1, h.live, by rw [setT_id]; exact h.ent, h.kind, ⟨htin, ?_, by rw [hids]; exact h.tree.nodup, setT_ord c N T _ _ h.tree.ord⟩, fun i hi => by rw [hids]; exact h.bits i hi, fun i hi => by rw [hids] at hi; exact h.most i hi, setT_wide c N T h.wide⟩
  have hch := h.tree.chain
  rw [h1, LeafAll.split] at hch
  rw [hlv, LeafAll.split]
  refine ⟨leafAll_frame (fun x hx => hpo _ (h4 x (List.mem_append_left _ hx))) hch.1, ?_, leafAll_frame (fun x hx => hpo _ (h4 x (List.mem_append_right _ hx))) hch.2.2⟩
  have e1 : stPg S id = ndPg 0 1 (nextOf post 0) L := hch.2.1
  have e2 : nx = nextOf post 0 := by rw [← hnxe, e1]; rfl
  rw [← e2]
  exact hpi.trans hp.symm
/-- the page, cell for cell -/
theorem nd_set (lv st nx : Int) (L : List NC) (i : Nat) (hi : i < L.length) (h6 : L.length ≤ 6) (c : NC) : (ndPg lv st nx L).setC i c.st c.d = ndPg lv st nx (L.set i c) := by
  have hh := h_setC (ndPg lv st nx L) i (by omega) c.st c.d
  refine pg_eq ⟨hh.1, hh.2.1, hh.2.2.1, hh.2.2.2⟩ (fun x hx => ?_) (fun x hx => ?_)
  · rw [a_setC _ _ _ (by omega) hx, nd_a _ _ _ _ _ hx, nd_a _ _ _ _ _ hx]
    by_cases e : x = i
    · subst e
      rw [if_pos rfl]
      unfold stL; rw [List.getElem?_set_self hi]
    · rw [if_neg e]
      exact stL_of (List.getElem?_set_ne (Ne.symm e)).symm
  · rw [d_setC _ _ _ (by omega) hx, nd_d _ _ _ _ _ hx, nd_d _ _ _ _ _ hx]
    by_cases e : x = i
    · subst e
      rw [if_pos rfl]
      unfold dL; rw [List.getElem?_set_self hi]
    · rw [if_neg e]
      exact dL_of (List.getElem?_set_ne (Ne.symm e)).symm
/-- a key that is there -/
theorem find_there {L : List NC} {key : ByteArray} (hr : Rising L) : ((findL key L 0).2 = true ∧ ∃ h : (findL key L 0).1 < L.length, L[(findL key L 0).1].key = key) ∨ ((findL key L 0).2 = false ∧ ∀ x ∈ L, x.key ≠ key) := by
  obtain ⟨j, h1, h2, h3, h4, h5⟩ := findL_spec (key := key) (i := 0) hr
  rw [Nat.zero_add] at h1
  rw [h1]
  cases hb : (findL key L 0).2 with
  | true =>
    rw [hb] at h5
    exact .inl ⟨rfl, h5.1 rfl⟩
  | false =>
    refine .inr ⟨rfl, fun x hx e => ?_⟩
    obtain ⟨k, hk, rfl⟩ := List.mem_iff_getElem.1 hx
    by_cases hkj : k < j
    · exact (h3 k hk hkj).ne e
    · have hjl : j < L.length := by omega
      by_cases hjk : j = k
      · subst hjk
        rw [hb] at h5
        have := h5.2 ⟨hk, e⟩
        cases this
      · have := List.pairwise_iff_getElem.1 hr j k hjl hk (by omega)
        rw [e] at this
        exact h4 j hjl (Nat.le_refl _) this
/-- a key stands in its leaf or nowhere -/
theorem leaf_there {S : Vol} {d m : Pg} {nn : Nat} {kd : Int} {N : Nat} {T : Tr N} (h : IdxOk S d m nn kd N T) {key : ByteArray} {x : NC} (hx : x ∈ flat (Tr.leaves N T)) (hk : x.key = key) : x ∈ (Tr.leaf key N T).2 := by
  obtain ⟨pre, post, h1, h2, h3, -⟩ := leaf_in h key
  rw [h1, flat_append, flat_cons] at hx
  rcases List.mem_append.1 hx with hx | hx
  · obtain ⟨l, hl, hx⟩ := mem_flat.1 hx
    exact absurd hk (h2 l hl x hx).ne
  · rcases List.mem_append.1 hx with hx | hx
    · exact hx
    · obtain ⟨l, hl, hx⟩ := mem_flat.1 hx
      exact absurd hk.symm (h3 l hl x hx).ne
theorem leaf_flat {S : Vol} {d m : Pg} {nn : Nat} {kd : Int} {N : Nat} {T : Tr N} (h : IdxOk S d m nn kd N T) {key : ByteArray} {x : NC} (hx : x ∈ (Tr.leaf key N T).2) : x ∈ flat (Tr.leaves N T) := by
  obtain ⟨pre, post, h1, -⟩ := leaf_in h key
  rw [h1, flat_append, flat_cons]
  exact List.mem_append_right _ (List.mem_append_left _ hx)
end

/-!
  Layer 16 (tree), plain law: free pages, and how many pages a tree takes.
-/
section
open Go.RowKit Go.Joins
set_option linter.unusedVariables false
set_option linter.unusedSimpArgs false

def freeC (nn : Nat) (m : Pg) : Nat := ((List.range nn).filter fun i => !bitAt m i).length
theorem filter_one {α : Type} [DecidableEq α] (f g : α → Bool) : ∀ (L : List α) (r : α), L.Nodup → r ∈ L → f r = true → g r = false → (∀ i ∈ L, i ≠ r → g i = f i) → (L.filter g).length + 1 = (L.filter f).length
  | [], r, _, h, _, _, _ => by cases h
  | a :: L, r, hn, h, hf, hg, hi => by
    obtain ⟨n1, n2⟩ := List.nodup_cons.1 hn
    by_cases e : a = r
    · subst e
      have : L.filter g = L.filter f := List.filter_congr fun i hiL => hi i (List.mem_cons_of_mem _ hiL) (fun e => n1 (e ▸ hiL))
      rw [List.filter_cons, List.filter_cons, hf, hg, this]; simp
    · have hr : r ∈ L := by
        rcases List.mem_cons.1 h with e' | h
        · exact absurd e'.symm e
        · exact h
      have ih := filter_one f g L r n2 hr hf hg (fun i hiL hne => hi i (List.mem_cons_of_mem _ hiL) hne)
      have ha := hi a (List.mem_cons_self ..) e
      rw [List.filter_cons, List.filter_cons, ha]
      cases f a <;> simp <;> omega
theorem take_free {nn : Nat} {S : Vol} {d m : Pg} (h : VolOk S d m nn) {r : Nat} {S1 : Vol} {m1 : Pg} (ht : takeV nn S m = some (r, S1, m1)) : freeC nn m1 + 1 = freeC nn m := by
  obtain ⟨-, -, h2, hlt, hf, -, -, hb⟩ := takeV_some h ht
  unfold freeC
  refine filter_one (fun i => !bitAt m i) (fun i => !bitAt m1 i) (List.range nn) r List.nodup_range (by simpa using hlt) (by simp [hf]) (by simp [hb r hlt]) (fun i hi hne => ?_)
  simp only [hb i (by simpa using hi), if_neg hne]
theorem take_none_free {nn : Nat} {S : Vol} {m : Pg} (ht : takeV nn S m = none) : freeC nn m = 0 := by
  have h := takeV_none ht
  unfold freeC
  rw [List.length_eq_zero_iff, List.filter_eq_nil_iff]
  intro i hi
  simp [h i (by simpa using hi)]
theorem count_in {α : Type} [DecidableEq α] : ∀ (L X : List α), L.Nodup → (L.filter fun i => decide (i ∈ X)).length ≤ X.length
  | [], X, _ => by simp
  | a :: L, X, hn => by
    obtain ⟨n1, n2⟩ := List.nodup_cons.1 hn
    by_cases e : a ∈ X
    · have h1 : L.filter (fun i => decide (i ∈ X)) = L.filter fun i => decide (i ∈ X.erase a) := List.filter_congr fun i hi => by
        have : i ≠ a := fun e => n1 (e ▸ hi)
        simp [List.mem_erase_of_ne this]
      have ih := count_in L (X.erase a) n2
      have hl := List.length_erase_of_mem e
      have hp : 0 < X.length := List.length_pos_of_mem e
      rw [List.filter_cons]
      simp only [e, decide_true, if_true, List.length_cons, h1]
      omega
    · rw [List.filter_cons]
      simp only [e, decide_false, Bool.false_eq_true, if_false]
      exact count_in L X n2
theorem filter_not {α : Type} (f : α → Bool) : ∀ L : List α, (L.filter fun i => !f i).length + (L.filter f).length = L.length
  | [] => rfl
  | a :: L => by
    have ih := filter_not f L
    rw [List.filter_cons, List.filter_cons]
    cases f a <;> simp <;> omega
theorem IdxOk.free {S : Vol} {d m : Pg} {nn : Nat} {kd : Int} {N : Nat} {T : Tr N} (h : IdxOk S d m nn kd N T) : nn ≤ freeC nn m + 2 + (Tr.ids N T).length := by
  have h1 := filter_not (fun i => bitAt m i) (List.range nn)
  rw [List.length_range] at h1
  have h2 : (List.range nn).filter (fun i => bitAt m i) = (List.range nn).filter fun i => decide (i ∈ 0 :: 1 :: (Tr.ids N T).map Int.toNat) := List.filter_congr fun i hi => by
    rw [h.bits i (by simpa using hi), Bool.eq_iff_iff]
    simp only [Bool.or_eq_true, decide_eq_true_eq, List.mem_cons, List.mem_map]
    constructor
    · rintro (e | e)
      · rcases i with _ | _ | i
        · exact .inl rfl
        · exact .inr (.inl rfl)
        · omega
      · exact .inr (.inr ⟨_, e, by simp⟩)
    · rintro (rfl | rfl | ⟨j, hj, e⟩)
      · exact .inl (by omega)
      · exact .inl (by omega)
      · have := h.most j hj
        refine .inr ?_
        rw [← e, Int.toNat_of_nonneg (by omega)]; exact hj
  have h3 := count_in (List.range nn) (0 :: 1 :: (Tr.ids N T).map Int.toNat) List.nodup_range
  rw [← h2] at h3
  simp only [List.length_cons, List.length_map] at h3
  unfold freeC
  omega
theorem ids_len : ∀ (n : Nat) (t : Tr n), Tr.Wide n t → (Tr.ids n t).length + 1 ≤ 2 * (Tr.leaves n t).length
  | 0, t, _ => by simp [Tr.ids, Tr.leaves]
  | n + 1, t, ⟨h1, h2⟩ => by
    have key : ∀ K : List (ByteArray × Tr n), (∀ x ∈ K, Tr.Wide n x.2) → (K.flatMap fun x => Tr.ids n x.2).length + K.length ≤ 2 * (K.flatMap fun x => Tr.leaves n x.2).length := by
      intro K
      induction K with
      | nil => intro _; simp
      | cons x r ih =>
        intro h
        have a1 := ids_len n x.2 (h x (List.mem_cons_self ..))
        have a2 := ih (fun y hy => h y (List.mem_cons_of_mem _ hy))
        simp only [List.flatMap_cons, List.length_append, List.length_cons]
        omega
    have := key (kidsOf t) h2
    show (t.1 :: (kidsOf t).flatMap fun x => Tr.ids n x.2).length + 1 ≤ 2 * ((kidsOf t).flatMap fun x => Tr.leaves n x.2).length
    rw [List.length_cons]
    omega
/-! ## a weight of the leaves -/
def loadT (l : List (Int × List NC)) : Nat := (l.map fun x => max x.2.length 3).sum
theorem loadT_append (a b : List (Int × List NC)) : loadT (a ++ b) = loadT a + loadT b := by simp [loadT]
theorem loadT_len (l : List (Int × List NC)) : 3 * l.length ≤ loadT l := by
  induction l with
  | nil => simp [loadT]
  | cons x r ih =>
    have : loadT (x :: r) = max x.2.length 3 + loadT r := by simp [loadT]
    rw [this, List.length_cons]
    omega
def loadK {n : Nat} (K : List (ByteArray × Tr n)) : Nat := loadT (K.flatMap fun x => Tr.leaves n x.2)
theorem loadK_append {n : Nat} (A B : List (ByteArray × Tr n)) : loadK (A ++ B) = loadK A + loadK B := by simp [loadK, loadT_append]
theorem loadK_cons {n : Nat} (x : ByteArray × Tr n) (B : List (ByteArray × Tr n)) : loadK (x :: B) = loadT (Tr.leaves n x.2) + loadK B := by simp [loadK, loadT_append]
theorem loadK_set {n : Nat} : ∀ (K : List (ByteArray × Tr n)) (j : Nat) (hj : j < K.length) (y : ByteArray × Tr n), loadK (K.set j y) + loadT (Tr.leaves n K[j].2) = loadK K + loadT (Tr.leaves n y.2)
  | [], j, hj, _ => by simp at hj
  | x :: r, 0, _, y => by simp only [List.set_cons_zero, loadK_cons, List.getElem_cons_zero]; omega
  | x :: r, j + 1, hj, y => by
    have ih := loadK_set r j (by simpa using hj) y
    simp only [List.set_cons_succ, loadK_cons, List.getElem_cons_succ]
    omega
theorem loadK_split {n : Nat} (K : List (ByteArray × Tr n)) (i : Nat) : loadK K = loadK (K.take i) + loadK (K.drop i) := by rw [← loadK_append, List.take_append_drop]
theorem loadK_insK {n : Nat} (K : List (ByteArray × Tr n)) (sep : ByteArray) (b : Tr n) : loadK (insK K sep b) = loadK K + loadT (Tr.leaves n b) := by
  unfold insK
  rw [loadK_append, loadK_cons, loadK_split K (findL sep (kidC K) 0).1]
  simp only
  omega
theorem loadK_noKey {n : Nat} (K : List (ByteArray × Tr n)) : loadK (noKey K) = loadK K := by
  cases K with
  | nil => rfl
  | cons x r => rfl
def loadR {n : Nat} : PR n → Nat
  | .bad => 0
  | .one t => loadT (Tr.leaves n t)
  | .two a _ b => loadT (Tr.leaves n a) + loadT (Tr.leaves n b)
theorem loadT_leaf (id : Int) (L : List NC) : loadT (Tr.leaves 0 (mkLeaf id L)) = max L.length 3 := by simp [loadT, tr0_leaf]
theorem load_mk {n : Nat} (id : Int) (K : List (ByteArray × Tr n)) : loadT (Tr.leaves (n + 1) (mkNode id K)) = loadK K := rfl
theorem putV_load {nn : Nat} {st : Int} {kp : List ByteArray} {c : NC} : ∀ (n : Nat) (t : Tr n) (S : Vol) (m : Pg), loadR (putV st nn kp c n t S m).1 ≤ loadT (Tr.leaves n t) + 1
  | 0, t, S, m => by
    have hl : loadT (Tr.leaves 0 t) = max t.2.length 3 := by
      show loadT [(t.1, t.2)] = _
      simp [loadT]
    rw [hl]
    show loadR (putLeaf st nn kp c t S m).1 ≤ _
    unfold putLeaf
    obtain ⟨L, hL⟩ : ∃ L, (if t.2.length = 6 then cleanL kp t.2 else t.2) = L := ⟨_, rfl⟩
    have hsub : L.length ≤ t.2.length := by
      rw [← hL]; split
      · exact (cleanL_sub kp _).length_le
      · exact Nat.le_refl _
    simp only [hL]
    by_cases h : L.length < 6
    · rw [if_pos h]
      show loadT (Tr.leaves 0 (mkLeaf t.1 (insC L c))) ≤ _
      rw [loadT_leaf, insC_len]
      omega
    · rw [if_neg h]
      cases takeV nn S m with
      | none => exact Nat.zero_le _
      | some q =>
        obtain ⟨r, S1, m1⟩ := q
        simp only [loadR, loadT_leaf]
        by_cases hk : KLt c.key ((L.drop 3).headD ⟨ByteArray.empty, 0, ByteArray.empty⟩).key
        · simp only [hk, if_true, insC_len, List.length_take, List.length_drop]; omega
        · simp only [hk, if_false, insC_len, List.length_take, List.length_drop]; omega
  | n + 1, (id, K), S, m => by
    show loadR (putV st nn kp c (n + 1) (mkNode id K) S m).1 ≤ loadK K + 1
    show loadR (match K[downL c.key (kidC K)]? with | none => ((.bad, S, m) : PR (n + 1) × Vol × Pg) | some x => putNode st nn id K (downL c.key (kidC K)) x.1 (putV st nn kp c n x.2 S m)).1 ≤ _
    cases hx : K[downL c.key (kidC K)]? with
    | none => exact Nat.zero_le _
    | some x =>
      obtain ⟨hj, hx⟩ := List.getElem?_eq_some_iff.1 hx
      have ih := putV_load (nn := nn) (st := st) (kp := kp) (c := c) n x.2 S m
      generalize downL c.key (kidC K) = j at *
      simp only
      obtain ⟨q, hq⟩ : ∃ q, putV st nn kp c n x.2 S m = q := ⟨_, rfl⟩
      rw [hq] at ih ⊢
      obtain ⟨q, S1, m1⟩ := q
      unfold putNode
      cases q with
      | bad => exact Nat.zero_le _
      | one t' =>
        have := loadK_set K j hj (x.1, t')
        rw [hx] at this
        simp only [loadR] at ih ⊢
        simp only at this
        rw [load_mk]
        omega
      | two a sep b =>
        have h1 := loadK_set K j hj (x.1, a)
        rw [hx] at h1
        simp only [loadR] at ih
        simp only
        generalize K.set j (x.1, a) = K1 at *
        by_cases h : K1.length < 6
        · rw [if_pos h]
          simp only [loadR]
          rw [load_mk, loadK_insK]
          simp only at h1
          omega
        · rw [if_neg h]
          cases takeV nn S1 m1 with
          | none => exact Nat.zero_le _
          | some y =>
            obtain ⟨r, S2, m2⟩ := y
            have h2 := loadK_split K1 3
            simp only [loadR, load_mk]
            simp only at h1
            by_cases hk : KLt sep (((K1.drop 3).map (·.1)).headD ByteArray.empty)
            · simp only [hk, if_true, loadK_insK, loadK_noKey]; omega
            · simp only [hk, if_false, loadK_insK, loadK_noKey]; omega
end
end Go.Proofs.Ytljommhbhpappaa
