/-
  A tree at any place of a volume's directory: what holds of it (GxOk), and what a put leaves alone (Fr).
-/
import Derived.Test.YtljommhbhpappaaGreatPkIdx
namespace Go.Proofs.YtljommhbhpappaaGreat
open Go.RowKit Go.Joins
set_option linter.unusedVariables false
set_option linter.unusedSimpArgs false

/-- a volume that has a tree as its store st -/
structure GxOk (S : Vol) (d m : Pg) (nn : Nat) (kd st : Int) (N : Nat) (T : Tr N) : Prop where
  vol : VolOk S d m nn
  slot : ∃ k : Nat, k < 6 ∧ st = (k : Int) + 1 ∧ d.a k = 1 ∧ d.d k = entryD kd (Tr.id N T)
  kind : kd = 2 ∨ kd = 3
  tree : TrAt S st N T
  own : ∀ i ∈ Tr.ids N T, 2 ≤ i ∧ i < nn ∧ bitAt m i.toNat = true
  wide : Tr.Wide N T
theorem GxOk.st16 {S : Vol} {d m : Pg} {nn : Nat} {kd st : Int} {N : Nat} {T : Tr N} (h : GxOk S d m nn kd st N T) : 1 ≤ st ∧ st ≤ 6 := by
  obtain ⟨k, h1, h2, -⟩ := h.slot
  omega
theorem GxOk.find {S : Vol} {d m : Pg} {nn : Nat} {kd st : Int} {N : Nat} {T : Tr N} (h : GxOk S d m nn kd st N T) (b mb hb pb : Nat) (w' : World) (hs : StageAt w' b mb hb pb S) :
    Calls Tryz.prog 30 #[.pointer (some ⟨b, 0, none⟩), .int .i64 st] w' fun e w2 => e = .returned (.tuple #[.int .i64 kd, .int .i64 (Tr.id N T), .int .i64 1, .int .i64 0]) ∧ Below w'.heap.size w' w2 := by
  have hid := h.tree.tin.ids _ (id_mem N T)
  have hk := h.kind
  obtain ⟨k, h1, h2, h3, h4⟩ := h.slot
  exact find_st b mb hb pb w' hs h.vol k h1 (by rw [h3]; decide) kd (Tr.id N T) (by omega) (by omega) (by omega) (by omega) h4 st h2 1 h3
theorem GxOk.pre {S : Vol} {d m : Pg} {nn : Nat} {kd st : Int} {N : Nat} {T : Tr N} (h : GxOk S d m nn kd st N T) {c : NC} (hc : c.leaf) (hf : ∀ x ∈ flat (Tr.leaves N T), x.key ≠ c.key) : Pre S d m nn st N T ByteArray.empty none c :=
  ⟨h.tree.tin, h.vol, h.tree.nodup, h.own, h.tree.ord, ⟨KLt.empty _, fun z hz => by cases hz⟩, h.wide, hc, hf, by have := h.st16; omega⟩
theorem GxOk.few {S : Vol} {d m : Pg} {nn : Nat} {kd st : Int} {N : Nat} {T : Tr N} (h : GxOk S d m nn kd st N T) : N ≤ 9 := by
  have h1 := wide_count N T h.wide
  have h2 := h.tree.leaves_few
  by_cases hN : N ≤ 9
  · exact hN
  · have : 2 ^ 10 ≤ 2 ^ N := Nat.pow_le_pow_right (by omega) (by omega)
    omega
theorem gx_of {S S' : Vol} {d m m' : Pg} {nn : Nat} {kd st : Int} {N N' : Nat} {T : Tr N} {T' : Tr N'} (h : GxOk S d m nn kd st N T) (hv : VolOk S' d m' nn) (hid : Tr.id N' T' = Tr.id N T) (ht : TrAt S' st N' T') (hw : Tr.Wide N' T')
    (hown : ∀ i ∈ Tr.ids N' T', 2 ≤ i ∧ i < nn ∧ bitAt m' i.toNat = true) : GxOk S' d m' nn kd st N' T' := by
  obtain ⟨k, h1, h2, h3, h4⟩ := h.slot
  exact ⟨hv, ⟨k, h1, h2, h3, by rw [hid]; exact h4⟩, h.kind, ht, hown, hw⟩
/-- what a change of one store leaves alone: its pages were I, and are I' -/
structure Fr (S : Vol) (m : Pg) (S' : Vol) (m' : Pg) (nn : Nat) (I I' : List Int) : Prop where
  old : ∀ i ∈ I, i ∈ I'
  new : ∀ i ∈ I', i ∈ I ∨ bitAt m i.toNat = false
  page : ∀ i, i ∉ I' → i ≠ 1 → stPg S' i = stPg S i
  ses : ∀ i, stE S i = 0 → stE S' i = 0
  bit : ∀ i : Nat, i < nn → bitAt m' i = true → bitAt m i = true ∨ (i : Int) ∈ I'
  mono : ∀ i : Nat, i < nn → bitAt m i = true → bitAt m' i = true
theorem gx_one {S S' : Vol} {d m m' : Pg} {nn : Nat} {kd st : Int} {N : Nat} {T T' : Tr N} {c : NC} {kp : List ByteArray} (h : GxOk S d m nn kd st N T) (hp : Post S m S' m' d nn st N T [T'] c kp) (hid : Tr.id N T' = Tr.id N T) (ho : Tr.Ord N T' ByteArray.empty none) :
    GxOk S' d m' nn kd st N T' ∧ Fr S m S' m' nn (Tr.ids N T) (Tr.ids N T') ∧ FlatPut (flat (Tr.leaves N T)) (flat (Tr.leaves N T')) c kp := by
  have e := post_one T'
  have o1 := hp.own; have o2 := hp.old; have o3 := hp.bits; have o4 := hp.nodup; have o5 := hp.chain; have o6 := hp.memc; have o7 := hp.back; have o8 := hp.kept; have o9 := hp.new; have p1 := hp.frame
  rw [e.1] at o1 o2 o3 o4 o9 p1
  rw [e.2] at o5 o6 o7 o8
  have ht := hp.tin T' (List.mem_cons_self ..)
  exact ⟨gx_of h hp.vol hid ⟨ht, o5 0 h.tree.chain, o4, ho⟩ (hp.wide T' (List.mem_cons_self ..)) o1, ⟨o2, o9, p1, hp.ses, o3, hp.mono⟩, ⟨o6, o7, o8⟩⟩

theorem gx_grow {S S' S2 : Vol} {d m m' m2 : Pg} {nn : Nat} {kd st : Int} {N : Nat} {T a b : Tr N} {sep : ByteArray} {c : NC} {kp : List ByteArray} {T2 : Tr (N + 1)} (h : GxOk S d m nn kd st N T) (hp : Post S m S' m' d nn st N T [a, b] c kp) (hid : Tr.id N a = Tr.id N T)
    (hoa : Tr.Ord N a ByteArray.empty (some sep)) (hob : Tr.Ord N b sep none) (hlt : KLt ByteArray.empty sep) (hs8 : sep.size ≤ 8) (hg : growV st nn (Tr.id N T) a sep b S' m' = some (T2, S2, m2)) :
    GxOk S2 d m2 nn kd st (N + 1) T2 ∧ Fr S m S2 m2 nn (Tr.ids N T) (Tr.ids (N + 1) T2) ∧ FlatPut (flat (Tr.leaves N T)) (flat (Tr.leaves (N + 1) T2)) c kp ∧ Tr.id (N + 1) T2 = Tr.id N T ∧
      ∀ Q : Vol → Prop, (∀ (V : Vol) (id : Int) (p : Pg), Q V → 1 ≤ id → id < (nn : Int) → okPg p = true → Q (V.put id p)) → Q S' → Q S2 := by
  have e := post_two a b
  have o1 := hp.own; have o2 := hp.old; have o3 := hp.bits; have o4 := hp.nodup; have o5 := hp.chain; have o6 := hp.memc; have o7 := hp.back; have o8 := hp.kept; have o9 := hp.new; have p1 := hp.frame
  rw [e.1] at o1 o2 o3 o4 o9 p1
  rw [e.2] at o5 o6 o7 o8
  have hN := h.few
  have hst := h.st16
  have hta := hp.tin a (List.mem_cons_self ..)
  have htb := hp.tin b (List.mem_cons_of_mem _ (List.mem_cons_self ..))
  have hwa := hp.wide a (List.mem_cons_self ..)
  have hwb := hp.wide b (List.mem_cons_of_mem _ (List.mem_cons_self ..))
  have hnn := h.vol.map.hi
  unfold growV at hg
  cases htk : takeV nn S' m' with
  | none => rw [htk] at hg; cases hg
  | some q =>
    obtain ⟨r, S1, m1⟩ := q
    obtain ⟨rfl, rfl, hr2, hrn, hrf, -, hv1, hbt⟩ := takeV_some hp.vol htk
    rw [htk] at hg
    simp only [Option.some.injEq, Prod.mk.injEq] at hg
    obtain ⟨rfl, rfl, rfl⟩ := hg
    obtain ⟨root, hroot⟩ : ∃ root, Tr.id N T = root := ⟨_, rfl⟩
    rw [hroot] at hid ⊢
    have hda := ids_cons N a
    rw [hid] at hda
    rw [hda, List.cons_append] at o4
    obtain ⟨n1, n2⟩ := List.nodup_cons.1 o4
    have hrootA : root ∈ Tr.ids N a ++ Tr.ids N b := by rw [hda]; simp
    have hro := o1 root hrootA
    have hrall : ∀ i ∈ Tr.ids N a ++ Tr.ids N b, i ≠ (r : Int) := fun i hi e => by
      have := (o1 i hi).2.2
      rw [e, Int.toNat_natCast, hrf] at this; cases this
    have hrr : (r : Int) ≠ root := fun e => hrall root hrootA e.symm
    have hrest : ∀ i ∈ restIds N a ++ Tr.ids N b, i ≠ root ∧ i ≠ (r : Int) ∧ 2 ≤ i := fun i hi => by
      have hm : i ∈ Tr.ids N a ++ Tr.ids N b := by rw [hda]; exact List.mem_cons_of_mem _ hi
      exact ⟨fun e => n1 (e ▸ hi), hrall i hm, (o1 i hm).1⟩
    obtain ⟨top, htop⟩ : ∃ top, ndPg ((N + 1 : Nat) : Int) st 0 [⟨ByteArray.empty, 1, le4 r⟩, ⟨sep, 1, le4 (Tr.id N b)⟩] = top := ⟨_, rfl⟩
    have hkk : kidC [(ByteArray.empty, moveT N a r), (sep, b)] = [⟨ByteArray.empty, 1, le4 r⟩, ⟨sep, 1, le4 (Tr.id N b)⟩] := by simp [kidC, moveT_id]
    have hibn := htb.ids _ (id_mem N b)
    have hno : NodeOk (N + 1) (kidC [(ByteArray.empty, moveT N a r), (sep, b)]) := by
      refine node_kids (by simp) (by simp) rfl (List.pairwise_cons.2 ⟨fun z hz => ?_, by simp⟩) (fun y hy => ?_)
      · obtain rfl : z = (sep, b) := by simpa using hz
        exact hlt
      · rcases List.mem_cons.1 hy with rfl | hy
        · exact ⟨by simp, by rw [moveT_id]; omega, by rw [moveT_id]; omega⟩
        · obtain rfl : y = (sep, b) := by simpa using hy
          exact ⟨hs8, hibn.2⟩
    have hokt : okPg top = true := by
      rw [← htop, ← hkk]
      exact nd_okPg hno (by omega) (by omega) (by omega)
    obtain ⟨pa, hpa⟩ : ∃ pa, stPg S' root = pa := ⟨_, rfl⟩
    have hoka : okPg pa = true := by
      obtain ⟨nx, hnx, hpp⟩ : ∃ nx, (0 ≤ nx ∧ nx < 1024) ∧ stPg S' root = ndPg (N : Int) st nx (Tr.cells N a) := by
        rw [← hid]
        cases N with
        | zero =>
          obtain ⟨nx, h1, h2⟩ := hta.leaves (a.1, a.2) (List.mem_cons_self ..)
          exact ⟨nx, h1, h2⟩
        | succ n => exact ⟨0, by omega, hta.inner.1⟩
      rw [← hpa, hpp]
      exact nd_okPg hta.good.node hta.low (by omega) hnx
    rw [htop, hpa]
    obtain ⟨S2, hS2⟩ : ∃ S2, ((S'.put 1 (markPg m' r true)).put r pa).put root top = S2 := ⟨_, rfl⟩
    rw [hS2]
    have hpr : stPg S2 root = top := by rw [← hS2, stPg_put, if_pos rfl]
    have hpr2 : stPg S2 r = pa := by rw [← hS2, stPg_put, if_neg hrr, stPg_put, if_pos rfl]
    have hpo : ∀ i, i ≠ root → i ≠ (r : Int) → i ≠ 1 → stPg S2 i = stPg S' i := fun i h1 h2 h3 => by rw [← hS2, stPg_put, if_neg h1, stPg_put, if_neg h2, stPg_put, if_neg h3]
    have hse : ∀ i, stE S' i = 0 → stE S2 i = 0 := fun i hi => by
      rw [← hS2, stE_put]; split
      · rfl
      · rw [stE_put]; split
        · rfl
        · rw [stE_put]; split
          · rfl
          · exact hi
    have hser : stE S2 r = 0 := by rw [← hS2, stE_put, if_neg hrr, stE_put, if_pos rfl]
    have hv2 : VolOk S2 d (markPg m' r true) nn := by rw [← hS2]; exact (hv1.put r pa (by omega)).put root top hro.1
    have hta2 : TrIn S2 st N (moveT N a r) := moveT_tin r hta (by omega) (by omega) hser (by rw [hid, hpr2, hpa]) (fun i hi => by
      obtain ⟨q1, q2, q3⟩ := hrest i (List.mem_append_left _ hi)
      have hz := (hta.ids i (by rw [hda]; exact List.mem_cons_of_mem _ hi)).1
      exact ⟨hpo i q1 q2 (by omega), (hse i hz).trans hz.symm⟩)
    have htb2 : TrIn S2 st N b := htb.frame fun i hi => by
      obtain ⟨q1, q2, q3⟩ := hrest i (List.mem_append_right _ hi)
      have hz := (htb.ids i hi).1
      exact ⟨hpo i q1 q2 (by omega), (hse i hz).trans hz.symm⟩
    have hTids : Tr.ids (N + 1) (mkNode root [(ByteArray.empty, moveT N a r), (sep, b)]) = root :: ((r : Int) :: restIds N a ++ Tr.ids N b) := by
      rw [ids_node]
      simp [trees, idsT, ids_cons N (moveT N a r), moveT_id, moveT_rest]
    have hTlv : Tr.leaves (N + 1) (mkNode root [(ByteArray.empty, moveT N a r), (sep, b)]) = Tr.leaves N (moveT N a r) ++ Tr.leaves N b := by
      rw [leaves_node]; simp [trees, lvsT]
    have hfl : flat (Tr.leaves (N + 1) (mkNode root [(ByteArray.empty, moveT N a r), (sep, b)])) = flat (Tr.leaves N a ++ Tr.leaves N b) := by
      rw [hTlv, flat_append, flat_append, moveT_flat]
    have htin : TrIn S2 st (N + 1) (mkNode root [(ByteArray.empty, moveT N a r), (sep, b)]) := by
      have hk : ∀ y ∈ [(ByteArray.empty, moveT N a r), (sep, b)], TrIn S2 st N y.2 := fun y hy => by
        rcases List.mem_cons.1 hy with rfl | hy
        · exact hta2
        · obtain rfl : y = (sep, b) := by simpa using hy
          exact htb2
      refine ⟨⟨?_, fun y hy => (hk y hy).inner⟩, ⟨hno, fun y hy => (hk y hy).good⟩, fun x hx => ?_, fun i hi => ?_, by omega⟩
      · rw [cells_mk, hkk, htop]
        exact hpr
      · obtain ⟨y, hy, hx⟩ := List.mem_flatMap.1 hx
        exact (hk y hy).leaves x hx
      · have hi' : i ∈ root :: [(ByteArray.empty, moveT N a r), (sep, b)].flatMap (fun x => Tr.ids N x.2) := hi
        rcases List.mem_cons.1 hi' with rfl | hi'
        · exact ⟨hse _ (hta.ids i (by rw [hda]; exact List.mem_cons_self ..)).1, by omega, by omega⟩
        · obtain ⟨y, hy, hi'⟩ := List.mem_flatMap.1 hi'
          exact (hk y hy).ids i hi'
    have hch := o5 0 h.tree.chain
    rw [LeafAll.split] at hch
    have hch2 : LeafAll S2 st (Tr.leaves N (moveT N a r) ++ Tr.leaves N b) 0 := by
      rw [LeafAll.split]
      refine ⟨?_, leafAll_frame (fun x hx => ?_) hch.2⟩
      · rcases moveT_leaves N a r with ⟨-, L, e1, e2⟩ | ⟨e1, e2⟩
        · rw [e1] at hch
          rw [e2]
          refine ⟨?_, trivial⟩
          have := hch.1.1
          rw [hid] at this
          show stPg S2 r = _
          rw [hpr2, ← hpa, this]
        · rw [e1]
          refine leafAll_frame (fun x hx => ?_) hch.1
          obtain ⟨q1, q2, q3⟩ := hrest x.1 (List.mem_append_left _ (e2 x hx))
          exact hpo _ q1 q2 (by omega)
      · obtain ⟨q1, q2, q3⟩ := hrest x.1 (List.mem_append_right _ (leaf_ids hx))
        exact hpo _ q1 q2 (by omega)
    have hbm : ∀ i, i < nn → bitAt (markPg m' r true) i = (if i = r then true else bitAt m' i) := hbt
    refine ⟨gx_of h hv2 (show root = _ from hroot.symm) ⟨htin, by rw [hTlv]; exact hch2, ?_, ?_⟩ ⟨by simp [kids_mk], fun y hy => ?_⟩ ?_, ⟨?_, ?_, ?_, ?_, ?_, ?_⟩, ?_, rfl, ?_⟩
    · rw [hTids]
      refine List.nodup_cons.2 ⟨?_, List.nodup_cons.2 ⟨?_, n2⟩⟩
      · intro hi
        rcases List.mem_cons.1 hi with e | e
        · exact hrr e.symm
        · exact n1 e
      · intro hi
        exact (hrest _ hi).2.1 rfl
    · refine (ord_node root _ _ none).2 ⟨fun y hy => ?_, ?_⟩
      · obtain rfl : y = (sep, b) := by simpa using hy
        exact ⟨hlt, fun z hz => by cases hz⟩
      · exact ⟨moveT_ord N a r _ _ hoa, hob, trivial⟩
    · rw [kids_mk] at hy
      rcases List.mem_cons.1 hy with rfl | hy
      · exact moveT_wide N a r hwa
      · obtain rfl : y = (sep, b) := by simpa using hy
        exact hwb
    · rw [hTids]
      intro i hi
      rcases List.mem_cons.1 hi with rfl | hi
      · refine ⟨hro.1, hro.2.1, ?_⟩
        rw [hbm _ (by omega)]; split
        · rfl
        · exact hro.2.2
      · have hi' : i ∈ (r : Int) :: (restIds N a ++ Tr.ids N b) := hi
        rcases List.mem_cons.1 hi' with rfl | hi'
        · exact ⟨by omega, by omega, by rw [Int.toNat_natCast, hbm _ hrn, if_pos rfl]⟩
        · have ho := o1 i (by rw [hda]; exact List.mem_cons_of_mem _ hi')
          refine ⟨ho.1, ho.2.1, ?_⟩
          rw [hbm _ (by omega)]; split
          · rfl
          · exact ho.2.2
    · rw [hTids]
      intro i hi
      have := o2 i hi
      rw [hda, List.cons_append] at this
      rcases List.mem_cons.1 this with rfl | e
      · exact List.mem_cons_self ..
      · exact List.mem_cons_of_mem _ (List.mem_cons_of_mem _ e)
    · rw [hTids]
      intro i hi
      rcases List.mem_cons.1 hi with rfl | hi
      · exact o9 _ hrootA
      · have hi' : i ∈ (r : Int) :: (restIds N a ++ Tr.ids N b) := hi
        rcases List.mem_cons.1 hi' with rfl | hi'
        · right
          cases hbr : bitAt m (r : Int).toNat with
          | false => rfl
          | true =>
            rw [Int.toNat_natCast] at hbr
            have := hp.mono r hrn hbr
            rw [hrf] at this; cases this
        · exact o9 i (by rw [hda]; exact List.mem_cons_of_mem _ hi')
    · rw [hTids]
      intro i hi h1
      have q1 : i ≠ root := fun e => hi (by rw [e]; exact List.mem_cons_self ..)
      have q2 : i ≠ (r : Int) := fun e => hi (by rw [e]; exact List.mem_cons_of_mem _ (List.mem_cons_self ..))
      rw [hpo i q1 q2 h1]
      refine p1 i (fun hh => hi ?_) h1
      rw [hda, List.cons_append] at hh
      rcases List.mem_cons.1 hh with hh | hh
      · exact absurd hh q1
      · exact List.mem_cons_of_mem _ (List.mem_cons_of_mem _ hh)
    · exact fun i hi => hse i (hp.ses i hi)
    · rw [hTids]
      intro i hi hb
      rw [hbm i hi] at hb
      by_cases e : i = r
      · subst e; right; simp
      · rw [if_neg e] at hb
        rcases o3 i hi hb with q | q
        · exact .inl q
        · right
          rw [hda, List.cons_append] at q
          rcases List.mem_cons.1 q with q | q
          · rw [q]; exact List.mem_cons_self ..
          · exact List.mem_cons_of_mem _ (List.mem_cons_of_mem _ q)
    · intro i hi hb
      rw [hbm i hi]; split
      · rfl
      · exact hp.mono i hi hb
    · rw [show flat (Tr.leaves (N + 1) (mkNode root [(ByteArray.empty, moveT N a r), (sep, b)])) = flat (Tr.leaves N a ++ Tr.leaves N b) from hfl]
      exact ⟨o6, o7, o8⟩
    · intro Q hQ h0
      rw [← hS2]
      exact hQ _ _ _ (hQ _ _ _ (hQ _ _ _ h0 (by omega) (by omega) hv1.map.ok) (by omega) (by omega) hoka) (by omega) (by omega) hokt
/-- a cell of a key's leaf laid anew -/
structure GSetOk (S : Vol) (d m : Pg) (nn : Nat) (kd st : Int) (N : Nat) (T : Tr N) (c : NC) (id nx : Int) (L : List NC) : Prop where
  idx : GxOk (S.put id (ndPg 0 st nx (setC c L))) d m nn kd st N (setT c N T)
  flat : flat (Tr.leaves N (setT c N T)) = setC c (flat (Tr.leaves N T))
  ok : okPg (ndPg 0 st nx (setC c L)) = true
  page : stPg S id = ndPg 0 st nx L
  se : stE S id = 0
  id2 : 2 ≤ id
  idn : id < nn
  node : NodeOk 0 L
theorem gleaf_in {S : Vol} {d m : Pg} {nn : Nat} {kd st : Int} {N : Nat} {T : Tr N} (h : GxOk S d m nn kd st N T) (key : ByteArray) :
    ∃ pre post, Tr.leaves N T = pre ++ Tr.leaf key N T :: post ∧ (∀ x ∈ pre, ∀ c ∈ x.2, KLt c.key key) ∧ (∀ x ∈ post, ∀ c ∈ x.2, KLt key c.key) ∧ (∀ x ∈ pre ++ post, x.1 ≠ (Tr.leaf key N T).1) := by
  obtain ⟨pre, post, h1, h2, h3⟩ := leaf_split (key := key) N T _ _ h.tree.tin.good h.tree.ord
  refine ⟨pre, post, h1, h2, h3, ?_⟩
  have hn := h.tree.nodup.sublist (leaves_sub N T)
  rw [h1, List.map_append, List.map_cons] at hn
  have hn2 := List.nodup_append.1 hn
  have hn3 := List.nodup_cons.1 hn2.2.1
  intro x hx e
  rcases List.mem_append.1 hx with hx | hx
  · exact hn2.2.2 _ (List.mem_map.2 ⟨x, hx, rfl⟩) _ (List.mem_cons_self ..) e
  · exact hn3.1 (List.mem_map.2 ⟨x, hx, e⟩)
theorem gsetT_ok {S : Vol} {d m : Pg} {nn : Nat} {kd st : Int} {N : Nat} {T : Tr N} (h : GxOk S d m nn kd st N T) {c : NC} (hc : c.leaf) :
    GSetOk S d m nn kd st N T c (Tr.leaf c.key N T).1 (stPg S (Tr.leaf c.key N T).1).n (Tr.leaf c.key N T).2 := by
  obtain ⟨pre, post, h1, h2, h3, h4⟩ := gleaf_in h c.key
  obtain ⟨lf, hlf⟩ : ∃ lf, Tr.leaf c.key N T = lf := ⟨_, rfl⟩
  rw [hlf] at h1 h4 ⊢
  obtain ⟨id, L⟩ := lf
  have hmem : (id, L) ∈ Tr.leaves N T := by rw [h1]; simp
  obtain ⟨nx, hnx, hpg⟩ := h.tree.tin.leaves _ hmem
  have hpg : stPg S id = ndPg 0 st nx L := hpg
  have hnxe : (stPg S id).n = nx := by rw [hpg]; rfl
  rw [hnxe]
  have hidm : id ∈ Tr.ids N T := leaf_ids hmem
  obtain ⟨hn, hse, -⟩ := h.tree.leafOk _ hmem
  have hn : NodeOk 0 L := hn
  have hse : stE S id = 0 := hse
  have hmost := h.own id hidm
  have hnn := h.vol.map.hi
  have hst := h.st16
  obtain ⟨p, hp⟩ : ∃ p, ndPg 0 st nx (setC c L) = p := ⟨_, rfl⟩
  have hok : okPg p = true := by rw [← hp]; exact nd_okPg (n := 0) (setC_node hc hn) (by omega) (by omega) hnx
  have hl : (stPg S id).l = 0 := by rw [hpg]; rfl
  have hpre : ∀ x ∈ pre, setC c x.2 = x.2 := fun x hx => setC_none fun y hy => (h2 x hx y hy).ne
  have hpost : ∀ x ∈ post, setC c x.2 = x.2 := fun x hx => setC_none fun y hy e => (h3 x hx y hy).ne e.symm
  have hlv : Tr.leaves N (setT c N T) = pre ++ (id, setC c L) :: post := by
    rw [setT_leaves, h1, List.map_append, List.map_cons]
    congr 1
    · conv => rhs; rw [← List.map_id pre]
      refine List.map_congr_left fun x hx => ?_
      rw [hpre x hx]; rfl
    · congr 1
      conv => rhs; rw [← List.map_id post]
      refine List.map_congr_left fun x hx => ?_
      rw [hpost x hx]; rfl
  have hpo : ∀ i, i ≠ id → stPg (S.put id p) i = stPg S i := fun i hi => by rw [stPg_put, if_neg hi]
  have hpi : stPg (S.put id p) id = p := by rw [stPg_put, if_pos rfl]
  refine ⟨?_, setT_flat c N T, by rw [hp]; exact hok, hpg, hse, hmost.1, hmost.2.1, hn⟩
  rw [hp]
  have hids := setT_ids c N T
  have htin : TrIn (S.put id p) st N (setT c N T) := by
    refine ⟨setT_inner c hl N T h.tree.tin.inner, setT_good hc N T h.tree.tin.good, fun x hx => ?_, fun i hi => ?_, h.tree.tin.low⟩
    · rw [hlv] at hx
      rcases List.mem_append.1 hx with hx | hx
      · obtain ⟨nx', g1, g2⟩ := h.tree.tin.leaves x (by rw [h1]; exact List.mem_append_left _ hx)
        exact ⟨nx', g1, (hpo _ (h4 x (List.mem_append_left _ hx))).trans g2⟩
      · rcases List.mem_cons.1 hx with rfl | hx
        · exact ⟨nx, hnx, hpi.trans hp.symm⟩
        · obtain ⟨nx', g1, g2⟩ := h.tree.tin.leaves x (by rw [h1]; exact List.mem_append_right _ (List.mem_cons_of_mem _ hx))
          exact ⟨nx', g1, (hpo _ (h4 x (List.mem_append_right _ hx))).trans g2⟩
    · rw [hids] at hi
      have := h.tree.tin.ids i hi
      refine ⟨?_, this.2⟩
      rw [stE_put]; split
      · rfl
      · exact this.1
  refine ⟨h.vol.put id p hmost.1, by rw [setT_id]; exact h.slot, h.kind, ⟨htin, ?_, by rw [hids]; exact h.tree.nodup, setT_ord c N T _ _ h.tree.ord⟩, fun i hi => by rw [hids] at hi; exact h.own i hi, setT_wide c N T h.wide⟩
  have hch := h.tree.chain
  rw [h1, LeafAll.split] at hch
  rw [hlv, LeafAll.split]
  refine ⟨leafAll_frame (fun x hx => hpo _ (h4 x (List.mem_append_left _ hx))) hch.1, ?_, leafAll_frame (fun x hx => hpo _ (h4 x (List.mem_append_right _ hx))) hch.2.2⟩
  have e1 : stPg S id = ndPg 0 st (nextOf post 0) L := hch.2.1
  have e2 : nx = nextOf post 0 := by rw [← hnxe, e1]; rfl
  rw [← e2]
  exact hpi.trans hp.symm
/-- a key stands in its leaf or nowhere -/
theorem gleaf_there {S : Vol} {d m : Pg} {nn : Nat} {kd st : Int} {N : Nat} {T : Tr N} (h : GxOk S d m nn kd st N T) {key : ByteArray} {x : NC} (hx : x ∈ flat (Tr.leaves N T)) (hk : x.key = key) : x ∈ (Tr.leaf key N T).2 := by
  obtain ⟨pre, post, h1, h2, h3, -⟩ := gleaf_in h key
  rw [h1, flat_append, flat_cons] at hx
  rcases List.mem_append.1 hx with hx | hx
  · obtain ⟨l, hl, hx⟩ := mem_flat.1 hx
    exact absurd hk (h2 l hl x hx).ne
  · rcases List.mem_append.1 hx with hx | hx
    · exact hx
    · obtain ⟨l, hl, hx⟩ := mem_flat.1 hx
      exact absurd hk.symm (h3 l hl x hx).ne
theorem gleaf_flat {S : Vol} {d m : Pg} {nn : Nat} {kd st : Int} {N : Nat} {T : Tr N} (h : GxOk S d m nn kd st N T) {key : ByteArray} {x : NC} (hx : x ∈ (Tr.leaf key N T).2) : x ∈ flat (Tr.leaves N T) := by
  obtain ⟨pre, post, h1, -⟩ := gleaf_in h key
  rw [h1, flat_append, flat_cons]
  exact List.mem_append_right _ (List.mem_append_left _ hx)
end Go.Proofs.YtljommhbhpappaaGreat
