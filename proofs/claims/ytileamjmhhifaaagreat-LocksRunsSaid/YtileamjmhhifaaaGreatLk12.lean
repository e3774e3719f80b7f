/-
  Layer 9 (locks): Release: what it computes, and what its walk needs.
-/
import Derived.Test.YtileamjmhhifaaaGreatLk11
namespace Go.Proofs.YtileamjmhhifaaaGreat
open Go.RowKit Go.Joins Go.Sort
set_option linter.unusedVariables false
set_option linter.unusedSimpArgs false

/-- a queue without a transaction -/
def remQ (x : Int) (Q : Qu) : Qu := ⟨Q.H.filter fun h => !(h.x == x), Q.W.filter fun h => !(h.x == x)⟩
def hasQ (x : Int) (Q : Qu) : Bool := Q.H.any (fun h => h.x == x) || Q.W.any (fun h => h.x == x)
/-- what Release makes of a queue, and who is given something -/
def RelQ (x : Int) (Q : Qu) (xs : List Int) (Q' : Qu) : Prop := hasQ x Q = true ∧ Gives (remQ x Q) xs Q' ∨ hasQ x Q = false ∧ Q' = Q ∧ xs = []
theorem filt_eq {α : Type} (p : α → Bool) (L : List α) (h : L.any p = false) : L.filter (fun a => !p a) = L := by
  rw [List.filter_eq_self]
  intro a ha
  rw [List.any_eq_false] at h
  have := h a ha
  simpa using this
theorem filt_lt {α : Type} (p : α → Bool) (L : List α) (h : L.any p = true) : (L.filter fun a => !p a).length < L.length := by
  rw [List.any_eq_true] at h
  obtain ⟨a, ha, hp⟩ := h
  exact List.length_filter_lt_length_iff_exists.2 ⟨a, ha, by simp [hp]⟩
theorem remQ_none {x : Int} {Q : Qu} (h : hasQ x Q = false) : remQ x Q = Q := by
  unfold hasQ at h
  rw [Bool.or_eq_false_iff] at h
  unfold remQ
  rw [filt_eq _ _ h.1, filt_eq _ _ h.2]
/-- is there less than before? -/
theorem remQ_lt (x : Int) (Q : Qu) : decide ((remQ x Q).H.length + (remQ x Q).W.length < Q.H.length + Q.W.length) = hasQ x Q := by
  have l1 := List.length_filter_le (fun h : Hd => !(h.x == x)) Q.H
  have l2 := List.length_filter_le (fun h : Ws => !(h.x == x)) Q.W
  show decide ((Q.H.filter fun h => !(h.x == x)).length + (Q.W.filter fun h => !(h.x == x)).length < Q.H.length + Q.W.length) = _
  unfold hasQ
  cases h1 : Q.H.any (fun h => h.x == x) with
  | true =>
    have := filt_lt (fun h : Hd => h.x == x) _ h1
    simp only [Bool.true_or, decide_eq_true_eq]; omega
  | false =>
    cases h2 : Q.W.any (fun h => h.x == x) with
    | true =>
      have := filt_lt (fun h : Ws => h.x == x) _ h2
      simp only [Bool.or_true, decide_eq_true_eq]; omega
    | false =>
      have e1 := filt_eq _ _ h1
      have e2 := filt_eq _ _ h2
      simp only [e1, e2, Bool.or_false, decide_eq_false_iff_not]; omega
theorem remQ_le (x : Int) (Q : Qu) : (remQ x Q).H.length + (remQ x Q).W.length ≤ Q.H.length + Q.W.length := by
  have l1 := List.length_filter_le (fun h : Hd => !(h.x == x)) Q.H
  have l2 := List.length_filter_le (fun h : Ws => !(h.x == x)) Q.W
  simp only [remQ]; omega
theorem RelQ.empty (x : Int) : RelQ x ⟨[], []⟩ [] ⟨[], []⟩ := .inr ⟨rfl, rfl, rfl⟩
theorem RelQ.of {x : Int} {Q Q' : Qu} {xs : List Int} (h : hasQ x Q = true → Gives (remQ x Q) xs Q') (h2 : hasQ x Q = false → Q' = remQ x Q ∧ xs = []) : RelQ x Q xs Q' := by
  cases hq : hasQ x Q with
  | true => exact .inl ⟨hq, h hq⟩
  | false =>
    obtain ⟨e1, e2⟩ := h2 hq
    exact .inr ⟨hq, by rw [e1, remQ_none hq], e2⟩

theorem cfRel2 : ∀ args w, (callFunc 23 args).run Tryz.prog w = .ok (.enter 23 args) w := fun args w => by kernel_rfl
theorem clo_rel2 (n : Nat) (x : Int) (w : World) (hn : w.cell? ⟨n, 0, none⟩ = some (.int .i64 x)) (hl : n < w.heap.size) : PredW 23 #[.pointer (some ⟨n, 0, none⟩)] (fun h => h.x == x) w := by
  intro W h hb
  have hc := (hb.cell (p := ⟨n, 0, none⟩) hl).trans hn
  have HB := Lib.hid hb
  have hz := hb.size
  have hnW : n < W.heap.size := by omega
  have hnE : n ≠ W.heap.size := by omega
  clear hn hb
  show Calls _ _ #[.agg #[.int .i64 h.x, .int .i64 h.m], .pointer (some ⟨n, 0, none⟩)] W fun e w' => e = .returned (.bool (h.x == x)) ∧ Gr W w'
  go_enter Tryz.func23, Tryz.ntmps23
  go_wp2_with fail
  go_ret
  exact ⟨rfl, (Gr.refl _).alloc _⟩

section
variable {w : World} {B t nb wb : Nat} {turn : Int} {M : List (Nm × Value)} {E : Nm → Ent} {Wt : List (Int × Value)}
/-- the map of those that wait changes -/
theorem TabAt.setWaits (h : TabAt w B t nb wb turn M E Wt) {w' : World} {Wt' : List (Int × Value)} (hk : ∀ i, i < w.heap.size → i ≠ wb → w'.heap[i]? = w.heap[i]?) (hT : KMap (fun k : Int => Value.int .i64 k) w' wb Wt') (hv : ∀ y ∈ Wt', ∃ k : Nm, y.2 = k.v) : TabAt w' B t nb wb turn M E Wt' :=
  ⟨⟨(hk t h.wait.lt.1 h.t_ne.2).trans h.wait.tab, hT⟩, h.names.kept (hk nb h.names.lt h.ne), h.ptr, fun n hn => (h.qat n hn).keep fun i hi => hk i ((h.qat n hn).lt hi).2 (h.own_ne hn hi).2.2, h.apart, hv, h.leT, h.leN, h.leW, h.ne⟩
theorem WaitAt.del {w : World} {t nb wb : Nat} {turn : Int} {Wt : List (Int × Value)} (h : WaitAt w t nb wb turn Wt) (x : Int) : ∃ od, (∀ W : World, W.heap[wb]? = w.heap[wb]? → (Builtin.delete_ #[50, 3] 0 #[.map (some wb), .int .i64 x]).run Tryz.prog W = .ok (.tuple #[]) (ChangeMaps.setBlock W wb od)) ∧ ∀ W : World, W.heap[wb]? = w.heap[wb]? → KMap (fun k : Int => Value.int .i64 k) (ChangeMaps.setBlock W wb od) wb (delK x Wt) := by
  obtain ⟨es, clk, hm1, hm2, hm3⟩ := h.map
  obtain ⟨od, hod⟩ := run_delete_k (P := Tryz.prog) Tryz.underlying50 (keyLaw_int Tryz.underlying3) wb Wt x es clk hm2 hm3
  exact ⟨od, fun W hW => (hod W 3 0 (hW.trans hm1)).1, fun W hW => (hod W 3 0 (hW.trans hm1)).2⟩
theorem setB_far {W : World} {wb k : Nat} (h : k ≠ wb) (o : Obj) : (ChangeMaps.setBlock W wb o).heap[k]? = W.heap[k]? := by
  simp [ChangeMaps.setBlock, Array.getElem?_setIfInBounds, Ne.symm h]

theorem QAt.ne_cell {w : World} {B qb : Nat} {hv wv : Value} {Q : Qu} (h : QAt w B qb hv wv Q) {k : Nat} {c : Array Value} {ty : TypeId} (hk : w.heap[k]? = some (.cells c ty)) (h1 : 57 ≠ ty) (h2 : 60 ≠ ty) (h3 : 64 ≠ ty) : ¬ qBlk qb hv wv k := by
  rintro (rfl | hi | hi)
  · exact heap_ne_ty h.blk hk h1 rfl
  · exact own_ne_bl h.held hk h2 hi
  · exact own_ne_bl h.wish hk h3 hi
theorem KRange.iter {K : Type} {kv : K → Value} {w : World} {b r : Nat} {M : List (K × Value)} {left : K → Prop} {cnt : Nat} (h : KRange kv w b r M left cnt) : ∃ s se c, w.heap[r]? = some (.mapIter (some b) s se c) := by
  obtain ⟨es, clock, since, seen, c0, h1, h2, h3, h4, -⟩ := h
  exact ⟨_, _, _, h4⟩
theorem TabAt.ne_iter (h : TabAt w B t nb wb turn M E Wt) {r : Nat} {b : Option Nat} {s : Nat} {se : Array Nat} {c : Nat} (hr : w.heap[r]? = some (.mapIter b s se c)) {i : Nat} (hi : Own t nb wb M E i) : i ≠ r := by
  rintro rfl
  rcases hi with rfl | rfl | rfl | ⟨n, hn, hi⟩
  · rw [h.wait.tab] at hr; cases hr
  · obtain ⟨es, clk, hm, -⟩ := h.names
    rw [hm] at hr; cases hr
  · obtain ⟨es, clk, hm, -⟩ := h.wait.map
    rw [hm] at hr; cases hr
  · obtain ⟨cs, ty, hc, -⟩ := (h.qat n hn).ty hi
    rw [hc] at hr; cases hr
/-- in the midst of Release -/
structure RelAt (x : Int) (B t nb wb ri bx : Nat) (turn : Int) (w : World) (M0 : List (Nm × Value)) (E0 : Nm → Ent) (Wt0 : List (Int × Value)) (wr : World) (M : List (Nm × Value)) (E : Nm → Ent) (Wt : List (Int × Value)) (left : Nm → Prop) (cnt : Nat) (ys : List Int) : Prop where
  tab : TabAt wr B t nb wb turn M E Wt
  rng : KRange Nm.v wr nb ri M left cnt
  mov : Moved (Own t nb wb M0 E0) w wr
  own : ∀ i, Own t nb wb M E i → Own t nb wb M0 E0 i ∨ w.heap.size ≤ i
  todo : ∀ n, left n → qOf M E n = qOf M0 E0 n
  done : ∀ n, ¬ left n → ∃ xs, RelQ x (qOf M0 E0 n) xs (qOf M E n) ∧ ∀ k ∈ xs, k ∈ ys
  frm : ∀ k ∈ ys, ∃ n xs, ¬ left n ∧ RelQ x (qOf M0 E0 n) xs (qOf M E n) ∧ k ∈ xs
  waits : ∀ k, k ∈ keysM Wt ↔ k ∈ keysM Wt0 ∧ k ≠ x ∧ k ∉ ys
  box : wr.heap[bx]? = some (.cells #[.int .i64 x] 3)
  ge : w.heap.size ≤ bx
  ri : w.heap.size ≤ ri
  len : M.length ≤ M0.length

theorem delK_subG {K : Type} [DecidableEq K] (k : K) : ∀ (M : List (K × Value)), ∀ x ∈ delK k M, x ∈ M
  | [], x, h => h
  | y :: r, x, h => by
    unfold delK at h
    by_cases e : k = y.1
    · rw [if_pos e] at h; exact List.mem_cons_of_mem _ h
    · rw [if_neg e] at h
      rcases List.mem_cons.1 h with rfl | h
      · exact List.mem_cons_self ..
      · exact List.mem_cons_of_mem _ (delK_subG k r x h)
theorem delK_len {K : Type} [DecidableEq K] (k : K) : ∀ (M : List (K × Value)), (delK k M).length ≤ M.length
  | [] => Nat.le_refl _
  | y :: r => by
    have := delK_len k r
    unfold delK
    split
    · simp
    · simp; exact this
/-- a name goes -/
theorem TabAt.drop (h : TabAt w B t nb wb turn M E Wt) {w' : World} (k : Nm) (hk : ∀ i, i < w.heap.size → i ≠ nb → w'.heap[i]? = w.heap[i]?) (hM : KMap Nm.v w' nb (delK k M)) : TabAt w' B t nb wb turn (delK k M) E Wt := by
  have hsub : ∀ n, n ∈ keysM (delK k M) → n ∈ keysM M := fun n hn => by
    obtain ⟨y, hy, rfl⟩ := List.mem_map.1 hn
    exact List.mem_map.2 ⟨y, delK_subG k M y hy, rfl⟩
  exact ⟨h.wait.keep (hk t h.wait.lt.1 h.t_ne.1) (hk wb h.wait.lt.2 (Ne.symm h.ne)), hM, fun y hy => h.ptr y (delK_subG k M y hy), fun n hn => (h.qat n (hsub n hn)).keep fun i hi => hk i ((h.qat n (hsub n hn)).lt hi).2 (h.own_ne (hsub n hn) hi).2.1, fun n hn m hm => h.apart n (hsub n hn) m (hsub m hm), h.vals, h.leT, h.leN, h.leW, h.ne⟩
theorem qOf_del (hnd : (M.map (·.1)).Nodup) (k : Nm) : qOf (delK k M) E k = ⟨[], []⟩ ∧ ∀ n, n ≠ k → qOf (delK k M) E n = qOf M E n := by
  have hk := fun j => keys_del (k := k) hnd j
  refine ⟨qOf_out fun h => ((hk k).1 h).2 rfl, fun n hn => ?_⟩
  by_cases h : n ∈ keysM M
  · rw [qOf_in h, qOf_in ((hk n).2 ⟨h, hn⟩)]
  · rw [qOf_out h, qOf_out fun h2 => h ((hk n).1 h2).1]
theorem own_del {k : Nm} : ∀ i, Own t nb wb (delK k M) E i → Own t nb wb M E i := by
  rintro i (h | h | h | ⟨m, hm, h⟩)
  · exact .inl h
  · exact .inr (.inl h)
  · exact .inr (.inr (.inl h))
  · obtain ⟨y, hy, rfl⟩ := List.mem_map.1 hm
    exact .inr (.inr (.inr ⟨_, List.mem_map.2 ⟨y, delK_subG k M y hy, rfl⟩, h⟩))
theorem RelAt.next {x : Int} {ri bx : Nat} {wo wc : World} {M1 M2 : List (Nm × Value)} {E1 E2 : Nm → Ent} {Wt1 Wt4 : List (Int × Value)} {left left' : Nm → Prop} {cnt cnt2 : Nat} {ys xs : List Int} {k : Nm} {Q Q' : Qu} {s : Nat}
    (HR : RelAt x B t nb wb ri bx turn w M E Wt wo M1 E1 Wt1 left cnt ys) (hk : left k) (hkk : k ∈ keysM M1) (hQ : (E1 k).Q = Q) (hrel : RelQ x Q xs Q') (tab : TabAt wc B t nb wb turn M2 E2 Wt4) (rng : KRange Nm.v wc nb ri M2 left' cnt2) (hl : ∀ j, left' j ↔ left j ∧ j ≠ k) (mov : Moved (Own t nb wb M E) w wc)
    (own : ∀ i, Own t nb wb M2 E2 i → Own t nb wb M1 E1 i ∨ s ≤ i) (hs : w.heap.size ≤ s) (hq2 : qOf M2 E2 k = Q') (hoth : ∀ n, n ≠ k → qOf M2 E2 n = qOf M1 E1 n) (hwo : Without Wt1 Wt4 xs) (box : wc.heap[bx]? = some (.cells #[.int .i64 x] 3)) (len : M2.length ≤ M1.length) :
    RelAt x B t nb wb ri bx turn w M E Wt wc M2 E2 Wt4 left' cnt2 (ys ++ xs) := by
  have hqk : qOf M E k = Q := by rw [← HR.todo k hk, qOf_in hkk, hQ]
  refine ⟨tab, rng, mov, fun i hi => ?_, fun n hn => ?_, fun n hn => ?_, fun y hy => ?_, fun j => ?_, box, HR.ge, HR.ri, Nat.le_trans len HR.len⟩
  · rcases own i hi with h | h
    · exact HR.own i h
    · exact .inr (Nat.le_trans hs h)
  · obtain ⟨h1, h2⟩ := (hl n).1 hn
    rw [hoth n h2]; exact HR.todo n h1
  · by_cases e : n = k
    · subst e
      exact ⟨xs, by rw [hqk, hq2]; exact hrel, fun j hj => List.mem_append.2 (.inr hj)⟩
    · obtain ⟨zs, h1, h2⟩ := HR.done n fun h => hn ((hl n).2 ⟨h, e⟩)
      exact ⟨zs, by rw [hoth n e]; exact h1, fun j hj => List.mem_append.2 (.inl (h2 j hj))⟩
  · rcases List.mem_append.1 hy with hy | hy
    · obtain ⟨n, zs, h0, h1, h2⟩ := HR.frm y hy
      have e : n ≠ k := fun e => h0 (by rw [e]; exact hk)
      exact ⟨n, zs, fun h => h0 ((hl n).1 h).1, by rw [hoth n e]; exact h1, h2⟩
    · exact ⟨k, xs, fun h => ((hl k).1 h).2 rfl, by rw [hqk, hq2]; exact hrel, hy⟩
  · have h1 := hwo.1 j
    have h2 := HR.waits j
    unfold keysM at h2 ⊢
    rw [h1, h2]
    simp only [List.mem_append, not_or, and_assoc]

set_option maxHeartbeats 3000000 in
set_option maxRecDepth 100000 in
theorem release_any (h : TabAt w B t nb wb turn M E Wt) (x : Int) (hN : ∀ n, (qOf M E n).H.length + (qOf M E n).W.length ≤ 100000) :
    Calls Tryz.prog 6 #[.pointer (some ⟨t, 0, none⟩), .int .i64 x] w fun e w' => e = .returned (.tuple #[]) ∧
      ∃ (M' : List (Nm × Value)) (E' : Nm → Ent) (Wt' : List (Int × Value)) (ys : List Int), TabAt w' B t nb wb turn M' E' Wt' ∧ (∀ n, ∃ xs, RelQ x (qOf M E n) xs (qOf M' E' n) ∧ ∀ k ∈ xs, k ∈ ys) ∧ (∀ k ∈ ys, ∃ n xs, RelQ x (qOf M E n) xs (qOf M' E' n) ∧ k ∈ xs) ∧ (∀ k, k ∈ keysM Wt' ↔ k ∈ keysM Wt ∧ k ≠ x ∧ k ∉ ys) ∧ Moved (Own t nb wb M E) w w' ∧ (∀ i, Own t nb wb M' E' i → Own t nb wb M E i ∨ w.heap.size ≤ i) ∧ M'.length ≤ M.length := by
  have mixed : Tryz.prog.follows Departure.mixedOrders = true := by kernel_rfl
  have HT := Lib.hid h
  have HN := Lib.hid hN
  clear h hN
  go_enter Tryz.func6, Tryz.ntmps6
  go_upto_region 2 with fail
  have hb1 : Below w.heap.size w (w.alloc (.cells #[.int .i64 x] 3)) := (Below.refl _ _).alloc (Nat.le_refl _) _
  have hbx := heap_alloc_new w (.cells #[.int .i64 x] 3)
  have HB1 := Lib.hid hb1
  have HBx := Lib.hid hbx
  clear hb1 hbx
  generalize w.alloc (.cells #[.int .i64 x] 3) = W1 at *
  have HT1 := Lib.hid (HT.out.below HB1.out)
  obtain ⟨od, hrun, hKd⟩ := HT1.out.wait.del x
  have hd1 := hrun W1 rfl
  have hd2 := hrun W1.drew rfl
  have ct : W1.cell? ⟨t, 1, none⟩ = some (.map (some wb)) := (cell_of_block HT1.out.wait.tab 1).trans rfl
  have cx : W1.cell? ⟨w.heap.size, 0, none⟩ = some (.int .i64 x) := (cell_of_block HBx.out 0).trans rfl
  obtain ⟨es, clk, hm1, -⟩ := HT1.out.wait.map
  have HS1 := Lib.hid fun W => setB_cell (W := W) (ne_of_map hm1 HT1.out.wait.tab) od 1
  have HS2 := Lib.hid fun W i => setB_cell (W := W) (ne_of_map hm1 HBx.out) od i
  have HNd := Lib.hid (HT1.out.wait.map.nodup (keyLaw_int (P := Tryz.prog) Tryz.underlying3).inj)
  have HT2 : Hid (TabAt (ChangeMaps.setBlock W1.drew wb od) B t nb wb turn M E (delK x Wt)) := Lib.hid (HT1.out.setWaits (fun i _ hi => setB_far (W := W1.drew) hi od) (hKd W1.drew rfl) fun y hy => HT1.out.vals y (delK_sub x Wt y hy))
  have HM2 : Hid (Moved (Own t nb wb M E) w (ChangeMaps.setBlock W1.drew wb od)) := Lib.hid ((Moved.of_below HB1.out).drew.setBlock HT1.out.wait.lt.2 (.inl (.inr (.inr (.inl rfl)))) od)
  have HBx2 : Hid ((ChangeMaps.setBlock W1.drew wb od).heap[w.heap.size]? = some (.cells #[.int .i64 x] 3)) := Lib.hid ((setB_far (W := W1.drew) (Ne.symm (ne_of_map hm1 HBx.out)) od).trans HBx.out)
  clear hrun hKd hm1
  (go_region_held3 (fun W => W.cell? ⟨t, 1, none⟩ = some (.map (some wb)) ∧ W.cell? ⟨w.heap.size, 0, none⟩ = some (.int .i64 x)) (first | exact ⟨ct, cx⟩ | exact ⟨(HS1.out _).trans ct, (HS2.out _ _).trans cx⟩ | go_keep) (fail))
  clear hd1 hd2 ct cx HS1 HS2 HBx HT1 HB1
  generalize ChangeMaps.setBlock W1.drew wb od = W2 at *
  have c0 : W2.cell? ⟨t, 0, none⟩ = some (.map (some nb)) := (cell_of_block HT2.out.wait.tab 0).trans rfl
  obtain ⟨oi, hrng, hR0⟩ := range_k (P := Tryz.prog) keyLaw_nm.inj Tryz.underlying49 HT2.out.names
  have hb2 : Below W2.heap.size W2 (W2.alloc oi) := (Below.refl _ _).alloc (Nat.le_refl _) _
  have hw0 : ∀ k, k ∈ keysM (delK x Wt) ↔ k ∈ keysM Wt ∧ k ≠ x ∧ k ∉ ([] : List Int) := fun k => by
    have := keys_del (k := x) HNd.out k
    unfold keysM
    rw [this]; simp
  have HR2 : Hid (RelAt x B t nb wb W2.heap.size w.heap.size turn w M E Wt (W2.alloc oi) M E (delK x Wt) (fun k => k ∈ keysM M) M.length []) := Lib.hid
    ⟨HT2.out.below hb2, hR0, HM2.out.below hb2, fun i h => .inl h, fun n _ => rfl, fun n hn => ⟨[], by rw [qOf_out hn]; exact RelQ.empty x, fun k hk => (by cases hk)⟩, fun k hk => (by cases hk), hw0, (hb2.block _ (Array.getElem?_eq_some_iff.1 HBx2.out).1).trans HBx2.out, Nat.le_refl _, HM2.out.size, Nat.le_refl _⟩
  clear hR0 hb2 HBx2 HNd hw0
  go_wp2_with fail
  generalize W2.heap.size = ri at *
  generalize W2.alloc oi = W3 at *
  clear hrng c0 HT2 HM2
  obtain ⟨bx, hbxe⟩ : ∃ bx, w.heap.size = bx := ⟨_, rfl⟩
  rw [hbxe] at HR2
  rw [hbxe]
  have HBe := Lib.hid hbxe
  clear hbxe
  go_loopg [] M.length (fun gg wr => ∃ M1 E1 Wt1 left cnt ys, RelAt x B t nb wb ri bx turn w M E Wt wr M1 E1 Wt1 left cnt ys ∧ cnt ≤ gg)
  case atStart => exact ⟨_, _, _, _, _, _, HR2.out, Nat.le_refl _⟩
  case round =>
    clear HR2
    obtain ⟨M1, E1, Wt1, left, cnt, ys, hR, hcnt⟩ := hrel
    obtain ⟨wo, rfl⟩ : ∃ wo : World, wo = wr := ⟨_, rfl⟩
    have HR := Lib.hid hR
    have HCnt := Lib.hid hcnt
    clear hcnt
    rcases hR.rng.next (P := Tryz.prog) keyLaw_nm.inj with ⟨h0, hnone, hN⟩ | ⟨k, v, w2, cnt', hkv, hleft, hN, hR2, hlt2, hg2, hsz2, hent⟩
    · have HNo := Lib.hid hnone
      clear hR hnone h0
      go_wp2_with fail
      go_end0
      exact ⟨rfl, M1, E1, Wt1, ys, HR.out.tab, fun n => HR.out.done n (HNo.out n), fun k hk => (by obtain ⟨n, xs, -, h1, h2⟩ := HR.out.frm k hk; exact ⟨n, xs, h1, h2⟩), HR.out.waits, HR.out.mov, HR.out.own, HR.out.len⟩
    · have hkk : k ∈ keysM M1 := List.mem_map.2 ⟨_, hkv, rfl⟩
      obtain ⟨⟨qb, hv, wv, Q⟩, hen⟩ : ∃ en, E1 k = en := ⟨_, rfl⟩
      have hve : v = .pointer (some ⟨qb, 0, none⟩) := by have := hR.tab.ptr _ hkv; rw [hen] at this; exact this
      subst hve
      obtain ⟨s1, s2, s3, hit⟩ := hR.rng.iter
      have hT2 : TabAt w2 B t nb wb turn M1 E1 Wt1 := hR.tab.keep fun i hi => hg2.block i (hR.tab.lt hi).2 fun e => hR.tab.ne_iter hit hi (Option.some.inj e)
      have hbx2 : w2.heap[bx]? = some (.cells #[.int .i64 x] 3) := (hg2.block bx (Array.getElem?_eq_some_iff.1 hR.box).1 fun e => by
        have e1 := Option.some.inj e
        have := hR.box
        rw [e1, hit] at this; cases this).trans hR.box
      have hm2 : Moved (Own t nb wb M E) w w2 := hR.mov.grown hg2 fun i hi => .inr (by cases hi; exact hR.ri)
      have hN' : ∀ ty, (Instr.next (.pointer (some ⟨ri, 0, none⟩)) false ty).run Tryz.prog wo = .ok (.tuple #[.bool true, .agg #[.int .i64 k.s, .string k.i], .pointer (some ⟨qb, 0, none⟩)]) w2 := hN
      have hent' : (Instr.entry (.pointer (some ⟨ri, 0, none⟩))).run Tryz.prog w2 = .ok (.tuple #[.agg #[.int .i64 k.s, .string k.i], .pointer (some ⟨qb, 0, none⟩)]) w2 := hent
      have hb3 : Below w2.heap.size w2 (w2.alloc (.cells #[.int .i64 k.s, .string k.i] 31)) := (Below.refl _ _).alloc (Nat.le_refl _) _
      have HT3 := Lib.hid (hT2.below hb3)
      have HR3 := Lib.hid (hR2.kept (hb3.block nb hT2.names.lt) (hb3.block ri hR2.lt))
      have HBx3 := Lib.hid ((hb3.block bx (Array.getElem?_eq_some_iff.1 hbx2).1).trans hbx2)
      have HNx3 := Lib.hid (heap_alloc_new w2 (.cells #[.int .i64 k.s, .string k.i] 31))
      have HM3 := Lib.hid (hm2.below hb3)
      have HKk := Lib.hid hkk
      have HEn := Lib.hid hen
      have HLeft := Lib.hid hleft
      have HLt := Lib.hid hlt2
      clear hR hkv hleft hN hR2 hlt2 hg2 hent hkk hen hit hT2 hbx2 hm2 hb3 hsz2
      go_upto_region 6 with fail
      clear hN' hent'
      generalize hnx : w2.heap.size = nx at *
      generalize w2.alloc (.cells #[.int .i64 k.s, .string k.i] 31) = W4 at *
      have hq4 : QAt W4 B qb hv wv Q := by have h1 := HT3.out.qat k HKk.out; rw [HEn.out] at h1; exact h1
      have hlen : Q.H.length + Q.W.length ≤ 100000 := by
        have h1 := HR.out.todo k HLeft.out
        have h2 := HN.out k
        rw [← h1, qOf_in HKk.out, HEn.out] at h2; exact h2
      obtain ⟨ah, ch, rfl, hch, hmh, -⟩ := own_cap hq4.held
      obtain ⟨aw, cw, rfl, hcw, hmw, -⟩ := own_cap hq4.wish
      have hlq := (hq4.lt (.inl rfl)).2
      have hg0 := fun n os => cell_grown hlq hq4.cell0 n os
      have hg1 := fun n os => cell_grown hlq hq4.cell1 n os
      have hl1 : Q.H.length ≤ 9223372036854775807 := by omega
      have hl2 : Q.W.length ≤ 9223372036854775807 := by omega
      have hwr : IntKind.i64.wrap ((Q.H.length : Int) + (Q.W.length : Int)) = (Q.H.length : Int) + (Q.W.length : Int) := IntWalk.i64_in _ (by omega)
      have HQ4 := Lib.hid hq4
      have HLen := Lib.hid hlen
      clear hq4 hch hmh hcw hmw hlen
      refine wp_region_quiet_grown (by assumption) (by kernel_rfl) ?_
      iterate 12 (with_reducible refine wpQuiet_step (fun K hK => ?_); go_simp; with_reducible refine hK _ ?_; clear hK K)
      with_reducible refine wpQuiet_nil ?_
      with_reducible intro _ hw'
      obtain ⟨⟨nq, osq⟩, hw''⟩ := hw'
      subst hw''
      have hbg : Below W4.heap.size W4 (grow (W4.drewN nq) osq) := Gr.below ⟨nq, osq, rfl⟩
      have HT5 := Lib.hid (HT3.out.below hbg)
      have HR5 := Lib.hid (HR3.out.kept (hbg.block nb HT3.out.names.lt) (hbg.block ri HR3.out.lt))
      have HBx5 := Lib.hid ((hbg.block bx (Array.getElem?_eq_some_iff.1 HBx3.out).1).trans HBx3.out)
      have HNx5 := Lib.hid ((hbg.block nx (Array.getElem?_eq_some_iff.1 HNx3.out).1).trans HNx3.out)
      have HM5 := Lib.hid (HM3.out.below hbg)
      have HQ5 := Lib.hid (HQ4.out.below hbg)
      clear hg0 hg1 hbg HT3 HR3 HBx3 HNx3 HM3 HQ4 hlq
      generalize grow (W4.drewN nq) osq = W5 at *
      have HD1 := Lib.hid (deleteF_any 21 #[.pointer (some ⟨bx, 0, none⟩)] cfRel1 (fun h => h.x == x) B (.slice ah Q.H.length ch) Q.H W5 HQ5.out.held fun W h hm => by
        have hbw := (hm.block bx (Array.getElem?_eq_some_iff.1 HBx5.out).1 (own_ne_bl HQ5.out.held HBx5.out (by decide))).trans HBx5.out
        exact clo_rel1 bx x W ((cell_of_block hbw 0).trans rfl) (Array.getElem?_eq_some_iff.1 hbw).1 W h (Below.refl _ _))
      have hlq := (HQ5.out.lt (.inl rfl)).2
      have hc0 := HQ5.out.cell0
      go_wp2_with fail
      refine HD1.out.mono ?_; rintro e W6 ⟨v6, rfl, ho6, hb6, hm6⟩
      obtain ⟨a6, c6, rfl, -, -, -⟩ := own_cap ho6
      have hq6 := (hm6.block qb hlq (own_ne_bl HQ5.out.held HQ5.out.blk (by decide))).trans HQ5.out.blk
      have hw6 := own_keep HQ5.out.wish fun g hg => hm6.block g (HQ5.out.wish.lt g hg).2 fun e => by
        obtain ⟨c, hc⟩ := own_blkv HQ5.out.held e
        obtain ⟨c', hc'⟩ := own_blkv HQ5.out.wish hg
        exact heap_ne_ty hc hc' (by decide) rfl
      have hQ7 := store_holds hq6 hw6 HQ5.out.le (Nat.le_refl B) ho6
      have hM7 : Moved (qBlk qb (.slice ah Q.H.length ch) (.slice aw Q.W.length cw)) W5 (W6.setCell ⟨qb, 0, none⟩ (.slice a6 (Q.H.filter fun h => !(h.x == x)).length c6)) := (hm6.mono fun i _ hi => .inr (.inl hi)).setCell (p := ⟨qb, 0, none⟩) (.inl (.inl rfl)) _
      have hc6 := (cell_of_block hq6 0).trans rfl
      have hf6 : W6.frozen? ⟨qb, 0, none⟩ = false := by simp [World.frozen?, hq6]
      have hl6 := (Array.getElem?_eq_some_iff.1 hq6).1
      have HQ7 := Lib.hid hQ7
      have HM7 := Lib.hid hM7
      have HOw := Lib.hid hb6
      clear ho6 hm6 hq6 hw6 hQ7 hM7 hb6 HD1 hlq hc0
      go_upto_region 8 with fail
      clear hc6 hf6 hl6
      generalize W6.setCell ⟨qb, 0, none⟩ (.slice a6 (Q.H.filter fun h => !(h.x == x)).length c6) = W7 at *
      have hbx7 := (HM7.out.block bx (Array.getElem?_eq_some_iff.1 HBx5.out).1 (HQ5.out.ne_cell HBx5.out (by decide) (by decide) (by decide))).trans HBx5.out
      have HBx7 := Lib.hid hbx7
      have HD2 := Lib.hid (deleteFw_any 23 #[.pointer (some ⟨bx, 0, none⟩)] cfRel2 (fun h => h.x == x) B (.slice aw Q.W.length cw) Q.W W7 HQ7.out.wish fun W h hm => by
        have hbw := (hm.block bx (Array.getElem?_eq_some_iff.1 HBx7.out).1 (own_ne_bl HQ7.out.wish HBx7.out (by decide))).trans HBx7.out
        exact clo_rel2 bx x W ((cell_of_block hbw 0).trans rfl) (Array.getElem?_eq_some_iff.1 hbw).1 W h (Below.refl _ _))
      have hlq := (HQ7.out.lt (.inl rfl)).2
      have hc1 := HQ7.out.cell1
      clear hbx7
      go_wp2_with fail
      refine HD2.out.mono ?_; rintro e W8 ⟨v8, rfl, ho8, hb8, hm8⟩
      obtain ⟨a8, c8, rfl, -, -, -⟩ := own_cap ho8
      have hq8 := (hm8.block qb hlq (own_ne_bl HQ7.out.wish HQ7.out.blk (by decide))).trans HQ7.out.blk
      have hh8 := own_keep HQ7.out.held fun g hg => hm8.block g (HQ7.out.held.lt g hg).2 fun e => by
        obtain ⟨c, hc⟩ := own_blkv HQ7.out.wish e
        obtain ⟨c', hc'⟩ := own_blkv HQ7.out.held hg
        exact heap_ne_ty hc hc' (by decide) rfl
      have hQ9 := store_wishes hq8 hh8 HQ7.out.le (Nat.le_refl B) ho8
      have hM9 : Moved (qBlk qb (.slice ah Q.H.length ch) (.slice aw Q.W.length cw)) W5 (W8.setCell ⟨qb, 1, none⟩ (.slice a8 (Q.W.filter fun h => !(h.x == x)).length c8)) := HM7.out.trans (((hm8.mono fun i _ hi => .inl (.inr (.inr hi)))).setCell (p := ⟨qb, 1, none⟩) (.inl (.inl (.inl rfl))) _)
      have hc8 := (cell_of_block hq8 1).trans rfl
      have hf8 : W8.frozen? ⟨qb, 1, none⟩ = false := by simp [World.frozen?, hq8]
      have hl8 := (Array.getElem?_eq_some_iff.1 hq8).1
      have HQ9 := Lib.hid hQ9
      have HM9 := Lib.hid hM9
      have HOw2 := Lib.hid hb8
      clear ho8 hm8 hq8 hh8 hQ9 hM9 hb8 HD2 hlq hc1 HQ7 HM7 HBx7
      go_upto_region 9 with fail
      clear hc8 hf8 hl8
      generalize W8.setCell ⟨qb, 1, none⟩ (.slice a8 (Q.W.filter fun h => !(h.x == x)).length c8) = W9 at *
      obtain ⟨R, hR⟩ : ∃ R, remQ x Q = R := ⟨_, rfl⟩
      have e1 : (Q.H.filter fun h => !(h.x == x)) = R.H := by rw [← hR]; rfl
      have e2 : (Q.W.filter fun h => !(h.x == x)) = R.W := by rw [← hR]; rfl
      have hlt := remQ_lt x Q
      have hle := remQ_le x Q
      rw [hR] at hlt hle
      rw [e1, e2] at HQ9
      rw [e1] at HOw
      rw [e2] at HOw2
      rw [e1, e2]
      have HRr := Lib.hid hR
      clear e1 e2 hR
      have hq9 := HQ9.out
      have hlq := (hq9.lt (.inl rfl)).2
      have hg0 := fun n os => cell_grown hlq hq9.cell0 n os
      have hg1 := fun n os => cell_grown hlq hq9.cell1 n os
      have hlen := HLen.out
      have hl3 : R.H.length ≤ 9223372036854775807 := by omega
      have hl4 : R.W.length ≤ 9223372036854775807 := by omega
      have hwr2 : IntKind.i64.wrap ((R.H.length : Int) + (R.W.length : Int)) = (R.H.length : Int) + (R.W.length : Int) := IntWalk.i64_in _ (by omega)
      have hdl : decide ((R.H.length : Int) + (R.W.length : Int) < (Q.H.length : Int) + (Q.W.length : Int)) = hasQ x Q := by
        rw [← hlt]; exact decide_eq_decide.2 (by omega)
      obtain ⟨hs, hhs⟩ : ∃ hs, hasQ x Q = hs := ⟨_, rfl⟩
      rw [hhs] at hdl
      have HHs := Lib.hid hhs
      have HLe := Lib.hid hle
      clear hq9 hlt hle hlen hhs
      refine wp_region_quiet_grown (by assumption) (by kernel_rfl) ?_
      iterate 13 (with_reducible refine wpQuiet_step (fun K hK => ?_); go_simp; with_reducible refine hK _ ?_; clear hK K)
      with_reducible refine wpQuiet_nil ?_
      with_reducible intro _ hw'
      obtain ⟨⟨nr, osr⟩, hw''⟩ := hw'
      subst hw''
      have hbg : Below W9.heap.size W9 (grow (W9.drewN nr) osr) := Gr.below ⟨nr, osr, rfl⟩
      have HM10 := Lib.hid (HM9.out.below hbg)
      have HQ10 := Lib.hid (HQ9.out.below hbg)
      clear hg0 hg1 hbg HM9 HQ9 hlq
      generalize grow (W9.drewN nr) osr = W10 at *
      have hwt : ∀ i, i = t ∨ i = nb ∨ i = wb → ¬ qBlk qb (.slice ah Q.H.length ch) (.slice aw Q.W.length cw) i := fun i hi hq => by
        have h1 := HT5.out.own_ne HKk.out (i := i) (by rw [HEn.out]; exact hq)
        rcases hi with h | h | h
        · exact h1.1 h
        · exact h1.2.1 h
        · exact h1.2.2 h
      have HWt := Lib.hid hwt
      have HW10 := Lib.hid (HT5.out.wait.keep (HM10.out.block t HT5.out.wait.lt.1 (hwt t (.inl rfl))) (HM10.out.block wb HT5.out.wait.lt.2 (hwt wb (.inr (.inr rfl)))))
      have HM11 : Hid (Moved (fun i => i = wb ∨ qBlk qb (.slice ah Q.H.length ch) (.slice aw Q.W.length cw) i) W5 W10) := Lib.hid (HM10.out.mono fun i _ h => .inr h)
      clear hwt
      go_upto_if 65 with fail
      go_cut [4, 5] (fun s4 s5 wc => s4 = .pointer (some ⟨nx, 0, none⟩) ∧ s5 = .pointer (some ⟨qb, 0, none⟩) ∧ ∃ Q' xs hv4 wv4 Wt4, RelQ x Q xs Q' ∧ QAt wc B qb hv4 wv4 Q' ∧ WaitAt wc t nb wb turn Wt4 ∧ Without Wt1 Wt4 xs ∧ Moved (fun i => i = wb ∨ qBlk qb (.slice ah Q.H.length ch) (.slice aw Q.W.length cw) i) W5 wc ∧ (∀ i, qBlk qb hv4 wv4 i → qBlk qb (.slice ah Q.H.length ch) (.slice aw Q.W.length cw) i ∨ W5.heap.size ≤ i))
      case first =>
        have hown10 : ∀ i, qBlk qb (.slice a6 R.H.length c6) (.slice a8 R.W.length c8) i → qBlk qb (.slice ah Q.H.length ch) (.slice aw Q.W.length cw) i := fun i hi => by
          rcases hi with h | h | h
          · exact .inl h
          · exact .inr (.inl (by rw [← HOw.out]; exact h))
          · exact .inr (.inr (by rw [← HOw2.out]; exact h))
        cases hs with
        | true =>
          have HG := Lib.hid (give_any HQ10.out t nb wb turn Wt1 HW10.out (by have h1 := HLe.out; have h2 := HLen.out; show R.H.length + R.W.length ≤ 100000; omega))
          have HO10 := Lib.hid hown10
          clear hown10
          go_wp2_with fail
          refine HG.out.mono ?_
          rintro e W11 ⟨rfl, Q', xs, hv4, wv4, Wt4, hgv, hq, hwa, hwo, hmv, ho1, ho2⟩
          have hz := HM10.out.size
          have hmv2 := HM11.out.trans (hmv.mono fun i _ hi => by
            rcases hi with h | h | h
            · exact .inl (.inl h)
            · exact .inl (.inr (.inl h))
            · exact .inl (.inr (HO10.out i (.inr (.inl h)))))
          have hfin : RelQ x Q xs Q' := .inl ⟨HHs.out, by rw [HRr.out]; exact hgv⟩
          have HF := Lib.hid hfin
          have HO : Hid (∀ i, qBlk qb hv4 wv4 i → qBlk qb (.slice ah Q.H.length ch) (.slice aw Q.W.length cw) i ∨ W5.heap.size ≤ i) := Lib.hid fun i hi => by
            rcases hi with h | h | h
            · exact .inl (.inl h)
            · rcases ho1 i h with h1 | h1
              · exact .inl (HO10.out i (.inr (.inl h1)))
              · exact .inr (by omega)
            · rcases ho2 i h with h1 | h1
              · exact .inl (HO10.out i (.inr (.inr h1)))
              · exact .inr (by omega)
          have H1 := Lib.hid hq
          have H2 := Lib.hid hwa
          have H3 := Lib.hid hwo
          have H4 := Lib.hid hmv2
          clear hgv hq hwa hwo hmv hmv2 hfin ho1 ho2 hz
          go_wp2_with fail
          go_meet
          exact ⟨rfl, rfl, Q', xs, hv4, wv4, Wt4, HF.out, H1.out, H2.out, H3.out, H4.out, HO.out⟩
        | false =>
          have HO10 := Lib.hid hown10
          clear hown10
          go_wp2_with fail
          go_meet
          exact ⟨rfl, rfl, R, [], _, _, Wt1, .inr ⟨HHs.out, by rw [← HRr.out, remQ_none HHs.out], rfl⟩, HQ10.out, HW10.out, .refl _, HM11.out, fun i hi => .inl (HO10.out i hi)⟩
      case rest =>
        obtain ⟨rfl, rfl, Q', xs, hv4, wv4, Wt4, hrel4, hq4, hw4, hwo4, hm4, ho4⟩ := hcut
        obtain ⟨W12, rfl⟩ : ∃ W12 : World, W12 = wc := ⟨_, rfl⟩
        have hm5 : Moved (fun i => i = t ∨ i = wb ∨ (E1 k).own i) W5 W12 := hm4.mono fun i _ h => by
          rw [HEn.out]
          exact h.elim (fun h => .inr (.inl h)) (fun h => .inr (.inr h))
        have ho5 : ∀ i, qBlk (E1 k).qb hv4 wv4 i → (E1 k).own i ∨ W5.heap.size ≤ i := fun i hi => by
          rw [HEn.out] at hi ⊢; exact ho4 i hi
        have hT12 := HT5.out.upd HKk.out (hv' := hv4) (wv' := wv4) (Q' := Q') hm5 (by rw [HEn.out]; exact hq4) hw4 (fun y hy => HT5.out.vals y (hwo4.2 y hy)) ho5
        have hO12 := own_upd (t := t) (nb := nb) (wb := wb) (E := E1) HKk.out (hv' := hv4) (wv' := wv4) (Q' := Q') ho5
        have hqb : (E1 k).qb = qb := by rw [HEn.out]
        rw [hqb] at hT12 hO12
        have hnotO : ∀ i, ¬ (i = t ∨ i = wb ∨ (E1 k).own i) → i < W5.heap.size → W12.heap[i]? = W5.heap[i]? := fun i h1 h2 => hm5.block i h2 h1
        obtain ⟨s1, s2, s3, hit⟩ := HR5.out.iter
        have hit12 : W12.heap[ri]? = W5.heap[ri]? := hm5.block ri HR5.out.lt fun h => by
          rcases h with h | h | h
          · exact HT5.out.ne_iter hit (.inl rfl) h.symm
          · exact HT5.out.ne_iter hit (.inr (.inr (.inl rfl))) h.symm
          · exact HT5.out.ne_iter hit (.inr (.inr (.inr ⟨k, HKk.out, h⟩))) rfl
        have hnb12 : W12.heap[nb]? = W5.heap[nb]? := hm5.block nb HT5.out.names.lt fun h => by
          rcases h with h | h | h
          · exact HT5.out.t_ne.1 h.symm
          · exact HT5.out.ne h
          · exact (HT5.out.own_ne HKk.out h).2.1 rfl
        have hcell : ∀ (i : Nat) (c : Array Value) (ty : TypeId), W5.heap[i]? = some (.cells c ty) → ty ≠ 52 → 57 ≠ ty → 60 ≠ ty → 64 ≠ ty → W12.heap[i]? = some (.cells c ty) := fun i c ty hi n0 n1 n2 n3 => by
          refine (hm5.block i (Array.getElem?_eq_some_iff.1 hi).1 fun h => ?_).trans hi
          rcases h with h | h | h
          · subst h; exact heap_ne_ty hi HT5.out.wait.tab n0 rfl
          · subst h
            obtain ⟨es, clk, hm, -⟩ := HT5.out.wait.map
            rw [hm] at hi; cases hi
          · rw [HEn.out] at h
            exact HQ5.out.ne_cell hi n1 n2 n3 h
        have HBx12 := Lib.hid (hcell bx _ _ HBx5.out (by decide) (by decide) (by decide) (by decide))
        have HNx12 := Lib.hid (hcell nx _ _ HNx5.out (by decide) (by decide) (by decide) (by decide))
        have HR12 := Lib.hid (HR5.out.kept hnb12 hit12)
        have HT12 := Lib.hid hT12
        have HO12 := Lib.hid hO12
        have hown1 : ∀ i, i = t ∨ i = wb ∨ (E1 k).own i → Own t nb wb M1 E1 i := fun i h => by
          rcases h with h | h | h
          · exact .inl h
          · exact .inr (.inr (.inl h))
          · exact .inr (.inr (.inr ⟨k, HKk.out, h⟩))
        have HM12 := Lib.hid (HM5.out.trans (hm5.mono fun i _ h => HR.out.own i (hown1 i h)))
        have HRel := Lib.hid hrel4
        have HWo := Lib.hid hwo4
        have HQ12 := Lib.hid hq4
        have HNd := Lib.hid (HT5.out.wait.map.nodup (keyLaw_int (P := Tryz.prog) Tryz.underlying3).inj)
        obtain ⟨a4, c4, rfl, hch4, hmh4, -⟩ := own_cap hq4.held
        obtain ⟨a5, c5, rfl, hcw4, hmw4, -⟩ := own_cap hq4.wish
        have hlq := (hq4.lt (.inl rfl)).2
        have hk0 := hq4.cell0
        have hk1 := hq4.cell1
        have hz5 := HM5.out.size
        have hz12 := hm5.size
        have hl3 : Q'.H.length ≤ 9223372036854775807 := by simp only [maxLen] at hmh4; omega
        have hl4 : Q'.W.length ≤ 9223372036854775807 := by simp only [maxLen] at hmw4; omega
        clear hrel4 hq4 hw4 hwo4 hm4 ho4 hm5 ho5 hT12 hO12 hnotO hit hit12 hnb12 hcell hown1 hch4 hmh4 hcw4 hmw4
        obtain ⟨qu1, qu2⟩ := qOf_upd (E := E1) (e := ⟨qb, .slice a4 Q'.H.length c4, .slice a5 Q'.W.length c5, Q'⟩) HKk.out
        have HQ1 := Lib.hid qu1
        have HQ2 := Lib.hid qu2
        clear qu1 qu2
        by_cases hem : Q'.H.length = 0 ∧ Q'.W.length = 0
        · obtain ⟨hem1, hem2⟩ := hem
          have hz1 : ((Q'.H.length : Int) == 0) = true := by rw [hem1]; rfl
          have hz2 : ((Q'.W.length : Int) == 0) = true := by rw [hem2]; rfl
          have HEm : Hid (Q' = ⟨[], []⟩) := Lib.hid (by
            obtain ⟨QH, QW⟩ := Q'
            have h1 : QH = [] := List.length_eq_zero_iff.1 hem1
            have h2 : QW = [] := List.length_eq_zero_iff.1 hem2
            rw [h1, h2])
          clear hem1 hem2
          go_upto_region 12 with fail
          have hRd : KRange Nm.v W12.drew nb ri M1 (fun j => left j ∧ j ≠ k) cnt' := HR12.out.kept rfl rfl
          obtain ⟨o, cnt3, hdel, hR3, hle3⟩ := hRd.drop (P := Tryz.prog) Tryz.underlying49 keyLaw_nm k
          have hd2 : (Builtin.delete_ #[49, 31] 0 #[.map (some nb), .agg #[.int .i64 k.s, .string k.i]]).run Tryz.prog W12.drew = .ok (.tuple #[]) (ChangeMaps.setBlock W12.drew nb o) := hdel 31 0
          have hnd := HT12.out.names.nodup keyLaw_nm.inj
          obtain ⟨qd1, qd2⟩ := qOf_del (E := updE E1 k ⟨qb, .slice a4 Q'.H.length c4, .slice a5 Q'.W.length c5, Q'⟩) hnd k
          have HQd1 := Lib.hid qd1
          have HQd2 := Lib.hid qd2
          have hT13 : TabAt W12.drew B t nb wb turn M1 (updE E1 k ⟨qb, .slice a4 Q'.H.length c4, .slice a5 Q'.W.length c5, Q'⟩) Wt4 := HT12.out.keep fun _ _ => rfl
          have HT13 := Lib.hid (hT13.drop k (fun i _ hi => setB_far hi o) hR3.map)
          have HR3 := Lib.hid hR3
          have HM13 := Lib.hid (HM12.out.drew.setBlock (n := nb) HT12.out.names.lt (.inl (.inr (.inl rfl))) o)
          obtain ⟨es, clk, hm1, -⟩ := HT12.out.names
          have HBx13 : Hid ((ChangeMaps.setBlock W12.drew nb o).heap[bx]? = _) := Lib.hid ((setB_far (W := W12.drew) (Ne.symm (ne_of_map hm1 HBx12.out)) o).trans HBx12.out)
          have ct : W12.cell? ⟨t, 0, none⟩ = some (.map (some nb)) := (cell_of_block HT12.out.wait.tab 0).trans rfl
          have cx : W12.cell? ⟨nx, 0, none⟩ = some (.int .i64 k.s) := (cell_of_block HNx12.out 0).trans rfl
          have cy : W12.cell? ⟨nx, 1, none⟩ = some (.string k.i) := (cell_of_block HNx12.out 1).trans rfl
          have HS1 := Lib.hid fun W => setB_cell (W := W) (ne_of_map hm1 HT12.out.wait.tab) o 0
          have HS2 := Lib.hid fun W i => setB_cell (W := W) (ne_of_map hm1 HNx12.out) o i
          have HLe3 := Lib.hid hle3
          clear hRd hdel hR3 hnd qd1 qd2 hT13 hm1 hle3 hk0 hk1 hlq
          (go_region_held3 (fun W => W.cell? ⟨t, 0, none⟩ = some (.map (some nb)) ∧ W.cell? ⟨nx, 0, none⟩ = some (.int .i64 k.s) ∧ W.cell? ⟨nx, 1, none⟩ = some (.string k.i)) (first | exact ⟨ct, cx, cy⟩ | exact ⟨(HS1.out _).trans ct, (HS2.out _ _).trans cx, (HS2.out _ _).trans cy⟩ | go_keep) (fail))
          go_wp2_with fail
          go_roundg cnt3
          case measure => have := HLt.out; have := HCnt.out; have := HLe3.out; omega
          case rel => exact ⟨_, _, _, _, _, _, HR.out.next HLeft.out HKk.out (by rw [HEn.out]) HRel.out HT13.out HR3.out (fun j => ⟨fun h => h.1, fun h => ⟨h, h.2⟩⟩) HM13.out (fun i hi => HO12.out i (own_del i hi)) hz5 (HQd1.out.trans HEm.out.symm) (fun n hn => (HQd2.out n hn).trans (HQ2.out n hn)) HWo.out HBx13.out (delK_len k M1), Nat.le_refl _⟩
        · have hz1 : ((Q'.H.length : Int) == 0 && (Q'.W.length : Int) == 0) = false := by
            by_cases h1 : Q'.H.length = 0
            · have h2 : ¬ Q'.W.length = 0 := fun h => hem ⟨h1, h⟩
              simp; intro _; simpa using h2
            · simp; intro h; simp [h] at h1
          by_cases hz2 : Q'.H.length = 0
          · have hz3 : ((Q'.H.length : Int) == 0) = true := by rw [hz2]; rfl
            have hz4 : ((Q'.W.length : Int) == 0) = false := by rw [hz3] at hz1; simpa using hz1
            clear hem hz1 hz2
            go_wp2_with fail
            go_roundg cnt'
            case measure => have := HLt.out; have := HCnt.out; omega
            case rel => exact ⟨_, _, _, _, _, _, HR.out.next HLeft.out HKk.out (by rw [HEn.out]) HRel.out HT12.out HR12.out (fun j => Iff.rfl) HM12.out HO12.out hz5 HQ1.out HQ2.out HWo.out HBx12.out (Nat.le_refl _), Nat.le_refl _⟩
          · have hz3 : ((Q'.H.length : Int) == 0) = false := by simp; intro h; simp [h] at hz2
            clear hem hz1 hz2
            go_wp2_with fail
            go_roundg cnt'
            case measure => have := HLt.out; have := HCnt.out; omega
            case rel => exact ⟨_, _, _, _, _, _, HR.out.next HLeft.out HKk.out (by rw [HEn.out]) HRel.out HT12.out HR12.out (fun j => Iff.rfl) HM12.out HO12.out hz5 HQ1.out HQ2.out HWo.out HBx12.out (Nat.le_refl _), Nat.le_refl _⟩
end
end Go.Proofs.YtileamjmhhifaaaGreat
