/-
  Several texts in one: Lk22, Lk23.
-/
import Derived.Test.YtileamjmhhifaaaGreatPkB
import Derived.Test.YtileamjmhhifaaaGreatBOrd
import Derived.Test.YtileamjmhhifaaaGreatSortLayN
import Derived.Test.YtileamjmhhifaaaGreatSortLayH
namespace Go.Proofs.YtileamjmhhifaaaGreat
/-!
  Layer 9 (locks): names in order; holds by transaction; what is owned grows by what is owned.
-/
section
open Go.RowKit Go.Joins Go.Sort Go.Shelf
set_option linter.unusedVariables false
set_option linter.unusedSimpArgs false

/-- what is owned grows by what is owned, or by nothing -/
theorem app_rows {α : Type} (enc : α → List Value) (k by' : Nat) (ty ts : TypeId) (z : Value) (hk : ∀ x, (enc x).length = k) (h1 : ∀ x, ∀ v ∈ enc x, v.oneCell' = true) (hu : Tryz.prog.underlying ts = some (.slice ty)) (hin : (Tryz.prog.info? ty).map (fun i => (i.zero, i.size, i.bytes)) = some (some z, k, by')) (hzs : z.cells.size = k) (hk0 : 0 < k) (hby : by' ≤ 100)
    {w : World} {ops : Array Oper} {rest : List Oper} {o : Oper} {a : Act} {Q : Exit → Act → World → Prop} (hgd : o.guard = none) (s x : Operand)
    (ho : o.op = .call { callee := .builtin .append, args := #[s, x], argTypes := #[ts, ts] })
    (base base2 : Nat) (v v2 : Value) (L K : List α) (hs : a.eval s = v) (hown : w.ownsRow base ty k v L.length (L.flatMap enc)) (hx : a.eval x = v2) (hown2 : w.ownsRow base2 ty k v2 K.length (K.flatMap enc))
    (hl : L.length ≤ 10000000000) (hkl : K.length ≤ 10000000000) (hbase : base ≤ w.heap.size)
    (h : ∀ v' w', w'.ownsRow base ty k v' (L ++ K).length ((L ++ K).flatMap enc) → w.grownBy w' v.ownBlock → wpList Tryz.prog ops Q rest (a.put o.dst v') w') : wpList Tryz.prog ops Q (o :: rest) a w := by
  obtain ⟨i0, hi, hz0, hz1, hz2⟩ := info_parts hin
  obtain ⟨al, cp, rfl, -, -, hal⟩ := own_cap hown2
  rcases hal with ⟨rfl, h0, rfl⟩ | ⟨g, rfl, -, -⟩
  · have hK : K = [] := List.length_eq_zero_iff.1 h0
    subst hK
    refine wpList_append_own_none hgd s x _ ho base ty i0 k hu hi v L.length (L.flatMap enc) hs hown hx (h v w ?_ ⟨rfl, rfl, rfl, Nat.le_refl _, fun _ _ _ => rfl⟩)
    simpa using hown
  · have hone : ∀ u ∈ K.flatMap enc, u.oneCell' = true := fun u hu => by
      obtain ⟨p, -, hp⟩ := List.mem_flatMap.1 hu
      exact h1 p u hp
    have hbl : (L.length + K.length) * by' ≤ 20000000000 * 100 := Nat.mul_le_mul (by omega) hby
    refine wpList_append_own w hgd s x _ ho base ty i0 z k by' hu hi hz0 hz1 hz2 hzs hk0 v L.length (L.flatMap enc) hs hown ⟨g, 0, none⟩ K.length cp (K.flatMap enc) hx (flat_len hk K) (fun j u hj => ?_) hone (by simp only [maxLen]; omega) (by omega) hbase fun v' w' h2 h3 _ => h v' w' (by rw [List.flatMap_append, List.length_append]; exact h2) h3
    exact hown2.cells (g := g) rfl j u hj
theorem own_one {α : Type} (enc : α → List Value) (k : Nat) (hk : ∀ x, (enc x).length = k) (ty : TypeId) (W : World) (a : α) : (W.alloc (.cells (enc a).toArray ty)).ownsRow W.heap.size ty k (.slice (some ⟨W.heap.size, 0, none⟩) 1 1) [a].length ([a].flatMap enc) := by
  refine ⟨by simp [hk], .inr ⟨W.heap.size, 1, _, rfl, Nat.le_refl _, heap_alloc_new W _, Nat.le_refl _, by simp [maxLen], by simp [hk], ?_⟩⟩
  have := hk a
  simp [← this]

/-! ## names -/
def nmL (n : Nm) : List Value := [.int .i64 n.s, .string n.i]
theorem nmL_len (n : Nm) : (nmL n).length = 2 := rfl
theorem nmL_one (n : Nm) : ∀ v ∈ nmL n, v.oneCell' = true := by
  intro v hv
  simp [nmL] at hv
  rcases hv with rfl | rfl <;> rfl
def cmpS (a b : ByteArray) : Int := if KLt a b then -1 else if KLt b a then 1 else 0
theorem cmps_any (a b : ByteArray) (w : World) : Calls Tryz.prog 61 #[.string a, .string b] w fun e w' => e = .returned (.int .i64 (cmpS a b)) ∧ w' = w := by
  have e1 := blt_eq a b
  have e2 := blt_eq b a
  unfold cmpS
  by_cases h1 : KLt a b
  · rw [if_pos h1]
    have h1' : decide (KLt a b) = true := by simp [h1]
    rw [h1'] at e1
    clear e2 h1 h1'
    go_enter Tryz.func61, Tryz.ntmps61
    go_wp2
    go_ret
    exact ⟨rfl, rfl⟩
  · rw [if_neg h1]
    have h1' : decide (KLt a b) = false := by simp [h1]
    rw [h1'] at e1
    by_cases h2 : KLt b a
    · rw [if_pos h2]
      have h2' : decide (KLt b a) = true := by simp [h2]
      rw [h2'] at e2
      have e3 : (a.toList == b.toList) = false := by rw [beq_eq, decide_eq_false_iff_not]; exact fun e => h2.ne e.symm
      clear h1 h1' h2 h2'
      go_enter Tryz.func61, Tryz.ntmps61
      go_wp2
      go_ret
      exact ⟨rfl, rfl⟩
    · rw [if_neg h2]
      have h2' : decide (KLt b a) = false := by simp [h2]
      rw [h2'] at e2
      have e3 : (a.toList == b.toList) = true := by
        rw [beq_eq, decide_eq_true_iff]
        rcases KLt.tri a b with h | h | h
        · exact absurd h h1
        · exact h
        · exact absurd h h2
      clear h1 h1' h2 h2'
      go_enter Tryz.func61, Tryz.ntmps61
      go_wp2
      go_ret
      exact ⟨rfl, rfl⟩
def cmpN (n m : Nm) : Int := orI (cmpI n.s m.s) (cmpS n.i m.i)
def ltN (n m : Nm) : Prop := n.s < m.s ∨ n.s = m.s ∧ KLt n.i m.i
theorem cmpS_neg {a b : ByteArray} : cmpS a b < 0 ↔ KLt a b := by
  unfold cmpS
  by_cases h : KLt a b
  · rw [if_pos h]; exact ⟨fun _ => h, fun _ => by omega⟩
  · rw [if_neg h]
    split <;> exact ⟨fun h2 => by omega, fun h2 => absurd h2 h⟩
theorem ltOf_N (n m : Nm) : ltOf cmpN n m = true ↔ ltN n m := by
  unfold ltOf cmpN ltN orI
  rw [decide_eq_true_iff]
  by_cases h : n.s = m.s
  · rw [if_neg (by rw [ne_eq, Classical.not_not]; exact cmpI_zero.2 h), cmpS_neg]
    constructor
    · intro h2; exact .inr ⟨h, h2⟩
    · rintro (h2 | h2)
      · omega
      · exact h2.2
  · rw [if_pos (fun e => h (cmpI_zero.1 e)), cmpI_neg]
    constructor
    · exact .inl
    · rintro (h2 | h2)
      · exact h2
      · exact absurd h2.1 h
theorem ltOf_Nf (n m : Nm) : ltOf cmpN n m = false ↔ ¬ ltN n m := by rw [← ltOf_N]; simp
theorem ltN.tri (a b : Nm) : ltN a b ∨ a = b ∨ ltN b a := by
  unfold ltN
  rcases KLt.tri a.i b.i with h | h | h
  · rcases Int.lt_trichotomy a.s b.s with k | k | k
    · exact .inl (.inl k)
    · exact .inl (.inr ⟨k, h⟩)
    · exact .inr (.inr (.inl k))
  · rcases Int.lt_trichotomy a.s b.s with k | k | k
    · exact .inl (.inl k)
    · right; left
      cases a; cases b
      simp only at h k
      rw [h, k]
    · exact .inr (.inr (.inl k))
  · rcases Int.lt_trichotomy a.s b.s with k | k | k
    · exact .inl (.inl k)
    · exact .inr (.inr (.inr ⟨k.symm, h⟩))
    · exact .inr (.inr (.inl k))
theorem ltN.irrefl (a : Nm) : ¬ ltN a a := by
  rintro (h | h)
  · omega
  · exact KLt.irrefl _ h.2
theorem ltN.trans {a b c : Nm} (h : ltN a b) (k : ltN b c) : ltN a c := by
  unfold ltN at *
  rcases h with h | ⟨h, h'⟩ <;> rcases k with k | ⟨k, k'⟩
  · exact .inl (by omega)
  · exact .inl (by omega)
  · exact .inl (by omega)
  · exact .inr ⟨by omega, h'.trans k'⟩
theorem ltN.asymm {a b : Nm} (h : ltN a b) : ¬ ltN b a := fun k => ltN.irrefl _ (h.trans k)
theorem swoN : SWO (ltOf cmpN) where
  irrefl x := by rw [ltOf_Nf]; exact ltN.irrefl x
  trans x y z h1 h2 := by rw [ltOf_N] at *; exact h1.trans h2
  ntrans x y z h1 h2 := by
    rw [ltOf_Nf] at *
    intro h
    rcases ltN.tri x y with k | k | k
    · exact h1 k
    · subst k; exact h2 h
    · exact h2 (k.trans h)
theorem cfOrder : ∀ args w, (callFunc 36 args).run Tryz.prog w = .ok (.enter 36 args) w := fun args w => by kernel_rfl
set_option maxHeartbeats 1000000 in
set_option maxRecDepth 100000 in
theorem clo_order (p q : Nm) (W : World) : Calls Tryz.prog 36 #[.agg (nmL p).toArray, .agg (nmL q).toArray] W fun e w' => e = .returned (.int .i64 (cmpN p q)) ∧ Gr W w' := by
  obtain ⟨a, b⟩ := p
  obtain ⟨c, d⟩ := q
  have mixed : Tryz.prog.follows Departure.mixedOrders = true := by kernel_rfl
  show Calls _ _ #[.agg #[.int .i64 a, .string b], .agg #[.int .i64 c, .string d]] W _
  have hB1 : Gr W ((W.alloc (.cells #[.int .i64 a, .string b] 31)).alloc (.cells #[.int .i64 c, .string d] 31)) := ((Gr.refl W).alloc _).alloc _
  have k1 : ((W.alloc (.cells #[.int .i64 a, .string b] 31)).alloc (.cells #[.int .i64 c, .string d] 31)).cell? ⟨W.heap.size, 0, none⟩ = some (.int .i64 a) := (cell_of_block ((Below.heap_alloc _ _ _ (by simp)).trans (heap_alloc_new W _)) 0).trans rfl
  have k2 : ((W.alloc (.cells #[.int .i64 a, .string b] 31)).alloc (.cells #[.int .i64 c, .string d] 31)).cell? ⟨W.heap.size, 1, none⟩ = some (.string b) := (cell_of_block ((Below.heap_alloc _ _ _ (by simp)).trans (heap_alloc_new W _)) 1).trans rfl
  have hn := heap_alloc_new (W.alloc (.cells #[.int .i64 a, .string b] 31)) (.cells #[.int .i64 c, .string d] 31)
  rw [World.size_alloc] at hn
  have k3 := (cell_of_block hn 0).trans rfl
  have k4 := (cell_of_block hn 1).trans rfl
  clear hn
  go_enter Tryz.func36, Tryz.ntmps36
  go_wp2_with fail
  generalize (W.alloc (.cells #[.int .i64 a, .string b] 31)).alloc (.cells #[.int .i64 c, .string d] 31) = WA at *
  have HG := Lib.hid hB1
  clear hB1
  obtain ⟨WD, hWD⟩ : ∃ WD : World, WD = { WA with drawn := WA.drawn + 1 } := ⟨_, rfl⟩
  have HG3 : Hid (Gr W WD) := Lib.hid (by rw [hWD]; exact HG.out.drewN 1)
  have k1' : WD.cell? ⟨W.heap.size, 0, none⟩ = some (.int .i64 a) := by rw [hWD]; exact k1
  have k2' : WD.cell? ⟨W.heap.size, 1, none⟩ = some (.string b) := by rw [hWD]; exact k2
  have k3' : WD.cell? ⟨W.heap.size + 1, 0, none⟩ = some (.int .i64 c) := by rw [hWD]; exact k3
  have k4' : WD.cell? ⟨W.heap.size + 1, 1, none⟩ = some (.string d) := by rw [hWD]; exact k4
  refine wp_region_still_tail 10 mixed (by kernel_rfl) ?_
  simp only [List.take_succ_cons, List.take_zero, List.drop_succ_cons, List.drop_zero]
  rw [← hWD]
  clear k1 k2 k3 k4 HG hWD
  iterate 4 still_step
  still_call (cmpi_any a c WD)
  iterate 4 still_step
  still_call (cmps_any b d WD)
  refine wpStill_nil ?_
  clear k1' k2' k3' k4'
  go_wp2_with fail
  refine (or_new _ _ WD _).mono ?_; rintro e w1 ⟨rfl, rfl⟩
  go_wp2_with fail
  go_ret
  exact ⟨rfl, HG3.out.alloc _⟩
theorem sort_names (R : List Nm) (hl : R.length ≤ 4000000000000) (B : Nat) (v : Value) (w : World) (h : w.ownsRow B 31 2 v R.length (R.flatMap nmL)) :
    Calls Tryz.prog 35 #[v, .func (.func 36) #[] #[]] w fun e w' => e = .returned (.tuple #[]) ∧ ∃ R' : List Nm, R'.Perm R ∧ R'.Pairwise (fun x y => ¬ ltN y x) ∧ w'.ownsRow B 31 2 v R'.length (R'.flatMap nmL) ∧ Moved (fun i => v.ownBlock = some i) w w' := by
  have := sort_row Tryz.sortNm 2 (by omega) Tryz.isAgg31 Tryz.sizeOf31 nmL nmL_len nmL_one cmpN swoN 36 cfOrder clo_order R hl B 31 v w h
  refine Calls.mono this ?_
  rintro e w' ⟨rfl, R', h1, h2, h3, h4⟩
  exact ⟨rfl, R', h1, h2.imp fun hxy => (ltOf_Nf _ _).1 hxy, h3, h4⟩

/-! ## holds as All tells them -/
structure Ho where
  n : Nm
  x : Int
  m : Int
  w : Int
instance : Inhabited Ho := ⟨⟨default, 0, 0, 0⟩⟩
def hoL (h : Ho) : List Value := [.int .i64 h.n.s, .string h.n.i, .int .i64 h.x, .int .i64 h.m, .int .i64 h.w]
theorem hoL_len (h : Ho) : (hoL h).length = 5 := rfl
theorem hoL_one (h : Ho) : ∀ v ∈ hoL h, v.oneCell' = true := by
  intro v hv
  simp [hoL] at hv
  rcases hv with rfl | rfl | rfl | rfl | rfl <;> rfl
def cmpX (p q : Ho) : Int := cmpI p.x q.x
theorem ltOf_X (p q : Ho) : ltOf cmpX p q = true ↔ p.x < q.x := by
  unfold ltOf cmpX
  rw [decide_eq_true_iff, cmpI_neg]
theorem ltOf_Xf (p q : Ho) : ltOf cmpX p q = false ↔ ¬ p.x < q.x := by rw [← ltOf_X]; simp
theorem swoX : SWO (ltOf cmpX) where
  irrefl x := by rw [ltOf_Xf]; omega
  trans x y z h1 h2 := by rw [ltOf_X] at *; omega
  ntrans x y z h1 h2 := by rw [ltOf_Xf] at *; omega
theorem cfAll : ∀ args w, (callFunc 38 args).run Tryz.prog w = .ok (.enter 38 args) w := fun args w => by kernel_rfl
set_option maxHeartbeats 1000000 in
theorem clo_all (p q : Ho) (W : World) : Calls Tryz.prog 38 #[.agg (hoL p).toArray, .agg (hoL q).toArray] W fun e w' => e = .returned (.int .i64 (cmpX p q)) ∧ Gr W w' := by
  obtain ⟨⟨a, b⟩, x, m, u⟩ := p
  obtain ⟨⟨c, d⟩, y, k, v⟩ := q
  show Calls _ _ #[.agg #[.int .i64 a, .string b, .int .i64 x, .int .i64 m, .int .i64 u], .agg #[.int .i64 c, .string d, .int .i64 y, .int .i64 k, .int .i64 v]] W _
  have hG : Gr W ((W.alloc (.cells #[.int .i64 a, .string b, .int .i64 x, .int .i64 m, .int .i64 u] 80)).alloc (.cells #[.int .i64 c, .string d, .int .i64 y, .int .i64 k, .int .i64 v] 80)) := ((Gr.refl W).alloc _).alloc _
  have HG := Lib.hid hG
  clear hG
  go_enter Tryz.func38, Tryz.ntmps38
  go_wp2_with fail
  refine (cmpi_any _ _ _).mono ?_
  rintro e w1 ⟨rfl, rfl⟩
  go_wp2_with fail
  go_ret
  exact ⟨rfl, HG.out⟩
theorem sort_holds (R : List Ho) (hl : R.length ≤ 4000000000000) (B : Nat) (v : Value) (w : World) (h : w.ownsRow B 80 5 v R.length (R.flatMap hoL)) :
    Calls Tryz.prog 37 #[v, .func (.func 38) #[] #[]] w fun e w' => e = .returned (.tuple #[]) ∧ ∃ R' : List Ho, R'.Perm R ∧ R'.Pairwise (fun x y => ¬ y.x < x.x) ∧ w'.ownsRow B 80 5 v R'.length (R'.flatMap hoL) ∧ Moved (fun i => v.ownBlock = some i) w w' := by
  have := sort_row Tryz.sortHd 5 (by omega) Tryz.isAgg80 Tryz.sizeOf80 hoL hoL_len hoL_one cmpX swoX 38 cfAll clo_all R hl B 80 v w h
  refine Calls.mono this ?_
  rintro e w' ⟨rfl, R', h1, h2, h3, h4⟩
  exact ⟨rfl, R', h1, h2.imp fun hxy => (ltOf_Xf _ _).1 hxy, h3, h4⟩
theorem infoNm : (Tryz.prog.info? 31).map (fun i => (i.zero, i.size, i.bytes)) = some (some (.agg #[.int .i64 0, .string ⟨#[]⟩]), 2, 24) := by kernel_rfl
theorem infoHo : (Tryz.prog.info? 80).map (fun i => (i.zero, i.size, i.bytes)) = some (some (.agg #[.int .i64 0, .string ⟨#[]⟩, .int .i64 0, .int .i64 0, .int .i64 0]), 5, 48) := by kernel_rfl
end

/-!
  Layer 9 (locks): the walk of All.
-/
section
open Go.RowKit Go.Joins Go.Sort Go.Shelf
set_option linter.unusedVariables false
set_option linter.unusedSimpArgs false

def hoQ (n : Nm) (H : List Hd) : List Ho := H.map fun h => ⟨n, h.x, h.m, h.w⟩
def wsQ (n : Nm) (W : List Ws) : List Ho := W.map fun y => ⟨n, y.x, 0, y.m⟩
/-- names in order, and of each its holds by transaction and its wishes -/
inductive AllOf (q : Nm → Qu) : List Nm → List Ho → Prop
  | nil : AllOf q [] []
  | snoc {Ns : List Nm} {L R : List Ho} {n : Nm} (h : AllOf q Ns L) (hp : R.Perm (hoQ n (q n).H)) (hs : R.Pairwise (fun x y => ¬ y.x < x.x)) : AllOf q (Ns ++ [n]) (L ++ R ++ wsQ n (q n).W)
theorem AllOf.len {q : Nm → Qu} (hN : ∀ n, sizeQ (q n) ≤ 1000) {Ns : List Nm} {L : List Ho} (h : AllOf q Ns L) : L.length ≤ Ns.length * 1000 := by
  induction h with
  | nil => simp
  | @snoc Ns L R n h hp hs ih =>
    have h1 := hN n
    have h2 := hp.length_eq
    unfold sizeQ at h1
    simp only [hoQ, List.length_map] at h2
    simp only [List.length_append, wsQ, List.length_map, List.length_singleton, Nat.add_mul]
    omega
theorem hoQ_succ (n : Nm) (H : List Hd) (k : Nat) (hk : k < H.length) : hoQ n (H.take (k + 1)) = hoQ n (H.take k) ++ [⟨n, H[k].x, H[k].m, H[k].w⟩] := by
  unfold hoQ
  rw [List.take_succ_eq_append_getElem hk, List.map_append]; rfl
theorem wsQ_succ (n : Nm) (W : List Ws) (k : Nat) (hk : k < W.length) : wsQ n (W.take (k + 1)) = wsQ n (W.take k) ++ [⟨n, W[k].x, 0, W[k].m⟩] := by
  unfold wsQ
  rw [List.take_succ_eq_append_getElem hk, List.map_append]; rfl
theorem nm_cells {w : World} {B g n c : Nat} {L : List Nm} (h : w.ownsRow B 31 2 (.slice (some ⟨g, 0, none⟩) n c) n (L.flatMap nmL)) (j : Nat) (hj : j < L.length) :
    w.cell? ⟨g, j * 2, none⟩ = some (.int .i64 L[j].s) ∧ w.cell? ⟨g, j * 2 + 1, none⟩ = some (.string L[j].i) := by
  have hc := h.cells (g := g) rfl
  have hf := flat_get nmL_len L j
  refine ⟨?_, ?_⟩
  · have := hc (j * 2 + 0) _ ((hf 0 hj (by omega)).trans rfl); simpa [Addr.add_lit] using this
  · have := hc (j * 2 + 1) _ ((hf 1 hj (by omega)).trans rfl); simpa [Addr.add_lit] using this

section
variable {w : World} {B t nb wb : Nat} {turn : Int} {M : List (Nm × Value)} {E : Nm → Ent} {Wt : List (Int × Value)}
set_option maxHeartbeats 4000000 in
set_option maxRecDepth 100000 in
theorem all_any (h : TabAt w B t nb wb turn M E Wt) (hM : M.length ≤ 1000) (hN : ∀ n, sizeQ (qOf M E n) ≤ 1000) :
    Calls Tryz.prog 15 #[.pointer (some ⟨t, 0, none⟩)] w fun e w' => ∃ (v : Value) (Ns : List Nm) (A : List Ho), e = .returned v ∧ w'.ownsRow w.heap.size 80 5 v A.length (A.flatMap hoL) ∧ Ns.Pairwise ltN ∧ (∀ n, n ∈ Ns ↔ n ∈ keysM M) ∧ AllOf (qOf M E) Ns A ∧ Below w.heap.size w w' := by
  have mixed : Tryz.prog.follows Departure.mixedOrders = true := by kernel_rfl
  have HT := Lib.hid h
  have HM := Lib.hid hM
  have HN := Lib.hid hN
  obtain ⟨c0, -, -⟩ := h.cells
  obtain ⟨oi, hrng, hR0⟩ := range_k (P := Tryz.prog) keyLaw_nm.inj Tryz.underlying49 h.names
  have hb2 : Below w.heap.size w (w.alloc oi) := (Below.refl _ _).alloc (Nat.le_refl _) _
  have HR0 := Lib.hid hR0
  have HB2 := Lib.hid hb2
  clear h hM hN hR0 hb2
  go_enter Tryz.func15, Tryz.ntmps15
  go_wp2_with fail
  generalize w.alloc oi = W3 at *
  obtain ⟨ri, hri⟩ : ∃ ri, w.heap.size = ri := ⟨_, rfl⟩
  have HR3 : Hid (KRange Nm.v W3 nb ri M (fun k => k ∈ keysM M) M.length) := Lib.hid (by rw [← hri]; exact HR0.out)
  have HRi : Hid (w.heap.size ≤ ri) := Lib.hid (by omega)
  rw [hri]
  clear hri HR0 hrng c0
  go_loopg [3] M.length (fun gg tl wr => ∃ (N : List Nm) (left : Nm → Prop) (cnt : Nat), wr.ownsRow w.heap.size 31 2 tl N.length (N.flatMap nmL) ∧ KRange Nm.v wr nb ri M left cnt ∧ Below w.heap.size w wr ∧ (∀ n, n ∈ N ↔ n ∈ keysM M ∧ ¬ left n) ∧ N.Nodup ∧ N.length + cnt ≤ M.length ∧ cnt ≤ gg)
  case atStart => exact ⟨[], _, _, ⟨rfl, .inl ⟨rfl, rfl⟩⟩, HR3.out, HB2.out, fun n => ⟨fun h => (by cases h), fun ⟨h1, h2⟩ => absurd h1 h2⟩, List.nodup_nil, by simp, Nat.le_refl _⟩
  case round =>
    clear HR3 HB2
    obtain ⟨N, left, cnt, ho, hrg, hlow, hmem, hnd, hlen, hcnt⟩ := hrel
    obtain ⟨wo, rfl⟩ : ∃ wo : World, wo = wr := ⟨_, rfl⟩
    have HMem := Lib.hid hmem
    have HNd := Lib.hid hnd
    have HLen := Lib.hid hlen
    have HCnt := Lib.hid hcnt
    have HLow := Lib.hid hlow
    have HO := Lib.hid ho
    clear hmem hnd hlen hcnt hlow ho
    rcases hrg.next (P := Tryz.prog) keyLaw_nm.inj with ⟨h0, hnone, hNx⟩ | ⟨kn, v, w2, cnt', hkv, hleft, hNx, hR2, hlt2, hg2, hsz2, hent⟩
    · have hNl : N.length ≤ 1000 := by have := HLen.out; have := HM.out; omega
      have HSo := Lib.hid (sort_names N (by omega) w.heap.size _ wo HO.out)
      have HNl := Lib.hid hNl
      have HNo := Lib.hid hnone
      clear hrg hnone h0 hNl
      go_wp2_with fail
      refine HSo.out.mono ?_
      rintro e w5 ⟨rfl, Ns, hperm, hsort, hown5, hmv5⟩
      have hNs : Ns.Pairwise ltN := by
        have h1 : Ns.Nodup := hperm.nodup_iff.2 HNd.out
        rw [List.pairwise_iff_getElem] at hsort ⊢
        intro i j hi hj hij
        rcases ltN.tri Ns[i] Ns[j] with h | h | h
        · exact h
        · exact absurd h (List.pairwise_iff_getElem.1 h1 i j hi hj hij)
        · exact absurd h (hsort i j hi hj hij)
      have hNm : ∀ n, n ∈ Ns ↔ n ∈ keysM M := fun n => by
        rw [hperm.mem_iff, HMem.out n]
        exact ⟨fun h => h.1, fun h => ⟨h, HNo.out n⟩⟩
      have hNsl : Ns.length ≤ 1000 := by rw [hperm.length_eq]; exact HNl.out
      have hlen5 : N.length = Ns.length := hperm.length_eq.symm
      have HLow5 := Lib.hid (HLow.out.trans ((hmv5.toBelow (B := w.heap.size) HLow.out.size fun i hi => (HO.out.lt i hi).1)))
      obtain ⟨aN, cN, hvN, hcN, hmN, haN⟩ := own_cap hown5
      subst hvN
      have HO5 := Lib.hid hown5
      have HNs := Lib.hid hNs
      have HNm := Lib.hid hNm
      have HNsl := Lib.hid hNsl
      have hNs9 : Ns.length ≤ 9223372036854775807 := by omega
      clear hperm hsort hown5 hmv5 hNs hNm hNsl hlen5 HSo HMem HNd HLen HNo HO HLow HNl hcN hmN
      go_wp2_with fail
      go_loopw [5, 33] (fun tl ti wr => ∃ (j : Nat) (L : List Ho), j ≤ Ns.length ∧ ti = .int .i64 j ∧ wr.ownsRow w.heap.size 80 5 tl L.length (L.flatMap hoL) ∧ AllOf (qOf M E) (Ns.take j) L ∧ wr.ownsRow w.heap.size 31 2 (.slice aN Ns.length cN) Ns.length (Ns.flatMap nmL) ∧ Below w.heap.size w wr) (fun _ ti _ => Ns.length - (intOf ti).toNat)
      case atStart => exact ⟨0, [], by omega, rfl, ⟨rfl, .inl ⟨rfl, rfl⟩⟩, .nil, HO5.out, HLow5.out⟩
      case round =>
        clear HO5 HLow5
        obtain ⟨j, L, hj, rfl, hl, hall, hn5, hlow⟩ := hrel
        obtain ⟨w6, rfl⟩ : ∃ w6 : World, w6 = wr := ⟨_, rfl⟩
        have HL := Lib.hid hl
        have HAll := Lib.hid hall
        have HN5 := Lib.hid hn5
        have HLow := Lib.hid hlow
        clear hl hall hn5 hlow
        by_cases hlt : j < Ns.length
        · obtain ⟨gN, rfl, hgN, hgNl⟩ := haN.resolve_left (by omega)
          have hki : decide ((j : Int) < (Ns.length : Int)) = true := by simp; omega
          obtain ⟨d0, d1⟩ := nm_cells HN5.out j hlt
          have hgl6 := (HN5.out.lt gN rfl).2
          have hkk : Ns[j] ∈ keysM M := (HNm.out _).1 (List.getElem_mem hlt)
          have HTk := Lib.hid (List.take_succ_eq_append_getElem hlt)
          obtain ⟨n, hn⟩ : ∃ n, Ns[j] = n := ⟨_, rfl⟩
          rw [hn] at d0 d1 hkk HTk
          clear hn
          obtain ⟨⟨qb, hv, wv, Q⟩, hen⟩ : ∃ en, E n = en := ⟨_, rfl⟩
          have hQn : qOf M E n = Q := by rw [qOf_in hkk, hen]
          have HQn := Lib.hid hQn
          have HKk := Lib.hid hkk
          have HEn := Lib.hid hen
          have hqe : (E n).qb = qb := by rw [hen]
          have hT6 := HT.out.below HLow.out
          have hlk := hT6.look n
          have hnl6 := hT6.names.lt
          have htl6 := hT6.wait.lt.1
          have hct := hT6.cells.1
          have hb7 : Below w6.heap.size w6 (w6.alloc (.cells #[.int .i64 n.s, .string n.i] 31)) := (Below.refl _ _).alloc (Nat.le_refl _) _
          have hbx7 := heap_alloc_new w6 (.cells #[.int .i64 n.s, .string n.i] 31)
          have HLk : Hid (∀ W : World, W.heap[nb]? = w6.heap[nb]? → (Instr.lookup 49 (.map (some nb)) (.agg #[.int .i64 n.s, .string n.i]) false).run Tryz.prog W = .ok (.pointer (some ⟨qb, 0, none⟩)) W) := Lib.hid fun W hW => by
            have := hlk W hW
            rw [if_pos hkk, hqe] at this
            exact this
          have HB7 := Lib.hid hb7
          have HBx7 := Lib.hid hbx7
          have hct7 := (hb7.cell (p := ⟨t, 0, none⟩) htl6).trans hct
          have hnl7 := (hb7.block nb hnl6)
          have hsz7 : w6.heap.size + 1 = (w6.alloc (.cells #[.int .i64 n.s, .string n.i] 31)).heap.size := by simp
          clear hen hkk hqe hT6 hlk hb7 hbx7
          go_upto_region 13 with fail
          obtain ⟨bx, hbxe⟩ : ∃ bx, w6.heap.size = bx := ⟨_, rfl⟩
          have hz6 : bx = w6.heap.size := hbxe.symm
          rw [hbxe] at HBx7
          rw [hbxe]
          generalize w6.alloc (.cells #[.int .i64 n.s, .string n.i] 31) = w7 at *
          have hbx7l : bx < w7.heap.size := by omega
          have ht7l : t < w7.heap.size := by omega
          have hnb7l : nb < w7.heap.size := by omega
          have hz67 : w6.heap.size ≤ w7.heap.size := by omega
          have HZ67 := Lib.hid hz67
          have HZ6 := Lib.hid hz6
          clear hz6 hbxe hsz7 hz67
          have hg0 := fun k os => cell_grown (w := w7) (a := ⟨t, 0, none⟩) ht7l hct7 k os
          have hg1 := fun k os => cell_grown (w := w7) (a := ⟨bx, 0, none⟩) hbx7l ((cell_of_block HBx7.out 0).trans rfl) k os
          have hg2 := fun k os => cell_grown (w := w7) (a := ⟨bx, 1, none⟩) hbx7l ((cell_of_block HBx7.out 1).trans rfl) k os
          have hl5 : ∀ k os, (Instr.lookup 49 (.map (some nb)) (.agg #[.int .i64 n.s, .string n.i]) false).run Tryz.prog (grow (w7.drewN k) os) = .ok (.pointer (some ⟨qb, 0, none⟩)) (grow (w7.drewN k) os) := fun k os =>
            HLk.out _ (((Gr.below (w := w7) ⟨k, os, rfl⟩).block nb hnb7l).trans hnl7)
          clear hct7 hct d0 d1
          refine wp_region_quiet_grown (by assumption) (by kernel_rfl) ?_
          iterate 7 (with_reducible refine wpQuiet_step (fun K hK => ?_); go_simp; with_reducible refine hK _ ?_; clear hK K)
          with_reducible refine wpQuiet_nil ?_
          with_reducible intro _ hw'
          obtain ⟨⟨nq, osq⟩, hw''⟩ := hw'
          subst hw''
          have hbg := (Gr.below (w := w7) ⟨nq, osq, rfl⟩)
          have hb68 : Below w6.heap.size w6 (grow (w7.drewN nq) osq) := HB7.out.trans (hbg.mono HZ67.out)
          have HBx8 := Lib.hid ((hbg.block bx hbx7l).trans HBx7.out)
          have HB8 := Lib.hid hb68
          have hz8 : bx < (grow (w7.drewN nq) osq).heap.size := by have := hbg.size; omega
          clear hg0 hg1 hg2 hl5 hbg hb68 HB7 HBx7 HLk hnl7 hbx7l ht7l hnb7l
          generalize grow (w7.drewN nq) osq = w8 at *
          have HL8 := Lib.hid (own_keep HL.out fun g hg => HB8.out.block g (HL.out.lt g hg).2)
          have HN8 := Lib.hid (own_keep HN5.out fun g hg => HB8.out.block g (HN5.out.lt g hg).2)
          have HLow8 := Lib.hid (HLow.out.trans (HB8.out.mono HLow.out.size))
          have hq : QAt w B qb hv wv Q := by have h1 := HT.out.qat n HKk.out; rw [HEn.out] at h1; exact h1
          have HQ := Lib.hid hq
          have hqs : Q.H.length + Q.W.length ≤ 1000 := by have h1 := HN.out n; rw [HQn.out] at h1; exact h1
          have HQs := Lib.hid hqs
          obtain ⟨ah, ch, rfl, hch, hmh, hah⟩ := own_cap hq.held
          obtain ⟨aw, cw, rfl, hcw, hmw, haw⟩ := own_cap hq.wish
          have hq8 := hq.below HLow8.out
          have hk0 := hq8.cell0
          have hlq := (hq8.lt (.inl rfl)).2
          have hl1 : Q.H.length ≤ 9223372036854775807 := by omega
          have hl2 : Q.W.length ≤ 9223372036854775807 := by omega
          clear hq hqs hch hmh hcw hmw hq8 hQn HL HN5 HLow HB8
          go_wp2_with fail
          go_loopw [9, 48] (fun tw ti wr => ∃ (k : Nat), k ≤ Q.H.length ∧ ti = .int .i64 k ∧ wr.ownsRow w8.heap.size 80 5 tw (hoQ n (Q.H.take k)).length ((hoQ n (Q.H.take k)).flatMap hoL) ∧ Below w8.heap.size w8 wr) (fun _ ti _ => Q.H.length - (intOf ti).toNat)
          case atStart => exact ⟨0, by omega, rfl, ⟨rfl, .inl ⟨rfl, rfl⟩⟩, Below.refl _ _⟩
          case round =>
            clear hk0 hlq
            obtain ⟨k, hk, rfl, ho9, hb9⟩ := hrel
            obtain ⟨w9, rfl⟩ : ∃ w9 : World, w9 = wr := ⟨_, rfl⟩
            have HO9 := Lib.hid ho9
            have HB9 := Lib.hid hb9
            clear ho9 hb9
            have hz9 := HB9.out.size
            by_cases hlt3 : k < Q.H.length
            · obtain ⟨gb, rfl, hgb, hgl⟩ := hah.resolve_left (by omega)
              have hki3 : decide ((k : Int) < (Q.H.length : Int)) = true := by simp; omega
              obtain ⟨d0, d1, d2, d3⟩ := hd_cells ((HQ.out.below HLow8.out).below HB9.out).held k hlt3
              have hgl9 := (((HQ.out.below HLow8.out).below HB9.out).held.lt gb rfl).2
              have HS9 := Lib.hid (hoQ_succ n Q.H k hlt3)
              have hR9 : (hoQ n (Q.H.take k)).length ≤ 10000000000 := by
                have := HQs.out
                rw [hoQ, List.length_map, List.length_take]; omega
              generalize Q.H[k] = hd at *
              obtain ⟨R9, hR9e⟩ : ∃ R9, hoQ n (Q.H.take k) = R9 := ⟨_, rfl⟩
              rw [hR9e] at HO9 hR9
              have HR9 := Lib.hid hR9e
              clear hR9e
              have hb10 : Below w9.heap.size w9 ((w9.alloc (.cells #[.int .i64 hd.x, .int .i64 hd.m, .int .i64 hd.w, .int .i64 hd.t] 60)).alloc (.cells #[.int .i64 n.s, .string n.i, .int .i64 hd.x, .int .i64 hd.m, .int .i64 hd.w] 80)) := ((Below.refl _ _).alloc (Nat.le_refl _) _).alloc (by simp) _
              have ho10 := own_keep HO9.out fun g hg => hb10.block g (HO9.out.lt g hg).2
              have HB10 := Lib.hid (HB9.out.trans (hb10.mono hz9))
              have hz10 := HB10.out.size
              have hon : ((w9.alloc (.cells #[.int .i64 hd.x, .int .i64 hd.m, .int .i64 hd.w, .int .i64 hd.t] 60)).alloc (.cells #[.int .i64 n.s, .string n.i, .int .i64 hd.x, .int .i64 hd.m, .int .i64 hd.w] 80)).ownsRow (w9.alloc (.cells #[.int .i64 hd.x, .int .i64 hd.m, .int .i64 hd.w, .int .i64 hd.t] 60)).heap.size 80 5 (.slice (some ⟨(w9.alloc (.cells #[.int .i64 hd.x, .int .i64 hd.m, .int .i64 hd.w, .int .i64 hd.t] 60)).heap.size, 0, none⟩) 1 1) [(⟨n, hd.x, hd.m, hd.w⟩ : Ho)].length ([(⟨n, hd.x, hd.m, hd.w⟩ : Ho)].flatMap hoL) := own_one hoL 5 hoL_len 80 _ ⟨n, hd.x, hd.m, hd.w⟩
              rw [World.size_alloc] at hon
              have hbx9 := (HB9.out.block bx hz8).trans HBx8.out
              have hbxc0 : w9.cell? ⟨bx, 0, none⟩ = some (.int .i64 n.s) := (cell_of_block hbx9 0).trans rfl
              have hbxc1 : w9.cell? ⟨bx, 1, none⟩ = some (.string n.i) := (cell_of_block hbx9 1).trans rfl
              have hbxl9 : bx < w9.heap.size := (Array.getElem?_eq_some_iff.1 hbx9).1
              have HO10 := Lib.hid ho10
              clear hb10 hbx9
              go_wp2_with (at_builtin; refine app_rows hoL 5 48 80 43 _ hoL_len hoL_one Tryz.underlying43 infoHo rfl (by decide) (by decide) rfl _ _ rfl w8.heap.size _ _ (.slice (some ⟨w9.heap.size + 1, 0, none⟩) 1 1) R9 [⟨n, hd.x, hd.m, hd.w⟩] rfl ho10 rfl hon hR9 (by simp) hz10 ?_)
              intro v11 w11 ho11 hg11
              have HO11 : Hid (w11.ownsRow w8.heap.size 80 5 v11 (R9 ++ [(⟨n, hd.x, hd.m, hd.w⟩ : Ho)]).length ((R9 ++ [(⟨n, hd.x, hd.m, hd.w⟩ : Ho)]).flatMap hoL)) := Lib.hid (by simpa using ho11)
              have HB11 := Lib.hid (HB10.out.grown hg11 hz10 fun q hq => (HO10.out.lt q hq).1)
              clear ho10 hon ho11 hg11 hR9 hz10 hbxc0 hbxc1 hbxl9
              go_wp2_with fail
              refine ⟨⟨k + 1, by omega, by go_num, ?_, HB11.out⟩, by simp [intOf]; omega⟩
              rw [HS9.out, HR9.out]
              exact HO11.out
            · have hki3 : decide ((k : Int) < (Q.H.length : Int)) = false := by simp; omega
              have hkk9 : k = Q.H.length := by omega
              subst hkk9
              rw [List.take_length] at HO9
              have hR9 : (hoQ n Q.H).length ≤ 1000 := by
                have := HQs.out
                rw [hoQ, List.length_map]; omega
              have HSo := Lib.hid (sort_holds (hoQ n Q.H) (by omega) w8.heap.size _ w9 HO9.out)
              go_wp2_with fail
              refine HSo.out.mono ?_
              rintro e w12 ⟨rfl, R, hperm, hsort, hown12, hmv12⟩
              have hb12 := HB9.out.trans (hmv12.toBelow (B := w8.heap.size) hz9 fun i hi => (HO9.out.lt i hi).1)
              have hRl : R.length ≤ 10000000000 := by rw [hperm.length_eq]; omega
              have hown12' : w12.ownsRow w8.heap.size 80 5 _ R.length (R.flatMap hoL) := hown12
              have hl12 := own_keep HL8.out fun g hg => hb12.block g (HL8.out.lt g hg).2
              have hLl : L.length ≤ 10000000000 := by
                have h1 := HAll.out.len HN.out
                rw [List.length_take] at h1
                have h2 : min j Ns.length * 1000 ≤ 1000 * 1000 := Nat.mul_le_mul_right _ (by have := HNsl.out; omega)
                omega
              have hz12 : w.heap.size ≤ w12.heap.size := by have := hb12.size; have := HLow8.out.size; omega
              have HB12 := Lib.hid hb12
              have HL12 := Lib.hid hl12
              have HPerm := Lib.hid hperm
              have HSort := Lib.hid hsort
              have hRl2 : R.length ≤ 1000 := by rw [hperm.length_eq]; exact hR9
              have HRl := Lib.hid hRl2
              clear hown12 hmv12 hb12 hperm hsort HSo HO9 HB9 hR9 hRl2
              go_wp2_with (at_builtin; refine app_rows hoL 5 48 80 43 _ hoL_len hoL_one Tryz.underlying43 infoHo rfl (by decide) (by decide) rfl _ _ rfl w.heap.size _ _ _ L R rfl hl12 rfl hown12' hLl hRl hz12 ?_)
              intro v13 w13 ho13 hg13
              have HO13 : Hid (w13.ownsRow w.heap.size 80 5 v13 (L ++ R).length ((L ++ R).flatMap hoL)) := Lib.hid (by simpa using ho13)
              have hb8 := HLow8.out.trans (HB12.out.mono HLow8.out.size)
              have HB13 := Lib.hid (hb8.grown hg13 hb8.size fun q hq => (HL12.out.lt q hq).1)
              have hbx12 := (HB12.out.block bx hz8).trans HBx8.out
              have HBx13 := Lib.hid ((hg13.block bx (Array.getElem?_eq_some_iff.1 hbx12).1 fun e => own_ne_bl HL12.out hbx12 (by decide) e.symm).trans hbx12)
              have HN13 := Lib.hid (own_keep HN8.out fun g hg => (hg13.block g (by have := (HN8.out.lt g hg).2; have := HB12.out.size; omega) fun e => (by
                obtain ⟨c, hc⟩ := own_blkv HL12.out e.symm
                obtain ⟨c', hc'⟩ := own_blkv HN8.out hg
                have h3 := (HB12.out.block g (HN8.out.lt g hg).2).trans hc'
                exact heap_ne_ty hc h3 (by decide) rfl)).trans (HB12.out.block g (HN8.out.lt g hg).2))
              have HLR : Hid ((L ++ R).length ≤ 5000000) := Lib.hid (by
                have h1 := HAll.out.len HN.out
                rw [List.length_take] at h1
                have h2 : min j Ns.length * 1000 ≤ 1000 * 1000 := Nat.mul_le_mul_right _ (by have := HNsl.out; omega)
                have h3 := HRl.out
                rw [List.length_append]; omega)
              have hq13 := HQ.out.below HB13.out
              have hk1 := hq13.cell1
              have hlq := (hq13.lt (.inl rfl)).2
              clear hown12' hl12 hLl hz12 ho13 hg13 hb8 hbx12 hRl hq13 HL12 HB12
              obtain ⟨L2, hL2⟩ : ∃ L2, L ++ R = L2 := ⟨_, rfl⟩
              rw [hL2] at HO13 HLR
              have HL2 := Lib.hid hL2
              clear hL2
              go_wp2_with fail
              go_loopw [5, 74] (fun tl ti wr => ∃ (i : Nat), i ≤ Q.W.length ∧ ti = .int .i64 i ∧ wr.ownsRow w.heap.size 80 5 tl (L2 ++ wsQ n (Q.W.take i)).length ((L2 ++ wsQ n (Q.W.take i)).flatMap hoL) ∧ wr.ownsRow w.heap.size 31 2 (.slice (some ⟨gN, 0, none⟩) Ns.length cN) Ns.length (Ns.flatMap nmL) ∧ wr.heap[bx]? = some (.cells #[.int .i64 n.s, .string n.i] 31) ∧ Below w.heap.size w wr) (fun _ ti _ => Q.W.length - (intOf ti).toNat)
              case atStart => exact ⟨0, by omega, rfl, by rw [List.take_zero, show wsQ n [] = [] from rfl, List.append_nil]; exact HO13.out, HN13.out, HBx13.out, HB13.out⟩
              case round =>
                clear hk1 hlq HO13 HN13 HBx13 HB13
                obtain ⟨i, hi, rfl, ho14, hn14, hbx14, hb14⟩ := hrel
                obtain ⟨w14, rfl⟩ : ∃ w14 : World, w14 = wr := ⟨_, rfl⟩
                have HO14 := Lib.hid ho14
                have HN14 := Lib.hid hn14
                have HBx14 := Lib.hid hbx14
                have HB14 := Lib.hid hb14
                clear ho14 hn14 hbx14 hb14
                have hz14 := HB14.out.size
                by_cases hlt4 : i < Q.W.length
                · obtain ⟨gw, rfl, hgw, hgwl⟩ := haw.resolve_left (by omega)
                  have hki4 : decide ((i : Int) < (Q.W.length : Int)) = true := by simp; omega
                  obtain ⟨d0, d1⟩ := ws_cells (HQ.out.below HB14.out).wish i hlt4
                  have hgl14 := ((HQ.out.below HB14.out).wish.lt gw rfl).2
                  have HS14 := Lib.hid (wsQ_succ n Q.W i hlt4)
                  have hR14 : (L2 ++ wsQ n (Q.W.take i)).length ≤ 10000000000 := by
                    have h1 := HQs.out
                    have h2 := HLR.out
                    rw [List.length_append, wsQ, List.length_map, List.length_take]; omega
                  generalize Q.W[i] = y at *
                  obtain ⟨L3, hL3⟩ : ∃ L3, L2 ++ wsQ n (Q.W.take i) = L3 := ⟨_, rfl⟩
                  rw [hL3] at HO14 hR14
                  have HL3 := Lib.hid hL3
                  clear hL3
                  have hb15 : Below w14.heap.size w14 ((w14.alloc (.cells #[.int .i64 y.x, .int .i64 y.m] 64)).alloc (.cells #[.int .i64 n.s, .string n.i, .int .i64 y.x, .int .i64 0, .int .i64 y.m] 80)) := ((Below.refl _ _).alloc (Nat.le_refl _) _).alloc (by simp) _
                  have ho15 := own_keep HO14.out fun g hg => hb15.block g (HO14.out.lt g hg).2
                  have HN15 := Lib.hid (own_keep HN14.out fun g hg => hb15.block g (HN14.out.lt g hg).2)
                  have hbxl := (Array.getElem?_eq_some_iff.1 HBx14.out).1
                  have HBx15 := Lib.hid ((hb15.block bx hbxl).trans HBx14.out)
                  have HB15 := Lib.hid (HB14.out.trans (hb15.mono hz14))
                  have hz15 := HB15.out.size
                  have hon : ((w14.alloc (.cells #[.int .i64 y.x, .int .i64 y.m] 64)).alloc (.cells #[.int .i64 n.s, .string n.i, .int .i64 y.x, .int .i64 0, .int .i64 y.m] 80)).ownsRow (w14.alloc (.cells #[.int .i64 y.x, .int .i64 y.m] 64)).heap.size 80 5 (.slice (some ⟨(w14.alloc (.cells #[.int .i64 y.x, .int .i64 y.m] 64)).heap.size, 0, none⟩) 1 1) [(⟨n, y.x, 0, y.m⟩ : Ho)].length ([(⟨n, y.x, 0, y.m⟩ : Ho)].flatMap hoL) := own_one hoL 5 hoL_len 80 _ ⟨n, y.x, 0, y.m⟩
                  rw [World.size_alloc] at hon
                  have hbxc0 : w14.cell? ⟨bx, 0, none⟩ = some (.int .i64 n.s) := (cell_of_block HBx14.out 0).trans rfl
                  have hbxc1 : w14.cell? ⟨bx, 1, none⟩ = some (.string n.i) := (cell_of_block HBx14.out 1).trans rfl
                  have hbxl9 : bx < w14.heap.size := hbxl
                  have HO15 := Lib.hid ho15
                  clear hb15
                  go_wp2_with (at_builtin; refine app_rows hoL 5 48 80 43 _ hoL_len hoL_one Tryz.underlying43 infoHo rfl (by decide) (by decide) rfl _ _ rfl w.heap.size _ _ (.slice (some ⟨w14.heap.size + 1, 0, none⟩) 1 1) L3 [⟨n, y.x, 0, y.m⟩] rfl ho15 rfl hon hR14 (by simp) hz15 ?_)
                  intro v16 w16 ho16 hg16
                  have HO16 : Hid (w16.ownsRow w.heap.size 80 5 v16 (L3 ++ [(⟨n, y.x, 0, y.m⟩ : Ho)]).length ((L3 ++ [(⟨n, y.x, 0, y.m⟩ : Ho)]).flatMap hoL)) := Lib.hid (by simpa using ho16)
                  have HB16 := Lib.hid (HB15.out.grown hg16 hz15 fun q hq => (HO15.out.lt q hq).1)
                  have HBx16 := Lib.hid ((hg16.block bx (Array.getElem?_eq_some_iff.1 HBx15.out).1 fun e => own_ne_bl HO15.out HBx15.out (by decide) e.symm).trans HBx15.out)
                  have HN16 := Lib.hid (own_keep HN15.out fun g hg => hg16.block g (HN15.out.lt g hg).2 fun e => (by
                    obtain ⟨c, hc⟩ := own_blkv HO15.out e.symm
                    obtain ⟨c', hc'⟩ := own_blkv HN15.out hg
                    exact heap_ne_ty hc hc' (by decide) rfl))
                  clear ho15 hon ho16 hg16 hR14 hz15 hbxc0 hbxc1 hbxl9
                  go_wp2_with fail
                  refine ⟨⟨i + 1, by omega, by go_num, ?_, HN16.out, HBx16.out, HB16.out⟩, by simp [intOf]; omega⟩
                  rw [HS14.out, ← List.append_assoc, HL3.out]
                  exact HO16.out
                · have hki4 : decide ((i : Int) < (Q.W.length : Int)) = false := by simp; omega
                  have hii : i = Q.W.length := by omega
                  subst hii
                  rw [List.take_length] at HO14
                  go_wp2_with fail
                  refine ⟨⟨j + 1, L2 ++ wsQ n Q.W, by omega, by go_num, HO14.out, ?_, HN14.out, HB14.out⟩, by simp [intOf]; omega⟩
                  have hsn := HAll.out.snoc (n := n) (R := R) (by rw [HQn.out]; exact HPerm.out) (HSort.out.imp fun h => by omega)
                  rw [HTk.out, ← HL2.out]
                  rw [HQn.out] at hsn
                  exact hsn
        · have hki : decide ((j : Int) < (Ns.length : Int)) = false := by simp; omega
          have hjj : j = Ns.length := by omega
          subst hjj
          have hall := HAll.out
          rw [List.take_length] at hall
          have HAl2 := Lib.hid hall
          clear hall
          go_wp2_with fail
          go_ret
          exact ⟨_, Ns, L, rfl, HL.out, HNs.out, HNm.out, HAl2.out, HLow.out⟩
    · have hkk : kn ∈ keysM M := List.mem_map.2 ⟨_, hkv, rfl⟩
      obtain ⟨qv, hve⟩ : ∃ qv, v = .pointer qv := ⟨_, HT.out.ptr _ hkv⟩
      subst hve
      have hN' : ∀ ty, (Instr.next (.pointer (some ⟨ri, 0, none⟩)) false ty).run Tryz.prog wo = .ok (.tuple #[.bool true, .agg #[.int .i64 kn.s, .string kn.i], .pointer qv]) w2 := hNx
      have hent' : (Instr.entry (.pointer (some ⟨ri, 0, none⟩))).run Tryz.prog w2 = .ok (.tuple #[.agg #[.int .i64 kn.s, .string kn.i], .pointer qv]) w2 := hent
      have ho2 := own_keep (w' := w2) HO.out fun g hg => hg2.block g (HO.out.lt g hg).2 fun e => (by
        obtain ⟨c, hc⟩ := own_blkv HO.out hg
        obtain ⟨s, se, c9, hi⟩ := hrg.iter
        rw [Option.some.inj e, hi] at hc
        cases hc)
      have hlow2 := HLow.out.grown hg2 HLow.out.size fun q hq => (by cases hq; exact HRi.out)
      have hz2 := hlow2.size
      have ho3 := (ho2.alloc (.cells #[.int .i64 kn.s, .string kn.i] 31)).alloc (.cells #[.int .i64 kn.s, .string kn.i] 31)
      have hlow3 := (hlow2.alloc hz2 (.cells #[.int .i64 kn.s, .string kn.i] 31)).alloc (by rw [World.size_alloc]; omega) (.cells #[.int .i64 kn.s, .string kn.i] 31)
      have hb3 : Below w2.heap.size w2 ((w2.alloc (.cells #[.int .i64 kn.s, .string kn.i] 31)).alloc (.cells #[.int .i64 kn.s, .string kn.i] 31)) := ((Below.refl _ _).alloc (Nat.le_refl _) _).alloc (by simp) _
      have hnbl : nb < w2.heap.size := by
        have h1 := HT.out.names.lt
        omega
      have hr3 := hR2.kept (hb3.block nb hnbl) (hb3.block ri hR2.lt)
      have hon : ((w2.alloc (.cells #[.int .i64 kn.s, .string kn.i] 31)).alloc (.cells #[.int .i64 kn.s, .string kn.i] 31)).ownsRow (w2.alloc (.cells #[.int .i64 kn.s, .string kn.i] 31)).heap.size 31 2 (.slice (some ⟨(w2.alloc (.cells #[.int .i64 kn.s, .string kn.i] 31)).heap.size, 0, none⟩) 1 1) [kn].length ([kn].flatMap nmL) := own_one nmL 2 nmL_len 31 _ kn
      rw [World.size_alloc] at hon
      have hz3 := hlow3.size
      have hl3 : N.length ≤ 10000000000 := by have := HLen.out; have := HM.out; omega
      have HR3 := Lib.hid hr3
      have HLow3 := Lib.hid hlow3
      have HO3 := Lib.hid ho3
      have HKk := Lib.hid hkk
      have HLeft := Lib.hid hleft
      have HLt := Lib.hid hlt2
      clear hrg hkv hleft hNx hR2 hlt2 hg2 hent hkk hsz2 ho2 hlow2 hz2 hb3 hnbl hr3 hlow3
      go_wp2_with (at_builtin; refine app_rows nmL 2 24 31 67 _ nmL_len nmL_one Tryz.underlying67 infoNm rfl (by decide) (by decide) rfl _ _ rfl w.heap.size _ _ (.slice (some ⟨w2.heap.size + 1, 0, none⟩) 1 1) N [kn] rfl ho3 rfl hon hl3 (by simp) hz3 ?_)
      intro v7 w7 ho7 hg7
      have hr7 := HR3.out.kept (hg7.block nb (by have h1 := HT.out.names.lt; omega) fun e => by
        have h1 := (HO3.out.lt nb e.symm).1
        have h2 := HT.out.names.lt
        omega) (hg7.block ri HR3.out.lt fun e => by
        obtain ⟨c, hc⟩ := own_blkv HO3.out e.symm
        obtain ⟨s, se, c9, hi⟩ := HR3.out.iter
        rw [hi] at hc; cases hc)
      have hlow7 := HLow3.out.grown hg7 HLow3.out.size fun q hq => (HO3.out.lt q hq).1
      have HR7 := Lib.hid hr7
      have HLow7 := Lib.hid hlow7
      have HO7 : Hid (w7.ownsRow w.heap.size 31 2 v7 (N ++ [kn]).length ((N ++ [kn]).flatMap nmL)) := Lib.hid (by simpa using ho7)
      clear ho3 hon hl3 hz3 ho7 hg7 hr7 hlow7 hN' hent'
      go_wp2_with fail
      go_roundg cnt'
      case measure => have := HLt.out; have := HCnt.out; omega
      case rel =>
        have hkn : kn ∉ N := fun h => ((HMem.out kn).1 h).2 HLeft.out
        refine ⟨N ++ [kn], _, cnt', HO7.out, HR7.out, HLow7.out, fun n => ?_, List.nodup_append.2 ⟨HNd.out, by simp, fun a ha b hb => ?_⟩, ?_, Nat.le_refl _⟩
        · rw [List.mem_append, HMem.out n, List.mem_singleton]
          constructor
          · rintro (⟨h1, h2⟩ | h)
            · exact ⟨h1, fun h => h2 h.1⟩
            · rw [h]; exact ⟨HKk.out, fun h => h.2 rfl⟩
          · rintro ⟨h1, h2⟩
            by_cases e : n = kn
            · exact .inr e
            · exact .inl ⟨h1, fun h => h2 ⟨h, e⟩⟩
        · rw [List.mem_singleton.1 hb]; exact fun e => hkn (e ▸ ha)
        · have h1 := HLen.out
          have h2 := HLt.out
          rw [List.length_append, List.length_singleton]; omega
end
end
end Go.Proofs.YtileamjmhhifaaaGreat
