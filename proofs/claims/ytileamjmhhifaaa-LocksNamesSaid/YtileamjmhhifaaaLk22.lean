/-
  Layer 9 (locks): names in order; holds by transaction; what is owned grows by what is owned.
-/
import Derived.Test.YtileamjmhhifaaaLk19
import Derived.Test.YtileamjmhhifaaaBOrd
import Derived.Test.YtileamjmhhifaaaSortLayN
import Derived.Test.YtileamjmhhifaaaSortLayH
namespace Go.Proofs.Ytileamjmhhifaaa
open Go.RowKit Go.Joins Go.Sort Go.Shelf
set_option linter.unusedVariables false
set_option linter.unusedSimpArgs false

/-- what is owned grows by what is owned, or by nothing -/
theorem app_rows {α : Type} (enc : α → List Value) (k by' : Nat) (ty ts : TypeId) (z : Value) (hk : ∀ x, (enc x).length = k) (h1 : ∀ x, ∀ v ∈ enc x, v.oneCell' = true) (hu : Try.prog.underlying ts = some (.slice ty)) (hin : (Try.prog.info? ty).map (fun i => (i.zero, i.size, i.bytes)) = some (some z, k, by')) (hzs : z.cells.size = k) (hk0 : 0 < k) (hby : by' ≤ 100)
    {w : World} {ops : Array Oper} {rest : List Oper} {o : Oper} {a : Act} {Q : Exit → Act → World → Prop} (hgd : o.guard = none) (s x : Operand)
    (ho : o.op = .call { callee := .builtin .append, args := #[s, x], argTypes := #[ts, ts] })
    (base base2 : Nat) (v v2 : Value) (L K : List α) (hs : a.eval s = v) (hown : w.ownsRow base ty k v L.length (L.flatMap enc)) (hx : a.eval x = v2) (hown2 : w.ownsRow base2 ty k v2 K.length (K.flatMap enc))
    (hl : L.length ≤ 10000000000) (hkl : K.length ≤ 10000000000) (hbase : base ≤ w.heap.size)
    (h : ∀ v' w', w'.ownsRow base ty k v' (L ++ K).length ((L ++ K).flatMap enc) → w.grownBy w' v.ownBlock → wpList Try.prog ops Q rest (a.put o.dst v') w') : wpList Try.prog ops Q (o :: rest) a w := by
  obtain ⟨i0, hi, hz0, hz1, hz2⟩ := info_parts hin
  obtain ⟨al, cp, rfl, -, -, hal⟩ := own_cap hown2
  rcases hal with ⟨rfl, h0, rfl⟩ | ⟨g, rfl, -, -⟩
  · have hK : K = [] := List.length_eq_zero_iff.1 h0
    subst hK
    refine wpList_append_own_none hgd s x _ ho base ty i0 k hu hi v L.length (L.flatMap enc) hs hown hx (h v w ?_ ⟨rfl, rfl, rfl, Nat.le_refl _, fun _ _ _ => rfl⟩)
    simpa using hown
  · have hone : ∀ u ∈ K.flatMap enc, u.oneCell' = true := fun u hu => by
      obtain ⟨p, -, hp⟩ := List.mem_flatMap.1 hu
      exact h1 p u hp
    have hbl : (L.length + K.length) * by' ≤ 20000000000 * 100 := Nat.mul_le_mul (by omega) hby
    refine wpList_append_own w hgd s x _ ho base ty i0 z k by' hu hi hz0 hz1 hz2 hzs hk0 v L.length (L.flatMap enc) hs hown ⟨g, 0, none⟩ K.length cp (K.flatMap enc) hx (flat_len hk K) (fun j u hj => ?_) hone (by simp only [maxLen]; omega) (by omega) hbase fun v' w' h2 h3 _ => h v' w' (by rw [List.flatMap_append, List.length_append]; exact h2) h3
    exact hown2.cells (g := g) rfl j u hj
theorem own_one {α : Type} (enc : α → List Value) (k : Nat) (hk : ∀ x, (enc x).length = k) (ty : TypeId) (W : World) (a : α) : (W.alloc (.cells (enc a).toArray ty)).ownsRow W.heap.size ty k (.slice (some ⟨W.heap.size, 0, none⟩) 1 1) [a].length ([a].flatMap enc) := by
  refine ⟨by simp [hk], .inr ⟨W.heap.size, 1, _, rfl, Nat.le_refl _, heap_alloc_new W _, Nat.le_refl _, by simp [maxLen], by simp [hk], ?_⟩⟩
  have := hk a
  simp [← this]

/-! ## names -/
def nmL (n : Nm) : List Value := [.int .i64 n.s, .string n.i]
theorem nmL_len (n : Nm) : (nmL n).length = 2 := rfl
theorem nmL_one (n : Nm) : ∀ v ∈ nmL n, v.oneCell' = true := by
  intro v hv
  simp [nmL] at hv
  rcases hv with rfl | rfl <;> rfl
def cmpS (a b : ByteArray) : Int := if KLt a b then -1 else if KLt b a then 1 else 0
theorem cmps_any (a b : ByteArray) (w : World) : Calls Try.prog 47 #[.string a, .string b] w fun e w' => e = .returned (.int .i64 (cmpS a b)) ∧ w' = w := by
  have e1 := blt_eq a b
  have e2 := blt_eq b a
  unfold cmpS
  by_cases h1 : KLt a b
  · rw [if_pos h1]
    have h1' : decide (KLt a b) = true := by simp [h1]
    rw [h1'] at e1
    clear e2 h1 h1'
    go_enter Try.func47, Try.ntmps47
    go_wp2
    go_ret
    exact ⟨rfl, rfl⟩
  · rw [if_neg h1]
    have h1' : decide (KLt a b) = false := by simp [h1]
    rw [h1'] at e1
    by_cases h2 : KLt b a
    · rw [if_pos h2]
      have h2' : decide (KLt b a) = true := by simp [h2]
      rw [h2'] at e2
      have e3 : (a.toList == b.toList) = false := by rw [beq_eq, decide_eq_false_iff_not]; exact fun e => h2.ne e.symm
      clear h1 h1' h2 h2'
      go_enter Try.func47, Try.ntmps47
      go_wp2
      go_ret
      exact ⟨rfl, rfl⟩
    · rw [if_neg h2]
      have h2' : decide (KLt b a) = false := by simp [h2]
      rw [h2'] at e2
      have e3 : (a.toList == b.toList) = true := by
        rw [beq_eq, decide_eq_true_iff]
        rcases KLt.tri a b with h | h | h
        · exact absurd h h1
        · exact h
        · exact absurd h h2
      clear h1 h1' h2 h2'
      go_enter Try.func47, Try.ntmps47
      go_wp2
      go_ret
      exact ⟨rfl, rfl⟩
def cmpN (n m : Nm) : Int := orI (cmpI n.s m.s) (cmpS n.i m.i)
def ltN (n m : Nm) : Prop := n.s < m.s ∨ n.s = m.s ∧ KLt n.i m.i
theorem cmpS_neg {a b : ByteArray} : cmpS a b < 0 ↔ KLt a b := by
  unfold cmpS
  by_cases h : KLt a b
  · rw [if_pos h]; exact ⟨fun _ => h, fun _ => by omega⟩
  · rw [if_neg h]
    split <;> exact ⟨fun h2 => by omega, fun h2 => absurd h2 h⟩
theorem ltOf_N (n m : Nm) : ltOf cmpN n m = true ↔ ltN n m := by
  unfold ltOf cmpN ltN orI
  rw [decide_eq_true_iff]
  by_cases h : n.s = m.s
  · rw [if_neg (by rw [ne_eq, Classical.not_not]; exact cmpI_zero.2 h), cmpS_neg]
    constructor
    · intro h2; exact .inr ⟨h, h2⟩
    · rintro (h2 | h2)
      · omega
      · exact h2.2
  · rw [if_pos (fun e => h (cmpI_zero.1 e)), cmpI_neg]
    constructor
    · exact .inl
    · rintro (h2 | h2)
      · exact h2
      · exact absurd h2.1 h
theorem ltOf_Nf (n m : Nm) : ltOf cmpN n m = false ↔ ¬ ltN n m := by rw [← ltOf_N]; simp
theorem ltN.tri (a b : Nm) : ltN a b ∨ a = b ∨ ltN b a := by
  unfold ltN
  rcases KLt.tri a.i b.i with h | h | h
  · rcases Int.lt_trichotomy a.s b.s with k | k | k
    · exact .inl (.inl k)
    · exact .inl (.inr ⟨k, h⟩)
    · exact .inr (.inr (.inl k))
  · rcases Int.lt_trichotomy a.s b.s with k | k | k
    · exact .inl (.inl k)
    · right; left
      cases a; cases b
      simp only at h k
      rw [h, k]
    · exact .inr (.inr (.inl k))
  · rcases Int.lt_trichotomy a.s b.s with k | k | k
    · exact .inl (.inl k)
    · exact .inr (.inr (.inr ⟨k.symm, h⟩))
    · exact .inr (.inr (.inl k))
theorem ltN.irrefl (a : Nm) : ¬ ltN a a := by
  rintro (h | h)
  · omega
  · exact KLt.irrefl _ h.2
theorem ltN.trans {a b c : Nm} (h : ltN a b) (k : ltN b c) : ltN a c := by
  unfold ltN at *
  rcases h with h | ⟨h, h'⟩ <;> rcases k with k | ⟨k, k'⟩
  · exact .inl (by omega)
  · exact .inl (by omega)
  · exact .inl (by omega)
  · exact .inr ⟨by omega, h'.trans k'⟩
theorem ltN.asymm {a b : Nm} (h : ltN a b) : ¬ ltN b a := fun k => ltN.irrefl _ (h.trans k)
theorem swoN : SWO (ltOf cmpN) where
  irrefl x := by rw [ltOf_Nf]; exact ltN.irrefl x
  trans x y z h1 h2 := by rw [ltOf_N] at *; exact h1.trans h2
  ntrans x y z h1 h2 := by
    rw [ltOf_Nf] at *
    intro h
    rcases ltN.tri x y with k | k | k
    · exact h1 k
    · subst k; exact h2 h
    · exact h2 (k.trans h)
theorem cfOrder : ∀ args w, (callFunc 30 args).run Try.prog w = .ok (.enter 30 args) w := fun args w => by kernel_rfl
set_option maxHeartbeats 1000000 in
set_option maxRecDepth 100000 in
theorem clo_order (p q : Nm) (W : World) : Calls Try.prog 30 #[.agg (nmL p).toArray, .agg (nmL q).toArray] W fun e w' => e = .returned (.int .i64 (cmpN p q)) ∧ Gr W w' := by
  obtain ⟨a, b⟩ := p
  obtain ⟨c, d⟩ := q
  have mixed : Try.prog.follows Departure.mixedOrders = true := by kernel_rfl
  show Calls _ _ #[.agg #[.int .i64 a, .string b], .agg #[.int .i64 c, .string d]] W _
  have hB1 : Gr W ((W.alloc (.cells #[.int .i64 a, .string b] 24)).alloc (.cells #[.int .i64 c, .string d] 24)) := ((Gr.refl W).alloc _).alloc _
  have k1 : ((W.alloc (.cells #[.int .i64 a, .string b] 24)).alloc (.cells #[.int .i64 c, .string d] 24)).cell? ⟨W.heap.size, 0, none⟩ = some (.int .i64 a) := (cell_of_block ((Below.heap_alloc _ _ _ (by simp)).trans (heap_alloc_new W _)) 0).trans rfl
  have k2 : ((W.alloc (.cells #[.int .i64 a, .string b] 24)).alloc (.cells #[.int .i64 c, .string d] 24)).cell? ⟨W.heap.size, 1, none⟩ = some (.string b) := (cell_of_block ((Below.heap_alloc _ _ _ (by simp)).trans (heap_alloc_new W _)) 1).trans rfl
  have hn := heap_alloc_new (W.alloc (.cells #[.int .i64 a, .string b] 24)) (.cells #[.int .i64 c, .string d] 24)
  rw [World.size_alloc] at hn
  have k3 := (cell_of_block hn 0).trans rfl
  have k4 := (cell_of_block hn 1).trans rfl
  clear hn
  go_enter Try.func30, Try.ntmps30
  go_wp2_with fail
  generalize (W.alloc (.cells #[.int .i64 a, .string b] 24)).alloc (.cells #[.int .i64 c, .string d] 24) = WA at *
  have HG := Lib.hid hB1
  clear hB1
  obtain ⟨WD, hWD⟩ : ∃ WD : World, WD = { WA with drawn := WA.drawn + 1 } := ⟨_, rfl⟩
  have HG3 : Hid (Gr W WD) := Lib.hid (by rw [hWD]; exact HG.out.drewN 1)
  have k1' : WD.cell? ⟨W.heap.size, 0, none⟩ = some (.int .i64 a) := by rw [hWD]; exact k1
  have k2' : WD.cell? ⟨W.heap.size, 1, none⟩ = some (.string b) := by rw [hWD]; exact k2
  have k3' : WD.cell? ⟨W.heap.size + 1, 0, none⟩ = some (.int .i64 c) := by rw [hWD]; exact k3
  have k4' : WD.cell? ⟨W.heap.size + 1, 1, none⟩ = some (.string d) := by rw [hWD]; exact k4
  refine wp_region_still_tail 10 mixed (by kernel_rfl) ?_
  simp only [List.take_succ_cons, List.take_zero, List.drop_succ_cons, List.drop_zero]
  rw [← hWD]
  clear k1 k2 k3 k4 HG hWD
  iterate 4 still_step
  still_call (cmpi_any a c WD)
  iterate 4 still_step
  still_call (cmps_any b d WD)
  refine wpStill_nil ?_
  clear k1' k2' k3' k4'
  go_wp2_with fail
  refine (or_new _ _ WD _).mono ?_; rintro e w1 ⟨rfl, rfl⟩
  go_wp2_with fail
  go_ret
  exact ⟨rfl, HG3.out.alloc _⟩
theorem sort_names (R : List Nm) (hl : R.length ≤ 4000000000000) (B : Nat) (v : Value) (w : World) (h : w.ownsRow B 24 2 v R.length (R.flatMap nmL)) :
    Calls Try.prog 29 #[v, .func (.func 30) #[] #[]] w fun e w' => e = .returned (.tuple #[]) ∧ ∃ R' : List Nm, R'.Perm R ∧ R'.Pairwise (fun x y => ¬ ltN y x) ∧ w'.ownsRow B 24 2 v R'.length (R'.flatMap nmL) ∧ Moved (fun i => v.ownBlock = some i) w w' := by
  have := sort_row Try.sortNm 2 (by omega) Try.isAgg24 Try.sizeOf24 nmL nmL_len nmL_one cmpN swoN 30 cfOrder clo_order R hl B 24 v w h
  refine Calls.mono this ?_
  rintro e w' ⟨rfl, R', h1, h2, h3, h4⟩
  exact ⟨rfl, R', h1, h2.imp fun hxy => (ltOf_Nf _ _).1 hxy, h3, h4⟩

/-! ## holds as All tells them -/
structure Ho where
  n : Nm
  x : Int
  m : Int
  w : Int
instance : Inhabited Ho := ⟨⟨default, 0, 0, 0⟩⟩
def hoL (h : Ho) : List Value := [.int .i64 h.n.s, .string h.n.i, .int .i64 h.x, .int .i64 h.m, .int .i64 h.w]
theorem hoL_len (h : Ho) : (hoL h).length = 5 := rfl
theorem hoL_one (h : Ho) : ∀ v ∈ hoL h, v.oneCell' = true := by
  intro v hv
  simp [hoL] at hv
  rcases hv with rfl | rfl | rfl | rfl | rfl <;> rfl
def cmpX (p q : Ho) : Int := cmpI p.x q.x
theorem ltOf_X (p q : Ho) : ltOf cmpX p q = true ↔ p.x < q.x := by
  unfold ltOf cmpX
  rw [decide_eq_true_iff, cmpI_neg]
theorem ltOf_Xf (p q : Ho) : ltOf cmpX p q = false ↔ ¬ p.x < q.x := by rw [← ltOf_X]; simp
theorem swoX : SWO (ltOf cmpX) where
  irrefl x := by rw [ltOf_Xf]; omega
  trans x y z h1 h2 := by rw [ltOf_X] at *; omega
  ntrans x y z h1 h2 := by rw [ltOf_Xf] at *; omega
theorem cfAll : ∀ args w, (callFunc 32 args).run Try.prog w = .ok (.enter 32 args) w := fun args w => by kernel_rfl
set_option maxHeartbeats 1000000 in
theorem clo_all (p q : Ho) (W : World) : Calls Try.prog 32 #[.agg (hoL p).toArray, .agg (hoL q).toArray] W fun e w' => e = .returned (.int .i64 (cmpX p q)) ∧ Gr W w' := by
  obtain ⟨⟨a, b⟩, x, m, u⟩ := p
  obtain ⟨⟨c, d⟩, y, k, v⟩ := q
  show Calls _ _ #[.agg #[.int .i64 a, .string b, .int .i64 x, .int .i64 m, .int .i64 u], .agg #[.int .i64 c, .string d, .int .i64 y, .int .i64 k, .int .i64 v]] W _
  have hG : Gr W ((W.alloc (.cells #[.int .i64 a, .string b, .int .i64 x, .int .i64 m, .int .i64 u] 47)).alloc (.cells #[.int .i64 c, .string d, .int .i64 y, .int .i64 k, .int .i64 v] 47)) := ((Gr.refl W).alloc _).alloc _
  have HG := Lib.hid hG
  clear hG
  go_enter Try.func32, Try.ntmps32
  go_wp2_with fail
  refine (cmpi_any _ _ _).mono ?_
  rintro e w1 ⟨rfl, rfl⟩
  go_wp2_with fail
  go_ret
  exact ⟨rfl, HG.out⟩
theorem sort_holds (R : List Ho) (hl : R.length ≤ 4000000000000) (B : Nat) (v : Value) (w : World) (h : w.ownsRow B 47 5 v R.length (R.flatMap hoL)) :
    Calls Try.prog 31 #[v, .func (.func 32) #[] #[]] w fun e w' => e = .returned (.tuple #[]) ∧ ∃ R' : List Ho, R'.Perm R ∧ R'.Pairwise (fun x y => ¬ y.x < x.x) ∧ w'.ownsRow B 47 5 v R'.length (R'.flatMap hoL) ∧ Moved (fun i => v.ownBlock = some i) w w' := by
  have := sort_row Try.sortHd 5 (by omega) Try.isAgg47 Try.sizeOf47 hoL hoL_len hoL_one cmpX swoX 32 cfAll clo_all R hl B 47 v w h
  refine Calls.mono this ?_
  rintro e w' ⟨rfl, R', h1, h2, h3, h4⟩
  exact ⟨rfl, R', h1, h2.imp fun hxy => (ltOf_Xf _ _).1 hxy, h3, h4⟩
theorem infoNm : (Try.prog.info? 24).map (fun i => (i.zero, i.size, i.bytes)) = some (some (.agg #[.int .i64 0, .string ⟨#[]⟩]), 2, 24) := by kernel_rfl
theorem infoHo : (Try.prog.info? 47).map (fun i => (i.zero, i.size, i.bytes)) = some (some (.agg #[.int .i64 0, .string ⟨#[]⟩, .int .i64 0, .int .i64 0, .int .i64 0]), 5, 48) := by kernel_rfl
end Go.Proofs.Ytileamjmhhifaaa
