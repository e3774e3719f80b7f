/-
  Several texts in one: Lk14, Lk15, Lk16, Lk17, Lk18.
-/
import Derived.Test.YtileamjmhhifaaaGreatLk13
import Derived.StillTailTactics
import Derived.ChangeKeysEq
import Derived.Laws.AppendOwnNone
namespace Go.Proofs.YtileamjmhhifaaaGreat
/-!
  Layer 9 (locks): cmp.Compare, cmp.Or; pairs of transactions, sorted.
-/
section
open Go.RowKit Go.Joins Go.Sort Go.Shelf
set_option linter.unusedVariables false
set_option linter.unusedSimpArgs false

def cmpI (a b : Int) : Int := if a < b then -1 else if b < a then 1 else 0
theorem cmpi_any (a b : Int) (w : World) : Calls Tryz.prog 39 #[.int .i64 a, .int .i64 b] w fun e w' => e = .returned (.int .i64 (cmpI a b)) ∧ w' = w := by
  unfold cmpI
  by_cases h1 : a < b
  · rw [if_pos h1]
    go_enter Tryz.func39, Tryz.ntmps39
    go_wp2
    go_ret
    exact ⟨rfl, rfl⟩
  · rw [if_neg h1]
    by_cases h2 : b < a
    · rw [if_pos h2]
      go_enter Tryz.func39, Tryz.ntmps39
      go_wp2
      go_ret
      exact ⟨rfl, rfl⟩
    · rw [if_neg h2]
      go_enter Tryz.func39, Tryz.ntmps39
      go_wp2
      go_ret
      exact ⟨rfl, rfl⟩
def orI (x y : Int) : Int := if x ≠ 0 then x else y
/-- the first that is not 0 -/
theorem or_any (b : Nat) (x y : Int) (w : World) (hl : b < w.heap.size) (h0 : w.cell? ⟨b, 0, none⟩ = some (.int .i64 x)) (h1 : w.cell? ⟨b, 1, none⟩ = some (.int .i64 y)) :
    Calls Tryz.prog 44 #[.slice (some ⟨b, 0, none⟩) 2 2] w fun e w' => e = .returned (.int .i64 (orI x y)) ∧ w' = w := by
  go_enter Tryz.func44, Tryz.ntmps44
  go_wp2_with fail
  go_loopw [8] (fun ti wr => ∃ k : Nat, k ≤ 2 ∧ ti = .int .i64 k ∧ (1 ≤ k → x = 0) ∧ (2 ≤ k → y = 0) ∧ wr = w) (fun ti _ => 2 - (intOf ti).toNat)
  case atStart => exact ⟨0, by omega, rfl, fun h => by omega, fun h => by omega, rfl⟩
  case round =>
    obtain ⟨k, hk, rfl, e1, e2, rfl⟩ := hrel
    obtain rfl | rfl | rfl : k = 0 ∨ k = 1 ∨ k = 2 := by omega
    · by_cases hx : x = 0
      · subst hx
        clear e1 e2
        go_wp2_with fail
        go_roundw
        case rel => exact ⟨1, by omega, by go_num, fun _ => (by first | rfl | trivial), fun h => (by first | omega | trivial), by first | rfl | trivial⟩
        case measure => simp [intOf]
      · have hb : (x != 0) = true := by simp [hx]
        clear e1 e2
        go_wp2_with fail
        go_ret
        exact ⟨by first | rfl | (unfold orI; rw [if_pos hx]; rfl), rfl⟩
    · have hx := e1 (by omega)
      subst hx
      by_cases hy : y = 0
      · subst hy
        clear e1 e2
        go_wp2_with fail
        go_roundw
        case rel => exact ⟨2, by omega, by go_num, fun _ => (by first | rfl | trivial), fun _ => (by first | rfl | trivial), by first | rfl | trivial⟩
        case measure => simp [intOf]
      · have hb : (y != 0) = true := by simp [hy]
        clear e1 e2
        go_wp2_with fail
        go_ret
        exact ⟨rfl, rfl⟩
    · have hx := e1 (by omega)
      have hy := e2 (by omega)
      subst hx
      subst hy
      clear e1 e2
      go_wp2_with fail
      go_ret
      exact ⟨rfl, rfl⟩
/-- pairs -/
abbrev Pr := Int × Int
def prL (p : Pr) : List Value := [.int .i64 p.1, .int .i64 p.2]
def arRow (L : List Pr) : List Value := L.flatMap prL
theorem prL_len (p : Pr) : (prL p).length = 2 := rfl
def cmpP (p q : Pr) : Int := orI (cmpI p.1 q.1) (cmpI p.2 q.2)
def ltP (p q : Pr) : Prop := p.1 < q.1 ∨ p.1 = q.1 ∧ p.2 < q.2
theorem cmpI_neg {a b : Int} : cmpI a b < 0 ↔ a < b := by unfold cmpI; split <;> first | (constructor <;> omega) | (split <;> constructor <;> omega)
theorem cmpI_zero {a b : Int} : cmpI a b = 0 ↔ a = b := by unfold cmpI; split <;> first | (constructor <;> omega) | (split <;> constructor <;> omega)
theorem ltOf_P (p q : Pr) : ltOf cmpP p q = true ↔ ltP p q := by
  unfold ltOf cmpP ltP orI
  rw [decide_eq_true_iff]
  by_cases h : p.1 = q.1
  · rw [if_neg (by rw [ne_eq, Classical.not_not]; exact cmpI_zero.2 h), cmpI_neg]
    constructor
    · intro h2; exact .inr ⟨h, h2⟩
    · rintro (h2 | h2)
      · omega
      · exact h2.2
  · rw [if_pos (fun e => h (cmpI_zero.1 e)), cmpI_neg]
    constructor
    · exact .inl
    · rintro (h2 | h2)
      · exact h2
      · exact absurd h2.1 h
theorem ltOf_Pf (p q : Pr) : ltOf cmpP p q = false ↔ ¬ ltP p q := by
  rw [← ltOf_P]; simp
theorem swoP : SWO (ltOf cmpP) where
  irrefl x := by rw [ltOf_Pf]; unfold ltP; omega
  trans x y z h1 h2 := by rw [ltOf_P] at *; unfold ltP at *; omega
  ntrans x y z h1 h2 := by rw [ltOf_Pf] at *; unfold ltP at *; omega

theorem or_new (x y : Int) (W : World) (ty : TypeId) : Calls Tryz.prog 44 #[.slice (some ⟨W.heap.size, 0, none⟩) 2 2] (W.alloc (.cells #[.int .i64 x, .int .i64 y] ty)) fun e w' => e = .returned (.int .i64 (orI x y)) ∧ w' = W.alloc (.cells #[.int .i64 x, .int .i64 y] ty) :=
  or_any _ x y _ (by simp) ((World.cell?_alloc_mark W _ _ (0, 0) 0).trans rfl) ((World.cell?_alloc_mark W _ _ (0, 0) 1).trans rfl)
theorem or_newd (x y : Int) (W : World) (ty : TypeId) : Calls Tryz.prog 44 #[.slice (some ⟨W.heap.size, 0, none⟩) 2 2] (W.alloc (.cells #[.int .i64 x, .int .i64 y] ty)).drew fun e w' => e = .returned (.int .i64 (orI x y)) ∧ w' = (W.alloc (.cells #[.int .i64 x, .int .i64 y] ty)).drew :=
  or_new x y W.drew ty

set_option maxHeartbeats 1000000 in
set_option maxRecDepth 100000 in
theorem clo_arcs (p q : Pr) (W : World) : Calls Tryz.prog 43 #[.agg (prL p).toArray, .agg (prL q).toArray] W fun e w' => e = .returned (.int .i64 (cmpP p q)) ∧ Gr W w' := by
  obtain ⟨a, b⟩ := p
  obtain ⟨c, d⟩ := q
  have mixed : Tryz.prog.follows Departure.mixedOrders = true := by kernel_rfl
  show Calls _ _ #[.agg #[.int .i64 a, .int .i64 b], .agg #[.int .i64 c, .int .i64 d]] W _
  have hB1 : Gr W ((W.alloc (.cells #[.int .i64 a, .int .i64 b] 86)).alloc (.cells #[.int .i64 c, .int .i64 d] 86)) := ((Gr.refl W).alloc _).alloc _
  have k1 : ((W.alloc (.cells #[.int .i64 a, .int .i64 b] 86)).alloc (.cells #[.int .i64 c, .int .i64 d] 86)).cell? ⟨W.heap.size, 0, none⟩ = some (.int .i64 a) := (cell_of_block ((Below.heap_alloc _ _ _ (by simp)).trans (heap_alloc_new W _)) 0).trans rfl
  have k2 : ((W.alloc (.cells #[.int .i64 a, .int .i64 b] 86)).alloc (.cells #[.int .i64 c, .int .i64 d] 86)).cell? ⟨W.heap.size, 1, none⟩ = some (.int .i64 b) := (cell_of_block ((Below.heap_alloc _ _ _ (by simp)).trans (heap_alloc_new W _)) 1).trans rfl
  have hn := heap_alloc_new (W.alloc (.cells #[.int .i64 a, .int .i64 b] 86)) (.cells #[.int .i64 c, .int .i64 d] 86)
  rw [World.size_alloc] at hn
  have k3 := (cell_of_block hn 0).trans rfl
  have k4 := (cell_of_block hn 1).trans rfl
  have hs : ((W.alloc (.cells #[.int .i64 a, .int .i64 b] 86)).alloc (.cells #[.int .i64 c, .int .i64 d] 86)).heap.size = W.heap.size + 2 := by simp
  clear hn
  go_enter Tryz.func43, Tryz.ntmps43
  go_wp2_with fail
  generalize (W.alloc (.cells #[.int .i64 a, .int .i64 b] 86)).alloc (.cells #[.int .i64 c, .int .i64 d] 86) = WA at *
  have HG := Lib.hid hB1
  clear hB1
  obtain ⟨WD, hWD⟩ : ∃ WD : World, WD = { WA with drawn := WA.drawn + 1 } := ⟨_, rfl⟩
  have HG3 : Hid (Gr W WD) := Lib.hid (by rw [hWD]; exact HG.out.drewN 1)
  have k1' : WD.cell? ⟨W.heap.size, 0, none⟩ = some (.int .i64 a) := by rw [hWD]; exact k1
  have k2' : WD.cell? ⟨W.heap.size, 1, none⟩ = some (.int .i64 b) := by rw [hWD]; exact k2
  have k3' : WD.cell? ⟨W.heap.size + 1, 0, none⟩ = some (.int .i64 c) := by rw [hWD]; exact k3
  have k4' : WD.cell? ⟨W.heap.size + 1, 1, none⟩ = some (.int .i64 d) := by rw [hWD]; exact k4
  refine wp_region_still_tail 10 mixed (by kernel_rfl) ?_
  simp only [List.take_succ_cons, List.take_zero, List.drop_succ_cons, List.drop_zero]
  rw [← hWD]
  clear k1 k2 k3 k4 hs HG hWD
  iterate 4 still_step
  still_call (cmpi_any a c WD)
  iterate 4 still_step
  still_call (cmpi_any b d WD)
  refine wpStill_nil ?_
  clear k1' k2' k3' k4'
  go_wp2_with fail
  refine (or_new _ _ WD _).mono ?_; rintro e w1 ⟨rfl, rfl⟩
  go_wp2_with fail
  go_ret
  exact ⟨rfl, HG3.out.alloc _⟩
end

/-!
  Layer 9 (locks): pairs sorted; the holders that stand against a mode.
-/
section
open Go.RowKit Go.Joins Go.Sort Go.Shelf
set_option linter.unusedVariables false
set_option linter.unusedSimpArgs false

theorem prL_one (p : Pr) : ∀ v ∈ prL p, v.oneCell' = true := by
  intro v hv
  simp [prL] at hv
  rcases hv with rfl | rfl <;> rfl
theorem arRow_one (L : List Pr) : ∀ v ∈ arRow L, v.oneCell' = true := by
  intro v hv
  obtain ⟨p, -, hp⟩ := List.mem_flatMap.1 hv
  exact prL_one p v hp
theorem arRow_len (L : List Pr) : (arRow L).length = L.length * 2 := flat_len prL_len L
theorem arRow_app (L K : List Pr) : arRow (L ++ K) = arRow L ++ arRow K := by simp [arRow]
theorem cfArcs : ∀ args w, (callFunc 43 args).run Tryz.prog w = .ok (.enter 43 args) w := fun args w => by kernel_rfl
theorem infoPr : (Tryz.prog.info? 86).map (fun i => (i.zero, i.size, i.bytes)) = some (some (.agg #[.int .i64 0, .int .i64 0]), 2, 16) := by kernel_rfl
theorem sort_arcs (R : List Pr) (hl : R.length ≤ 4000000000000) (B : Nat) (v : Value) (w : World) (h : w.ownsRow B 86 2 v R.length (arRow R)) :
    Calls Tryz.prog 42 #[v, .func (.func 43) #[] #[]] w fun e w' => e = .returned (.tuple #[]) ∧ ∃ R' : List Pr, R'.Perm R ∧ R'.Pairwise (fun x y => ¬ ltP y x) ∧ w'.ownsRow B 86 2 v R'.length (arRow R') ∧ Moved (fun i => v.ownBlock = some i) w w' := by
  have := sort_row Tryz.sortAr 2 (by omega) Tryz.isAgg86 Tryz.sizeOf86 prL prL_len prL_one cmpP swoP 43 cfArcs clo_arcs R hl B 86 v w h
  refine Calls.mono this ?_
  rintro e w' ⟨rfl, R', h1, h2, h3, h4⟩
  exact ⟨rfl, R', h1, h2.imp fun hxy => (ltOf_Pf _ _).1 hxy, h3, h4⟩

/-- the holders that stand against a mode -/
def agL (x m : Int) (H : List Hd) : List Pr := (H.filter fun h => !(h.x == x) && !compatL m h.m).map fun h => (x, h.x)
theorem agL_len (x m : Int) (H : List Hd) : (agL x m H).length ≤ H.length := by
  unfold agL; rw [List.length_map]; exact List.length_filter_le ..
theorem agL_succ (x m : Int) (H : List Hd) (k : Nat) (hk : k < H.length) : agL x m (H.take (k + 1)) = agL x m (H.take k) ++ if (!(H[k].x == x) && !compatL m H[k].m) = true then [(x, H[k].x)] else [] := by
  unfold agL
  rw [List.take_succ_eq_append_getElem hk, List.filter_append, List.map_append]
  congr 1
  by_cases h : (!(H[k].x == x) && !compatL m H[k].m) = true
  · rw [if_pos h]; simp only [List.filter_cons, List.filter_nil]; rw [if_pos h]; rfl
  · rw [if_neg h]; simp only [List.filter_cons, List.filter_nil]; rw [if_neg h]; rfl
set_option maxHeartbeats 2000000 in
set_option maxRecDepth 100000 in
theorem against_any {B qb : Nat} {hv wv : Value} {Q : Qu} {w : World} (h : QAt w B qb hv wv Q) (x m : Int) (hl : Q.H.length ≤ 100000) :
    Calls Tryz.prog 41 #[.pointer (some ⟨qb, 0, none⟩), .int .i64 x, .int .i64 m] w fun e w' => ∃ v, e = .returned v ∧ w'.ownsRow w.heap.size 86 2 v (agL x m Q.H).length (arRow (agL x m Q.H)) ∧ Below w.heap.size w w' := by
  obtain ⟨i0, hi, hz0, hz1, hz2⟩ := info_parts infoPr
  have HQ := Lib.hid h
  have h0 := h.cell0
  have ho := h.held
  obtain ⟨a, cap, rfl, hcap, hmx, ha⟩ := own_cap ho
  have HL := Lib.hid hl
  have hlen : Q.H.length ≤ 9223372036854775807 := by omega
  clear h hl ho hcap hmx
  go_enter Tryz.func41, Tryz.ntmps41
  go_wp2_with fail
  go_loopw [7, 15] (fun tl ti wr => ∃ k, k ≤ Q.H.length ∧ ti = .int .i64 k ∧ wr.ownsRow w.heap.size 86 2 tl (agL x m (Q.H.take k)).length (arRow (agL x m (Q.H.take k))) ∧ Below w.heap.size w wr) (fun _ ti _ => Q.H.length - (intOf ti).toNat)
  case atStart => exact ⟨0, by omega, rfl, ⟨rfl, .inl ⟨rfl, rfl⟩⟩, Below.refl _ _⟩
  case round =>
    obtain ⟨k, hk, rfl, hown, hB⟩ := hrel
    obtain ⟨wo, rfl⟩ : ∃ wo : World, wo = wr := ⟨_, rfl⟩
    have HB := Lib.hid hB
    have HOwn := Lib.hid hown
    clear hB hown
    by_cases hlt : k < Q.H.length
    · obtain ⟨gb, rfl, hgb, hgl⟩ := ha.resolve_left (by omega)
      have hki : decide ((k : Int) < (Q.H.length : Int)) = true := by simp; omega
      have HK1 := Lib.hid hlt
      obtain ⟨c0, c1, c2, c3⟩ := hd_cells (HQ.out.below HB.out).held k hlt
      have HS := Lib.hid (agL_succ x m Q.H k hlt)
      have hz := HB.out.size
      have hk5 : (agL x m (Q.H.take k)).length ≤ 100000 := by
        have h1 := agL_len x m (Q.H.take k)
        have h2 := HL.out
        rw [List.length_take] at h1; omega
      have HK5 := Lib.hid hk5
      clear hk5
      generalize Q.H[k] = hd at *
      clear hlt
      generalize agL x m (Q.H.take k) = L0 at *
      by_cases hx : hd.x = x
      · have hxb : (hd.x != x) = false := by simp [hx]
        have HX := Lib.hid hx
        clear hx
        go_wp2_with fail
        refine ⟨⟨k + 1, HK1.out, by go_num, ?_, HB.out.alloc hz _⟩, by have := HK1.out; simp [intOf]; omega⟩
        rw [HS.out, if_neg (by simp [HX.out]), List.append_nil]
        exact HOwn.out.alloc _
      · have hxb : (hd.x != x) = true := by simp [hx]
        have hxe : (hd.x == x) = false := by simp [hx]
        have HX := Lib.hid hxe
        clear hx hxe
        have HC := Lib.hid (fun W => compat_any m hd.m W)
        generalize compatL m hd.m = cq at *
        cases cq with
        | true =>
          go_wp2_with fail
          refine (HC.out _).mono ?_; rintro e w2 ⟨rfl, rfl⟩
          go_wp2_with fail
          refine ⟨⟨k + 1, HK1.out, by go_num, ?_, HB.out.alloc hz _⟩, by have := HK1.out; simp [intOf]; omega⟩
          rw [HS.out, if_neg (by simp), List.append_nil]
          exact HOwn.out.alloc _
        | false =>
          have hba : Below w.heap.size w ((wo.alloc (.cells #[.int .i64 hd.x, .int .i64 hd.m, .int .i64 hd.w, .int .i64 hd.t] 60)).alloc (.cells #[.int .i64 x, .int .i64 hd.x] 86)) := (HB.out.alloc hz _).alloc (by rw [World.size_alloc]; omega) _
          have HBA := Lib.hid hba
          have hown2 := (HOwn.out.alloc (.cells #[.int .i64 hd.x, .int .i64 hd.m, .int .i64 hd.w, .int .i64 hd.t] 60)).alloc (.cells #[.int .i64 x, .int .i64 hd.x] 86)
          have hnew := heap_alloc_new (wo.alloc (.cells #[.int .i64 hd.x, .int .i64 hd.m, .int .i64 hd.w, .int .i64 hd.t] 60)) (.cells #[.int .i64 x, .int .i64 hd.x] 86)
          have hszA : ((wo.alloc (.cells #[.int .i64 hd.x, .int .i64 hd.m, .int .i64 hd.w, .int .i64 hd.t] 60)).alloc (.cells #[.int .i64 x, .int .i64 hd.x] 86)).heap.size = wo.heap.size + 2 := by simp
          rw [World.size_alloc] at hnew
          have hk6 := HK5.out
          clear hba
          go_wp2_with fail
          refine (HC.out _).mono ?_; rintro e w2 ⟨rfl, rfl⟩
          go_wp2_with (at_builtin; refine wpList_append_lies _ rfl _ _ 46 rfl w.heap.size 86 i0 _ 2 16 Tryz.underlying46 hi hz0 hz1 hz2 rfl (by decide) _ L0.length _ rfl hown2 ⟨wo.heap.size + 1, 0, none⟩ 1 1 (prL (x, hd.x)) rfl rfl (World.news_of_block hnew) (prL_one _) (by omega) (by simp only [maxLen]; omega) (by omega) (by rw [hszA]; omega) (wo.heap.size + 2) hszA ?_)
          intro gg capg w7 hown7 hgrow hat hltg
          have HO7 := Lib.hid hown7
          have HB7 := Lib.hid (HBA.out.grown hgrow (by rw [hszA]; omega) (fun q hq => (HOwn.out.lt q hq).1))
          clear hown2 hnew hszA hk6 hown7 hgrow hat
          go_wp2_with fail
          refine ⟨⟨k + 1, HK1.out, by go_num, ?_, HB7.out⟩, by have := HK1.out; simp [intOf]; omega⟩
          rw [HS.out, HX.out]
          have := HO7.out
          rw [if_pos (by rfl), arRow_app, List.length_append]
          simpa [arRow] using this
    · have hki : decide ((k : Int) < (Q.H.length : Int)) = false := by simp; omega
      have hkk : k = Q.H.length := by omega
      subst hkk
      have hown := HOwn.out
      rw [List.take_length] at hown
      have HO := Lib.hid hown
      clear hown HOwn
      go_wp2_with fail
      go_ret
      exact ⟨_, rfl, HO.out, HB.out⟩
end

/-!
  Layer 9 (locks): slices.Compact of pairs.
-/
section
open Go.RowKit Go.Joins Go.Sort Go.Shelf
set_option linter.unusedVariables false
set_option linter.unusedSimpArgs false

theorem eqI_cons {d c' : Nat} {e : TypeId} {xs ys : Array Value} {i : Nat} {is : List Nat} {a a' : Value} {b c : Bool} {w : World} (h1 : (part e xs (i * c')).run Tryz.prog w = .ok a w) (h2 : (part e ys (i * c')).run Tryz.prog w = .ok a' w)
    (h3 : (Op.equalIn d e a a').run Tryz.prog w = .ok b w) (h4 : (Op.eqItems d e c' xs ys is).run Tryz.prog w = .ok c w) : (Op.eqItems d e c' xs ys (i :: is)).run Tryz.prog w = .ok (b && c) w := by
  simp only [Op.eqItems, Sem.run_bind, h1, h2, h3, Result.andThen_ok]
  cases b
  · rfl
  · exact h4
theorem eqI_nil {d c' : Nat} {e : TypeId} {xs ys : Array Value} {w : World} : (Op.eqItems d e c' xs ys []).run Tryz.prog w = .ok true w := rfl
@[go_sem] theorem run_eq_pr (a b c d : Int) (w : World) : (Op.equalIn 10000 86 (.agg #[.int .i64 a, .int .i64 b]) (.agg #[.int .i64 c, .int .i64 d])).run Tryz.prog w = .ok (a == c && b == d) w := by
  obtain ⟨i, hi⟩ : ∃ i, Tryz.prog.info? 3 = some i := info_of_underlying Tryz.underlying3
  have ea := run_equalIn_array (P := Tryz.prog) w 9999 (e := 3) (i := i) #[.int .i64 a, .int .i64 b] #[.int .i64 c, .int .i64 d] Tryz.underlying86 hi
  have hc2 : Tryz.prog.cellsOf 3 = 1 := by kernel_rfl
  rw [hc2] at ea
  refine ea.trans ?_
  have p0 : ∀ (v u : Value), (part 3 #[v, u] (0 * 1)).run Tryz.prog w = .ok v w := fun v u => by kernel_rfl
  have p1 : ∀ (v u : Value), (part 3 #[v, u] (1 * 1)).run Tryz.prog w = .ok u w := fun v u => by kernel_rfl
  have e0 := run_equalIn_int (P := Tryz.prog) w 9998 3 .i64 .i64 a c Tryz.underlying3
  have e1 := run_equalIn_int (P := Tryz.prog) w 9998 3 .i64 .i64 b d Tryz.underlying3
  have h := eqI_cons (i := 0) (p0 _ _) (p0 _ _) e0 (eqI_cons (i := 1) (p1 _ _) (p1 _ _) e1 eqI_nil)
  rw [Bool.and_true] at h
  exact h
@[go_sem] theorem run_equal_pr (a b c d : Int) (w : World) : (Op.equal 86 (.agg #[.int .i64 a, .int .i64 b]) (.agg #[.int .i64 c, .int .i64 d])).run Tryz.prog w = .ok (a == c && b == d) w := run_eq_pr a b c d w

/-- what is left of the first n when the same next to the same goes -/
def dd (R : List Pr) : Nat → List Pr
  | 0 => []
  | n + 1 => dd R n ++ (if 0 < n ∧ R[n]? = R[n - 1]? then [] else R[n]?.toList)
theorem dd_same {R : List Pr} {n : Nat} (h : n < R.length) (h0 : 0 < n) (e : R[n] = R[n - 1]) : dd R (n + 1) = dd R n := by
  rw [dd, if_pos ⟨h0, by rw [List.getElem?_eq_getElem h, List.getElem?_eq_getElem (by omega), e]⟩, List.append_nil]
theorem dd_other {R : List Pr} {n : Nat} (h : n < R.length) (e : 0 < n → R[n] ≠ R[n - 1]'(by omega)) : dd R (n + 1) = dd R n ++ [R[n]] := by
  rw [dd, if_neg, List.getElem?_eq_getElem h]
  · rfl
  · rintro ⟨h0, h1⟩
    rw [List.getElem?_eq_getElem h, List.getElem?_eq_getElem (by omega)] at h1
    exact e h0 (Option.some.inj h1)
theorem dd_sameJ {R : List Pr} {n j : Nat} (h : n < R.length) (hj : j + 1 = n) (e : R[n] = R[j]'(by omega)) : dd R (n + 1) = dd R n := by
  subst hj
  exact dd_same h (by omega) e
theorem dd_otherJ {R : List Pr} {n j : Nat} (h : n < R.length) (hj : j + 1 = n) (e : R[n] ≠ R[j]'(by omega)) : dd R (n + 1) = dd R n ++ [R[n]] := by
  subst hj
  exact dd_other h fun _ => e
theorem dd_len (R : List Pr) : ∀ n, (dd R n).length ≤ n
  | 0 => by simp [dd]
  | n + 1 => by
    have := dd_len R n
    rw [dd, List.length_append]
    split
    · simp; omega
    · have : (R[n]?.toList).length ≤ 1 := by cases R[n]? <;> simp
      omega
theorem dd_one (R : List Pr) (h : R.length < 2) : dd R R.length = R := by
  match R, h with
  | [], _ => rfl
  | [x], _ => rfl
/-- of a sorted row: rising, and with the same members -/
theorem dd_sorted (R : List Pr) (hs : R.Pairwise (fun x y => ¬ ltP y x)) : ∀ n (hn : n ≤ R.length), (dd R n).Pairwise ltP ∧ (∀ p, p ∈ dd R n ↔ p ∈ R.take n) ∧ ∀ p ∈ dd R n, ∀ (h0 : 0 < n), p = R[n - 1]'(by omega) ∨ ltP p (R[n - 1]'(by omega))
  | 0, _ => ⟨List.Pairwise.nil, fun p => by simp [dd], fun p hp => by cases hp⟩
  | n + 1, hn => by
    obtain ⟨i1, i2, i3⟩ := dd_sorted R hs n (by omega)
    have hn' : n < R.length := by omega
    have ht : R.take (n + 1) = R.take n ++ [R[n]] := List.take_succ_eq_append_getElem hn'
    by_cases h0 : 0 < n
    · by_cases e : R[n] = R[n - 1]
      · rw [dd_same hn' h0 e, ht]
        refine ⟨i1, fun p => ?_, fun p hp _ => ?_⟩
        · rw [i2 p, List.mem_append, List.mem_singleton]
          constructor
          · exact .inl
          · rintro (h | h)
            · exact h
            · rw [h, e]
              exact List.mem_take_iff_getElem.2 ⟨n - 1, by omega, rfl⟩
        · have := i3 p hp h0
          simp only [Nat.add_sub_cancel]
          rw [e]; exact this
      · have hlt : ltP R[n - 1] R[n] := by
          have h1 := List.pairwise_iff_getElem.1 hs (n - 1) n (by omega) hn' (by omega)
          generalize R[n] = a at *
          generalize R[n - 1] = b at *
          obtain ⟨a1, a2⟩ := a
          obtain ⟨b1, b2⟩ := b
          unfold ltP at *
          simp only [Prod.mk.injEq] at e
          omega
        have htr : ∀ p, (p = R[n - 1] ∨ ltP p R[n - 1]) → ltP p R[n] := fun p hp => by
          rcases hp with rfl | hp
          · exact hlt
          · unfold ltP at *; omega
        rw [dd_other hn' (fun _ => e), ht]
        refine ⟨List.pairwise_append.2 ⟨i1, List.pairwise_singleton .., fun a ha b hb => ?_⟩, fun p => ?_, fun p hp _ => ?_⟩
        · rw [List.mem_singleton.1 hb]
          exact htr a (i3 a ha h0)
        · rw [List.mem_append, List.mem_append, i2 p]
        · simp only [Nat.add_sub_cancel]
          rcases List.mem_append.1 hp with hp | hp
          · exact .inr (htr p (i3 p hp h0))
          · exact .inl (List.mem_singleton.1 hp)
    · have hz : n = 0 := by omega
      subst hz
      rw [dd_other hn' (fun h => absurd h h0), ht]
      refine ⟨by simp [dd], fun p => by simp [dd], fun p hp _ => ?_⟩
      simp [dd] at hp
      exact .inl hp
theorem pr_cells {w : World} {B g n c : Nat} {L : List Pr} (h : w.ownsRow B 86 2 (.slice (some ⟨g, 0, none⟩) n c) n (arRow L)) (j : Nat) (hj : j < L.length) :
    w.cell? ⟨g, j * 2, none⟩ = some (.int .i64 L[j].1) ∧ w.cell? ⟨g, j * 2 + 1, none⟩ = some (.int .i64 L[j].2) := by
  have hc := h.cells (g := g) rfl
  have hf := flat_get prL_len L j
  refine ⟨?_, ?_⟩
  · have := hc (j * 2 + 0) _ ((hf 0 hj (by omega)).trans rfl); simpa [Addr.add_lit] using this
  · have := hc (j * 2 + 1) _ ((hf 1 hj (by omega)).trans rfl); simpa [Addr.add_lit] using this
theorem arRow_set : ∀ (L : List Pr) (i : Nat) (p : Pr), i < L.length → arRow (L.set i p) = ((arRow L).set (i * 2) (.int .i64 p.1)).set (i * 2 + 1) (.int .i64 p.2)
  | [], i, p, hi => by simp at hi
  | x :: r, 0, p, _ => by simp [arRow, prL]
  | x :: r, i + 1, p, hi => by
    have ih := arRow_set r i p (by simpa using hi)
    have e : ∀ (l : List Value) (k : Nat) (v : Value), (prL x ++ l).set (2 + k) v = prL x ++ l.set k v := fun l k v => by
      rw [List.set_append_right _ _ (by rw [prL_len]; omega), prL_len, show 2 + k - 2 = k from by omega]
    show arRow (x :: r.set i p) = _
    rw [show arRow (x :: r.set i p) = prL x ++ arRow (r.set i p) from rfl, ih, show arRow (x :: r) = prL x ++ arRow r from rfl, show (i + 1) * 2 = 2 + i * 2 from by omega, show 2 + i * 2 + 1 = 2 + (i * 2 + 1) from by omega, e, e]

theorem ddC_get {R : List Pr} {n kk : Nat} (hk : kk = (dd R n).length) (i : Nat) (hi : i < R.length) (hki : kk ≤ i) (hl : (dd R n ++ R.drop kk).length = R.length) : (dd R n ++ R.drop kk)[i]'(by omega) = R[i] := by
  rw [List.getElem_append_right (by omega), List.getElem_drop]
  congr 1
  omega
theorem ddC_len {R : List Pr} {n kk : Nat} (hk : kk = (dd R n).length) (hn : kk ≤ R.length) : (dd R n ++ R.drop kk).length = R.length := by
  rw [List.length_append, List.length_drop]; omega
theorem ddC_set {R : List Pr} {n kk : Nat} (hk : kk = (dd R n).length) (hn : kk < R.length) (p : Pr) : (dd R n ++ R.drop kk).set kk p = (dd R n ++ [p]) ++ R.drop (kk + 1) := by
  rw [List.set_append_right _ _ (by omega), show kk - (dd R n).length = 0 from by omega, List.drop_eq_getElem_cons hn, List.set_cons_zero, List.append_assoc]
  rfl
theorem pr_cells2 {w : World} {B g n c : Nat} {L : List Pr} (h : w.ownsRow B 86 2 (.slice (some ⟨g, 0, none⟩) n c) n (arRow L)) (k j : Nat) (hj : k + j < L.length) :
    w.cell? ⟨g, k * 2 + j * 2, none⟩ = some (.int .i64 L[k + j].1) ∧ w.cell? ⟨g, k * 2 + j * 2 + 1, none⟩ = some (.int .i64 L[k + j].2) := by
  have := pr_cells h (k + j) hj
  rw [Nat.add_mul] at this
  exact this

set_option maxHeartbeats 3000000 in
set_option maxRecDepth 100000 in
theorem compact_any (R : List Pr) (hl : R.length ≤ 4000000000000) (B : Nat) (v : Value) (w : World) (h : w.ownsRow B 86 2 v R.length (arRow R)) :
    Calls Tryz.prog 45 #[v] w fun e w' => ∃ v', e = .returned v' ∧ w'.ownsRow B 86 2 v' (dd R R.length).length (arRow (dd R R.length)) ∧ Moved (fun i => v.ownBlock = some i) w w' := by
  have mixed : Tryz.prog.follows Departure.mixedOrders = true := by kernel_rfl
  obtain ⟨a, cap, rfl, hcap, hmx, ha⟩ := own_cap h
  have HO := Lib.hid h
  have hlen : R.length ≤ 9223372036854775807 := by omega
  clear h
  by_cases h2 : R.length < 2
  · have hb2 : decide ((R.length : Int) < 2) = true := by simp; omega
    have HD := Lib.hid (dd_one R h2)
    clear hcap hmx ha h2
    go_enter Tryz.func45, Tryz.ntmps45
    go_wp2_with fail
    go_ret
    exact ⟨_, rfl, by rw [HD.out]; exact HO.out, Moved.refl _ _⟩
  · have hb2 : decide ((R.length : Int) < 2) = false := by simp; omega
    obtain ⟨g, rfl, hgb, hgl⟩ := ha.resolve_left (by omega)
    clear ha
    go_enter Tryz.func45, Tryz.ntmps45
    go_wp2_with fail
    go_loopw [3] (fun tk wr => ∃ k, 0 < k ∧ k ≤ R.length ∧ tk = .int .i64 k ∧ dd R k = R.take k ∧ Gr w wr) (fun tk _ => R.length - (intOf tk).toNat)
    case atStart => exact ⟨1, by omega, by omega, rfl, by rw [dd_other (by omega) (fun h => absurd h (by omega))]; simp [dd, List.take_one, List.head?_eq_getElem?, List.getElem?_eq_getElem (show 0 < R.length by omega)], Gr.refl _⟩
    case round =>
      obtain ⟨k, hk0, hk, rfl, hdd, hG⟩ := hrel
      obtain ⟨wo, rfl⟩ : ∃ wo : World, wo = wr := ⟨_, rfl⟩
      have HDd := Lib.hid hdd
      have HG := Lib.hid hG
      clear hdd hG
      by_cases hlt : k < R.length
      · have hki : decide ((k : Int) < (R.length : Int)) = true := by simp; omega
        obtain ⟨j, hj⟩ : ∃ j, j + 1 = k := ⟨k - 1, by omega⟩
        have hw1 : IntKind.i64.wrap ((k : Int) - 1) = (j : Int) := by rw [show (k : Int) - 1 = (j : Int) from by omega]; exact IntWalk.i64_in _ (by omega)
        have hrow := own_keep HO.out (w' := wo) (fun q hq => HG.out.below.block _ (HO.out.lt q hq).2)
        have hgw : g < wo.heap.size := by have := HG.out.below.size; omega
        obtain ⟨a0, a1⟩ := pr_cells hrow k hlt
        obtain ⟨b0, b1⟩ := pr_cells hrow j (by omega)
        have q0 := fun n os => cell_grown hgw a0 n os
        have q1 := fun n os => cell_grown hgw a1 n os
        have q2 := fun n os => cell_grown hgw b0 n os
        have q3 := fun n os => cell_grown hgw b1 n os
        have hj1 : (0 : Int) ≤ (j : Int) := Int.natCast_nonneg _
        have hj2 : (j : Int) < (R.length : Int) := by omega
        have hk1 : (0 : Int) ≤ (k : Int) := Int.natCast_nonneg _
        have hk2 : (k : Int) < (R.length : Int) := by omega
        have HDs := Lib.hid (dd_sameJ (R := R) hlt hj)
        have HDo := Lib.hid (dd_otherJ (R := R) hlt hj)
        have HTk := Lib.hid (List.take_succ_eq_append_getElem hlt)
        obtain ⟨eq, heq⟩ : ∃ eq, (R[k].1 == R[j].1 && R[k].2 == R[j].2) = eq := ⟨_, rfl⟩
        have HEq := Lib.hid heq
        have HJ := Lib.hid hj
        clear hrow a0 a1 b0 b1
        go_wp2_with fail
        refine wp_region_quiet_grown (by assumption) (by kernel_rfl) ?_
        iterate 10 (with_reducible refine wpQuiet_step (fun K hK => ?_); go_simp; with_reducible refine hK _ ?_; clear hK K)
        with_reducible refine wpQuiet_nil ?_
        with_reducible intro _ hw'
        obtain ⟨⟨nq, osq⟩, hw''⟩ := hw'
        subst hw''
        clear heq q0 q1 q2 q3
        have hbg : Below wo.heap.size wo (grow (wo.drewN nq) osq) := Gr.below ⟨nq, osq, rfl⟩
        have hGr : Gr w (grow (wo.drewN nq) osq) := HG.out.trans ⟨nq, osq, rfl⟩
        have HGr := Lib.hid hGr
        clear hbg hGr
        generalize grow (wo.drewN nq) osq = W1 at *
        cases eq with
        | false =>
          have hne : R[k] ≠ R[j] := fun e => by
            have := HEq.out
            rw [e] at this
            simp at this
          have HNx : Hid (dd R (k + 1) = R.take (k + 1)) := Lib.hid (by rw [HDo.out hne, HTk.out, HDd.out])
          clear hne
          go_wp2_with fail
          exact ⟨⟨k + 1, by omega, by omega, by go_num, HNx.out, HGr.out⟩, by simp [intOf]; omega⟩
        | true =>
          have hne : R[k] = R[j] := by
            have := HEq.out
            simp only [Bool.and_eq_true, beq_iff_eq] at this
            exact Prod.ext this.1 this.2
          have HNx : Hid (dd R (k + 1) = R.take k) := Lib.hid (by rw [HDs.out hne, HDd.out])
          clear hne HDs HDo HTk HEq
          have hck : ¬ cap = k := by omega
          go_wp2_with fail
          go_loopw [3, 5] (fun tk tj wr => ∃ (n j2 kk : Nat), n = k + j2 ∧ 1 ≤ j2 ∧ n ≤ R.length ∧ tj = .int .i64 j2 ∧ tk = .int .i64 kk ∧ kk = (dd R n).length ∧ kk + 1 ≤ n ∧ wr.ownsRow B 86 2 (.slice (some ⟨g, 0, none⟩) R.length cap) R.length (arRow (dd R n ++ R.drop kk)) ∧ Moved (· = g) w wr) (fun _ tj _ => R.length - (intOf tj).toNat)
          case atStart =>
            have e1 : (R.take k).length = k := by rw [List.length_take]; omega
            refine ⟨k + 1, 1, k, rfl, by omega, by omega, rfl, rfl, by rw [HNx.out, e1], by omega, ?_, .of_below HGr.out.below⟩
            rw [HNx.out, List.take_append_drop]
            exact own_keep HO.out (fun q hq => HGr.out.below.block _ (HO.out.lt q hq).2)
          case round =>
            obtain ⟨n, j2, kk, hn, h1j, hnl, rfl, rfl, hkk, hkn, hown, hM⟩ := hrel
            obtain ⟨w2, rfl⟩ : ∃ w2 : World, w2 = wr := ⟨_, rfl⟩
            have HCl := Lib.hid (ddC_len hkk (by omega))
            have HOw := Lib.hid hown
            have HM := Lib.hid hM
            have HKk := Lib.hid hkk
            clear hown hM hkk HNx
            have hgl2 : g < w2.heap.size := (HOw.out.lt g rfl).2
            by_cases hlt2 : j2 < R.length - k
            · obtain ⟨i2, hi2⟩ : ∃ i2, i2 + 1 = j2 := ⟨j2 - 1, by omega⟩
              have hnn : n < R.length := by omega
              have hg1 := ddC_get HKk.out (k + j2) (by omega) (by omega) HCl.out
              have hg2 := ddC_get HKk.out (k + i2) (by omega) (by omega) HCl.out
              obtain ⟨a0, a1⟩ := pr_cells2 HOw.out k j2 (by rw [HCl.out]; omega)
              obtain ⟨b0, b1⟩ := pr_cells2 HOw.out k i2 (by rw [HCl.out]; omega)
              rw [hg1] at a0 a1
              rw [hg2] at b0 b1
              have HDs := Lib.hid (dd_sameJ (R := R) (n := k + j2) (j := k + i2) (by omega) (by omega))
              have HDo := Lib.hid (dd_otherJ (R := R) (n := k + j2) (j := k + i2) (by omega) (by omega))
              clear hg1 hg2
              generalize R[k + j2] = p at *
              generalize R[k + i2] = p' at *
              obtain ⟨eq, heq⟩ : ∃ eq, (p.1 == p'.1 && p.2 == p'.2) = eq := ⟨_, rfl⟩
              have HEq := Lib.hid heq
              have q0 := fun n os => cell_grown hgl2 a0 n os
              have q1 := fun n os => cell_grown hgl2 a1 n os
              have q2 := fun n os => cell_grown hgl2 b0 n os
              have q3 := fun n os => cell_grown hgl2 b1 n os
              have hw2 : IntKind.i64.wrap ((j2 : Int) - 1) = (i2 : Int) := by rw [show (j2 : Int) - 1 = (i2 : Int) from by omega]; exact IntWalk.i64_in _ (by omega)
              have hi3 : i2 < R.length - k := by omega
              have hi4 : (0 : Int) ≤ (i2 : Int) := Int.natCast_nonneg _
              have hi5 : (0 : Int) ≤ (j2 : Int) := Int.natCast_nonneg _
              have hi6 : (i2 : Int) < ((R.length - k : Nat) : Int) := by omega
              have hi7 : (j2 : Int) < ((R.length - k : Nat) : Int) := by omega
              have hi8 : decide ((j2 : Int) < ((R.length - k : Nat) : Int)) = true := by simp; omega
              clear a0 a1 b0 b1
              go_wp2_with fail
              refine wp_region_quiet_grown (by assumption) (by kernel_rfl) ?_
              iterate 10 (with_reducible refine wpQuiet_step (fun K hK => ?_); go_simp; with_reducible refine hK _ ?_; clear hK K)
              with_reducible refine wpQuiet_nil ?_
              with_reducible intro _ hw'
              obtain ⟨⟨nr, osr⟩, hw''⟩ := hw'
              subst hw''
              have hbg : Below w2.heap.size w2 (grow (w2.drewN nr) osr) := Gr.below ⟨nr, osr, rfl⟩
              have HM3 := Lib.hid (HM.out.below hbg)
              have HO3 := Lib.hid (own_keep HOw.out fun q hq => hbg.block _ (HOw.out.lt q hq).2)
              have r0 := q0 nr osr
              have r1 := q1 nr osr
              clear q0 q1 q2 q3 hbg heq
              generalize grow (w2.drewN nr) osr = w3 at *
              cases eq with
              | true =>
                have he : p = p' := by
                  have := HEq.out
                  simp only [Bool.and_eq_true, beq_iff_eq] at this
                  exact Prod.ext this.1 this.2
                have HN2 : Hid (dd R (n + 1) = dd R n) := Lib.hid (by rw [hn]; exact HDs.out he)
                clear he HDs HDo HEq
                go_wp2_with fail
                exact ⟨⟨n + 1, j2 + 1, kk, by omega, by omega, by omega, by go_num, rfl, by rw [HN2.out]; exact HKk.out, by omega, by rw [HN2.out]; exact HO3.out, HM3.out⟩, by simp [intOf]; omega⟩
              | false =>
                have he : p ≠ p' := fun e => by
                  have := HEq.out
                  rw [e] at this
                  simp at this
                have HN2 : Hid (dd R (n + 1) = dd R n ++ [p]) := Lib.hid (by rw [hn]; exact HDo.out he)
                clear he HDs HDo HEq
                have f0 := own_frozen HO3.out (kk * 2)
                have f1 := own_frozen HO3.out (kk * 2 + 1)
                have hk3 : (0 : Int) ≤ (kk : Int) := Int.natCast_nonneg _
                have hk4 : (kk : Int) < (R.length : Int) := by omega
                have hk5 : kk < R.length := by omega
                have hgl3 : g < w3.heap.size := (HO3.out.lt g rfl).2
                obtain ⟨d0, d1⟩ := pr_cells HO3.out kk (by rw [HCl.out]; omega)
                go_wp2_with fail
                refine ⟨⟨n + 1, j2 + 1, kk + 1, by omega, by omega, by omega, by go_num, by go_num, by rw [HN2.out, List.length_append, HKk.out]; rfl, by omega, ?_, (HM3.out.setCell (p := ⟨g, kk * 2, none⟩) (.inl rfl) _).setCell (p := ⟨g, kk * 2 + 1, none⟩) (.inl rfl) _⟩, by simp [intOf]; omega⟩
                rw [HN2.out, ← ddC_set HKk.out hk5 p, arRow_set _ _ _ (by rw [HCl.out]; omega)]
                exact own_set (own_set HO3.out _ (by omega) _) _ (by omega) _
            · have hne : n = R.length := by omega
              have hi8 : decide ((j2 : Int) < ((R.length - k : Nat) : Int)) = false := by simp; omega
              have hkl : kk ≤ R.length := by omega
              obtain ⟨wc, hcl, hoc, hmc⟩ := run_clear_row (t := 46) (e := 86) w2 2 Tryz.underlying46 (.agg #[.int .i64 0, .int .i64 0]) (fun w => by kernel_rfl) rfl (by intro v hv; simp [Value.cells] at hv; subst hv; rfl) 0 B g R.length cap 86 _ HOw.out kk hkl (by omega) (cap - kk)
              have htk : (arRow (dd R n ++ R.drop kk)).take (kk * 2) = arRow (dd R R.length) := by
                rw [← hne]
                unfold arRow
                rw [flat_take prL_len, HKk.out, List.take_left]
              have hkk2 : kk = (dd R R.length).length := by rw [← hne]; exact HKk.out
              rw [htk] at hoc
              have HOC := Lib.hid hoc
              have HMC := Lib.hid hmc
              have HKk2 := Lib.hid hkk2
              have hcR : ¬ cap - kk = 0 := by omega
              have hcR2 : cap ≠ kk := by omega
              have hcR3 : ¬ cap = kk := by omega
              clear hoc hmc htk hkk2 hne
              go_wp2_with fail
              go_ret
              refine ⟨_, rfl, ?_, ?_⟩
              · rw [← HKk2.out]; exact HOC.out
              · exact (HM.out.mono fun k _ hk => by simp only [Value.ownBlock, Option.some.injEq]; exact hk.symm).trans (HMC.out.mono fun k _ hk => .inl (by simp only [Value.ownBlock, Option.some.injEq]; exact hk.symm))
      · have hki : decide ((k : Int) < (R.length : Int)) = false := by simp; omega
        have hkk : k = R.length := by omega
        have HD2 : Hid (dd R R.length = R) := Lib.hid (by rw [← hkk, HDd.out, hkk, List.take_length])
        clear hkk
        go_wp2_with fail
        go_ret
        exact ⟨_, rfl, by rw [HD2.out]; exact own_keep HO.out (fun q hq => HG.out.below.block _ (HO.out.lt q hq).2), .of_below HG.out.below⟩
end

/-!
  Layer 9 (locks): Arcs: what it holds, plain; its parts in memory.
-/
section
open Go.RowKit Go.Joins Go.Sort Go.Shelf
set_option linter.unusedVariables false
set_option linter.unusedSimpArgs false

/-- what is owned grows by what is owned, or by nothing -/
theorem app_pr {w : World} {ops : Array Oper} {rest : List Oper} {o : Oper} {a : Act} {Q : Exit → Act → World → Prop} (hgd : o.guard = none) (s x : Operand)
    (ho : o.op = .call { callee := .builtin .append, args := #[s, x], argTypes := #[46, 46] })
    (base base2 : Nat) (v v2 : Value) (L K : List Pr) (hs : a.eval s = v) (hown : w.ownsRow base 86 2 v L.length (arRow L)) (hx : a.eval x = v2) (hown2 : w.ownsRow base2 86 2 v2 K.length (arRow K))
    (hl : L.length ≤ 1000000000000) (hk : K.length ≤ 1000000000000) (hbase : base ≤ w.heap.size)
    (h : ∀ v' w', w'.ownsRow base 86 2 v' (L ++ K).length (arRow (L ++ K)) → w.grownBy w' v.ownBlock → wpList Tryz.prog ops Q rest (a.put o.dst v') w') : wpList Tryz.prog ops Q (o :: rest) a w := by
  obtain ⟨i0, hi, hz0, hz1, hz2⟩ := info_parts infoPr
  obtain ⟨al, cp, rfl, -, -, hal⟩ := own_cap hown2
  rcases hal with ⟨rfl, h0, rfl⟩ | ⟨g, rfl, -, -⟩
  · have hK : K = [] := List.length_eq_zero_iff.1 h0
    subst hK
    refine wpList_append_own_none hgd s x _ ho base 86 i0 2 Tryz.underlying46 hi v L.length (arRow L) hs hown hx (h v w ?_ ⟨rfl, rfl, rfl, Nat.le_refl _, fun _ _ _ => rfl⟩)
    simpa using hown
  · refine wpList_append_own w hgd s x _ ho base 86 i0 _ 2 16 Tryz.underlying46 hi hz0 hz1 hz2 rfl (by decide) v L.length (arRow L) hs hown ⟨g, 0, none⟩ K.length cp (arRow K) hx (arRow_len K) (fun j u hj => ?_) (arRow_one K) (by simp only [maxLen]; omega) (by omega) hbase fun v' w' h2 h3 _ => h v' w' (by rw [arRow_app, List.length_append]; exact h2) h3
    exact hown2.cells (g := g) rfl j u hj

theorem own_made1 (W : World) (a b : Int) : (W.alloc (.cells #[.int .i64 a, .int .i64 b] 86)).ownsRow W.heap.size 86 2 (.slice (some ⟨W.heap.size, 0, none⟩) 1 1) [((a, b) : Pr)].length (arRow [(a, b)]) :=
  ⟨rfl, .inr ⟨W.heap.size, 1, _, rfl, Nat.le_refl _, heap_alloc_new W _, Nat.le_refl _, by simp [maxLen], rfl, rfl⟩⟩

/-! ## who waits for whom -/
def wantX (x : Int) (H : List Hd) : List Pr := (H.filter fun h => h.w != 0).map fun h => (x, h.x)
def prevX (x : Int) (W : List Ws) : List Pr := W.map fun z => (x, z.x)
def hArcs (Q : Qu) : Nat → List Pr
  | 0 => []
  | k + 1 => hArcs Q k ++ match Q.H[k]? with
    | none => []
    | some h => if (h.w != 0) = true then agL h.x h.w Q.H else []
def wArcs (Q : Qu) : Nat → List Pr
  | 0 => []
  | i + 1 => wArcs Q i ++ match Q.W[i]? with
    | none => []
    | some y => (agL y.x y.m Q.H ++ wantX y.x Q.H) ++ prevX y.x (Q.W.take i)
def arcsQ (Q : Qu) : List Pr := hArcs Q Q.H.length ++ wArcs Q Q.W.length
theorem hArcs_succ (Q : Qu) (k : Nat) (hk : k < Q.H.length) : hArcs Q (k + 1) = hArcs Q k ++ if (Q.H[k].w != 0) = true then agL Q.H[k].x Q.H[k].w Q.H else [] := by
  rw [hArcs, List.getElem?_eq_getElem hk]
theorem wArcs_succ (Q : Qu) (i : Nat) (hi : i < Q.W.length) : wArcs Q (i + 1) = wArcs Q i ++ ((agL Q.W[i].x Q.W[i].m Q.H ++ wantX Q.W[i].x Q.H) ++ prevX Q.W[i].x (Q.W.take i)) := by
  rw [wArcs, List.getElem?_eq_getElem hi]
theorem wantX_len (x : Int) (H : List Hd) : (wantX x H).length ≤ H.length := by
  unfold wantX; rw [List.length_map]; exact List.length_filter_le ..
theorem wantX_succ (x : Int) (H : List Hd) (k : Nat) (hk : k < H.length) : wantX x (H.take (k + 1)) = wantX x (H.take k) ++ if (H[k].w != 0) = true then [(x, H[k].x)] else [] := by
  unfold wantX
  rw [List.take_succ_eq_append_getElem hk, List.filter_append, List.map_append]
  congr 1
  by_cases h : (H[k].w != 0) = true
  · rw [if_pos h]; simp only [List.filter_cons, List.filter_nil]; rw [if_pos h]; rfl
  · rw [if_neg h]; simp only [List.filter_cons, List.filter_nil]; rw [if_neg h]; rfl
theorem prevX_succ (x : Int) (W : List Ws) (k : Nat) (hk : k < W.length) : prevX x (W.take (k + 1)) = prevX x (W.take k) ++ [(x, W[k].x)] := by
  unfold prevX
  rw [List.take_succ_eq_append_getElem hk, List.map_append]; rfl
theorem hArcs_len (Q : Qu) (hN : Q.H.length ≤ 1000) : ∀ k, (hArcs Q k).length ≤ k * 1000
  | 0 => by simp [hArcs]
  | k + 1 => by
    have ih := hArcs_len Q hN k
    rw [hArcs, List.length_append, Nat.succ_mul]
    generalize k * 1000 = z at *
    cases hk : Q.H[k]? with
    | none => simp only [List.length_nil]; omega
    | some h =>
      have := agL_len h.x h.w Q.H
      simp only
      split
      · omega
      · simp only [List.length_nil]; omega
theorem wArcs_len (Q : Qu) (hN : Q.H.length + Q.W.length ≤ 1000) : ∀ k, (wArcs Q k).length ≤ k * 3000
  | 0 => by simp [wArcs]
  | k + 1 => by
    have ih := wArcs_len Q hN k
    rw [wArcs, List.length_append, Nat.succ_mul]
    generalize k * 3000 = z at *
    cases hk : Q.W[k]? with
    | none => simp only [List.length_nil]; omega
    | some y =>
      have h1 := agL_len y.x y.m Q.H
      have h2 := wantX_len y.x Q.H
      simp only [List.length_append, prevX, List.length_map, List.length_take]
      omega
theorem arcsQ_len (Q : Qu) (hN : Q.H.length + Q.W.length ≤ 1000) : (arcsQ Q).length ≤ 4000000 := by
  have h1 := hArcs_len Q (by omega) Q.H.length
  have h2 := wArcs_len Q hN Q.W.length
  unfold arcsQ
  rw [List.length_append]
  have : Q.H.length * 1000 ≤ 1000 * 1000 := Nat.mul_le_mul_right _ (by omega)
  have : Q.W.length * 3000 ≤ 1000 * 3000 := Nat.mul_le_mul_right _ (by omega)
  omega

/-! ## in the midst of Arcs -/
structure ArcAt (w : World) (nb ri : Nat) (M : List (Nm × Value)) (left : Nm → Prop) (cnt : Nat) (tl : Value) (L : List Pr) (wr : World) : Prop where
  own : wr.ownsRow w.heap.size 86 2 tl L.length (arRow L)
  rng : KRange Nm.v wr nb ri M left cnt
  low : Below w.heap.size w wr
  nbl : nb < w.heap.size
  ri : w.heap.size ≤ ri
section
variable {w : World} {nb ri : Nat} {M : List (Nm × Value)} {left : Nm → Prop} {cnt : Nat} {tl : Value} {L : List Pr} {wr : World}
theorem ArcAt.below (h : ArcAt w nb ri M left cnt tl L wr) {w2 : World} (hb : Below wr.heap.size wr w2) : ArcAt w nb ri M left cnt tl L w2 :=
  ⟨own_keep h.own fun g hg => hb.block g (h.own.lt g hg).2, h.rng.kept (hb.block nb (by have := h.low.size; have := h.nbl; omega)) (hb.block ri h.rng.lt), h.low.trans (hb.mono h.low.size), h.nbl, h.ri⟩
theorem ArcAt.alloc (h : ArcAt w nb ri M left cnt tl L wr) (o : Obj) : ArcAt w nb ri M left cnt tl L (wr.alloc o) := h.below ((Below.refl _ _).alloc (Nat.le_refl _) o)
theorem ArcAt.grown (h : ArcAt w nb ri M left cnt tl L wr) {w2 : World} {tl' : Value} {L' : List Pr} (hg : wr.grownBy w2 tl.ownBlock) (ho : w2.ownsRow w.heap.size 86 2 tl' L'.length (arRow L')) : ArcAt w nb ri M left cnt tl' L' w2 := by
  refine ⟨ho, h.rng.kept (hg.block nb (by have := h.low.size; have := h.nbl; omega) fun e => ?_) (hg.block ri h.rng.lt fun e => ?_), h.low.grown hg h.low.size fun q hq => (h.own.lt q hq).1, h.nbl, h.ri⟩
  · have := (h.own.lt nb e.symm).1
    have := h.nbl; omega
  · obtain ⟨c, hc⟩ := own_blkv h.own e.symm
    obtain ⟨s, se, c0, hi⟩ := h.rng.iter
    rw [hi] at hc; cases hc
end
end

/-!
  Layer 9 (locks): the walk of Arcs.
-/
section
open Go.RowKit Go.Joins Go.Sort Go.Shelf
set_option linter.unusedVariables false
set_option linter.unusedSimpArgs false

section
variable {w : World} {B t nb wb : Nat} {turn : Int} {M : List (Nm × Value)} {E : Nm → Ent} {Wt : List (Int × Value)}
set_option maxHeartbeats 3000000 in
set_option maxRecDepth 100000 in
theorem arcs_any (h : TabAt w B t nb wb turn M E Wt) (hM : M.length ≤ 1000) (hN : ∀ n, (qOf M E n).H.length + (qOf M E n).W.length ≤ 1000) :
    Calls Tryz.prog 18 #[.pointer (some ⟨t, 0, none⟩)] w fun e w' => ∃ (v : Value) (A : List Pr), e = .returned v ∧ w'.ownsRow w.heap.size 86 2 v A.length (arRow A) ∧ A.Pairwise ltP ∧ (∀ p, p ∈ A ↔ ∃ n, p ∈ arcsQ (qOf M E n)) ∧ Below w.heap.size w w' := by
  have mixed : Tryz.prog.follows Departure.mixedOrders = true := by kernel_rfl
  have HT := Lib.hid h
  have HM := Lib.hid hM
  have HN := Lib.hid hN
  obtain ⟨c0, -, -⟩ := h.cells
  obtain ⟨oi, hrng, hR0⟩ := range_k (P := Tryz.prog) keyLaw_nm.inj Tryz.underlying49 h.names
  have hb2 : Below w.heap.size w (w.alloc oi) := (Below.refl _ _).alloc (Nat.le_refl _) _
  have HA : Hid (ArcAt w nb w.heap.size M (fun k => k ∈ keysM M) M.length (.slice none 0 0) [] (w.alloc oi)) := Lib.hid ⟨⟨rfl, .inl ⟨rfl, rfl⟩⟩, hR0, hb2, h.names.lt, Nat.le_refl _⟩
  clear h hM hN hR0 hb2
  go_enter Tryz.func18, Tryz.ntmps18
  go_wp2_with fail
  generalize w.alloc oi = W3 at *
  obtain ⟨ri, hri⟩ : ∃ ri, w.heap.size = ri := ⟨_, rfl⟩
  have HA2 : Hid (ArcAt w nb ri M (fun k => k ∈ keysM M) M.length (.slice none 0 0) [] W3) := Lib.hid (by rw [← hri]; exact HA.out)
  rw [hri]
  clear hri HA hrng c0
  go_loopg [3] M.length (fun gg tl wr => ∃ L left cnt, ArcAt w nb ri M left cnt tl L wr ∧ (∀ p, p ∈ L ↔ ∃ n, n ∈ keysM M ∧ ¬ left n ∧ p ∈ arcsQ (E n).Q) ∧ L.length + cnt * 4000000 ≤ M.length * 4000000 ∧ cnt ≤ gg)
  case atStart => exact ⟨_, _, _, HA2.out, fun p => ⟨fun h => (by cases h), fun ⟨n, h1, h2, _⟩ => absurd h1 h2⟩, by simp, Nat.le_refl _⟩
  case round =>
    clear HA2
    obtain ⟨L, left, cnt, hA, hmem, hlen, hcnt⟩ := hrel
    obtain ⟨wo, rfl⟩ : ∃ wo : World, wo = wr := ⟨_, rfl⟩
    have HA := Lib.hid hA
    have HMem := Lib.hid hmem
    have HLen := Lib.hid hlen
    have HCnt := Lib.hid hcnt
    clear hmem hlen hcnt
    rcases hA.rng.next (P := Tryz.prog) keyLaw_nm.inj with ⟨h0, hnone, hNx⟩ | ⟨kn, v, w2, cnt', hkv, hleft, hNx, hR2, hlt2, hg2, hsz2, hent⟩
    · have HNo := Lib.hid hnone
      have hl9 : L.length ≤ 4000000000000 := by
        have h1 := HLen.out
        have h2 := HM.out
        have : M.length * 4000000 ≤ 1000 * 4000000 := Nat.mul_le_mul_right _ h2
        omega
      have HSo := Lib.hid (sort_arcs L hl9 w.heap.size _ wo HA.out.own)
      clear hA hnone h0 hl9
      go_wp2_with fail
      refine HSo.out.mono ?_
      rintro e w5 ⟨rfl, R, hperm, hsort, hown5, hmv5⟩
      have hRl : R.length ≤ 4000000000000 := by
        have h0 := hperm.length_eq
        have h1 := HLen.out
        have h2 := HM.out
        have : M.length * 4000000 ≤ 1000 * 4000000 := Nat.mul_le_mul_right _ h2
        omega
      have HCo := Lib.hid (compact_any R hRl w.heap.size _ w5 hown5)
      obtain ⟨d1, d2, -⟩ := dd_sorted R hsort R.length (Nat.le_refl _)
      have hlow5 := HA.out.low.trans ((hmv5.toBelow (B := w.heap.size) HA.out.low.size fun i hi => (HA.out.own.lt i hi).1))
      have HD1 := Lib.hid d1
      have HD2 : Hid (∀ p, p ∈ dd R R.length ↔ p ∈ L) := Lib.hid fun p => by rw [d2 p, List.take_length]; exact hperm.mem_iff
      have HLow := Lib.hid hlow5
      have HO5 := Lib.hid hown5
      clear hsort hperm hmv5 hown5 hRl d1 d2 hlow5
      go_wp2_with fail
      refine HCo.out.mono ?_
      rintro e w6 ⟨v6, rfl, hown6, hmv6⟩
      have HB6 := Lib.hid (HLow.out.trans (hmv6.toBelow (B := w.heap.size) HLow.out.size fun i hi => (HO5.out.lt i hi).1))
      have HO6 := Lib.hid hown6
      clear hown6 hmv6
      go_wp2_with fail
      go_ret
      refine ⟨_, _, rfl, HO6.out, HD1.out, fun p => ?_, HB6.out⟩
      rw [HD2.out p, HMem.out p]
      constructor
      · rintro ⟨n, h1, -, h3⟩
        exact ⟨n, by rw [qOf_in h1]; exact h3⟩
      · rintro ⟨n, h3⟩
        by_cases h1 : n ∈ keysM M
        · rw [qOf_in h1] at h3; exact ⟨n, h1, HNo.out n, h3⟩
        · rw [qOf_out h1] at h3; cases h3
    · have hkk : kn ∈ keysM M := List.mem_map.2 ⟨_, hkv, rfl⟩
      obtain ⟨⟨qb, hv, wv, Q⟩, hen⟩ : ∃ en, E kn = en := ⟨_, rfl⟩
      have hve : v = .pointer (some ⟨qb, 0, none⟩) := by have := HT.out.ptr _ hkv; rw [hen] at this; exact this
      subst hve
      have hN' : ∀ ty, (Instr.next (.pointer (some ⟨ri, 0, none⟩)) false ty).run Tryz.prog wo = .ok (.tuple #[.bool true, .agg #[.int .i64 kn.s, .string kn.i], .pointer (some ⟨qb, 0, none⟩)]) w2 := hNx
      have hent' : (Instr.entry (.pointer (some ⟨ri, 0, none⟩))).run Tryz.prog w2 = .ok (.tuple #[.agg #[.int .i64 kn.s, .string kn.i], .pointer (some ⟨qb, 0, none⟩)]) w2 := hent
      have ho3 := own_keep (w' := w2) hA.own fun g hg => hg2.block g (hA.own.lt g hg).2 fun e => (by
        obtain ⟨c, hc⟩ := own_blkv hA.own hg
        obtain ⟨s, se, c9, hi⟩ := hA.rng.iter
        rw [Option.some.inj e, hi] at hc
        cases hc)
      have HA3 : Hid (ArcAt w nb ri M (fun j => left j ∧ j ≠ kn) cnt' _ L w2) := Lib.hid ⟨ho3, hR2, hA.low.grown hg2 hA.low.size fun q hq => (by cases hq; exact hA.ri), hA.nbl, hA.ri⟩
      have hq : QAt w B qb hv wv Q := by have h1 := HT.out.qat kn hkk; rw [hen] at h1; exact h1
      have hlen : Q.H.length + Q.W.length ≤ 1000 := by have h2 := HN.out kn; rw [qOf_in hkk, hen] at h2; exact h2
      have hq2 := hq.below HA3.out.low
      obtain ⟨ah, ch, rfl, hch, hmh, hah⟩ := own_cap hq.held
      obtain ⟨aw, cw, rfl, hcw, hmw, haw⟩ := own_cap hq.wish
      have hk0 := hq2.cell0
      have hk1 := hq2.cell1
      have hlq := (hq2.lt (.inl rfl)).2
      have HQ := Lib.hid hq
      have HKk := Lib.hid hkk
      have HEn := Lib.hid hen
      have HLeft := Lib.hid hleft
      have HLt := Lib.hid hlt2
      have HQl := Lib.hid hlen
      have hl1 : Q.H.length ≤ 9223372036854775807 := by omega
      have hl2 : Q.W.length ≤ 9223372036854775807 := by omega
      have HL0 : Hid (L.length ≤ 4000000000) := Lib.hid (by
        have h1 := HLen.out
        have h2 := HM.out
        have : M.length * 4000000 ≤ 1000 * 4000000 := Nat.mul_le_mul_right _ h2
        omega)
      clear hA hkv hleft hNx hR2 hlt2 hg2 hent hkk hen hsz2 hq hq2 hlen hch hmh hcw hmw
      go_wp2_with fail
      clear hk0 hk1 hlq hN' hent'
      go_loopw [3, 30] (fun tl ti wr => ∃ k, k ≤ Q.H.length ∧ ti = .int .i64 k ∧ ArcAt w nb ri M (fun j => left j ∧ j ≠ kn) cnt' tl (L ++ hArcs Q k) wr) (fun _ ti _ => Q.H.length - (intOf ti).toNat)
      case atStart => exact ⟨0, by omega, rfl, by rw [hArcs, List.append_nil]; exact HA3.out⟩
      case round =>
        obtain ⟨k, hk, rfl, hA4⟩ := hrel
        obtain ⟨w4, rfl⟩ : ∃ w4 : World, w4 = wr := ⟨_, rfl⟩
        have HA4 := Lib.hid hA4
        clear hA4
        by_cases hlt : k < Q.H.length
        · obtain ⟨gb, rfl, hgb, hgl⟩ := hah.resolve_left (by omega)
          have hki : decide ((k : Int) < (Q.H.length : Int)) = true := by simp; omega
          obtain ⟨d0, d1, d2, d3⟩ := hd_cells (HQ.out.below HA4.out.low).held k hlt
          have hz4 := HA4.out.low.size
          have HS := Lib.hid (hArcs_succ Q k hlt)
          have hlen4 := hArcs_len Q (by have := HQl.out; omega) k
          have HL4 : Hid ((L ++ hArcs Q k).length ≤ 5000000000) := Lib.hid (by
            rw [List.length_append]
            have h1 := HL0.out
            have h2 := HQl.out
            have : k * 1000 ≤ 1000 * 1000 := Nat.mul_le_mul_right _ (by omega)
            omega)
          clear hlen4
          generalize Q.H[k] = hd at *
          have HQ5 := Lib.hid ((HQ.out.below HA4.out.low).below ((Below.refl w4.heap.size w4).alloc (Nat.le_refl _) (.cells #[.int .i64 hd.x, .int .i64 hd.m, .int .i64 hd.w, .int .i64 hd.t] 60)))
          have HA5 := Lib.hid (HA4.out.alloc (.cells #[.int .i64 hd.x, .int .i64 hd.m, .int .i64 hd.w, .int .i64 hd.t] 60))
          by_cases hw : hd.w = 0
          · have hwb : (hd.w != 0) = false := by simp [hw]
            have HW := Lib.hid hwb
            clear hw
            go_wp2_with fail
            refine ⟨⟨k + 1, by omega, by go_num, ?_⟩, by simp [intOf]; omega⟩
            rw [HS.out, HW.out, if_neg (by simp), List.append_nil]
            exact HA5.out
          · have hwb : (hd.w != 0) = true := by simp [hw]
            have HW := Lib.hid hwb
            have HAg := Lib.hid (against_any HQ5.out hd.x hd.w (by have := HQl.out; omega))
            have hk6 : (agL hd.x hd.w Q.H).length ≤ 1000000000000 := by
              have h1 := agL_len hd.x hd.w Q.H
              have h2 := HQl.out
              omega
            obtain ⟨K4, hK4⟩ : ∃ K4, agL hd.x hd.w Q.H = K4 := ⟨_, rfl⟩
            obtain ⟨L4, hL4⟩ : ∃ L4, L ++ hArcs Q k = L4 := ⟨_, rfl⟩
            rw [hK4] at HAg hk6
            rw [hL4] at HA5 HL4
            have HK4 := Lib.hid hK4
            have HL5 := Lib.hid hL4
            clear hw hK4 hL4
            go_wp2_with fail
            refine HAg.out.mono ?_
            rintro e w6 ⟨v6, rfl, ho6, hb6⟩
            have hA6 := HA5.out.below hb6
            have HA6 := Lib.hid hA6
            have hl6 := HL4.out
            have hz6 : w.heap.size ≤ w6.heap.size := hA6.low.size
            have hown6 := hA6.own
            clear hb6 hA6
            go_wp2_with (at_builtin; refine app_pr rfl _ _ rfl w.heap.size _ _ v6 L4 K4 rfl hown6 rfl ho6 (by omega) hk6 hz6 ?_)
            intro v7 w7 ho7 hg7
            have HA7 := Lib.hid (HA6.out.grown (L' := L4 ++ K4) hg7 (by rw [List.length_append]; simpa using ho7))
            clear ho6 hown6 ho7 hg7 hl6 hz6 hk6
            go_wp2_with fail
            refine ⟨⟨k + 1, by omega, by go_num, ?_⟩, by simp [intOf]; omega⟩
            rw [HS.out, HW.out, if_pos rfl, ← List.append_assoc, HL5.out, HK4.out]
            exact HA7.out
        · have hki : decide ((k : Int) < (Q.H.length : Int)) = false := by simp; omega
          have hkk : k = Q.H.length := by omega
          subst hkk
          have hq4 := HQ.out.below HA4.out.low
          have hk1 := hq4.cell1
          have hlq := (hq4.lt (.inl rfl)).2
          have hlen4 := hArcs_len Q (by have := HQl.out; omega) Q.H.length
          have HL4 : Hid ((L ++ hArcs Q Q.H.length).length ≤ 5000000000) := Lib.hid (by
            rw [List.length_append]
            have h1 := HL0.out
            have h2 := HQl.out
            have : Q.H.length * 1000 ≤ 1000 * 1000 := Nat.mul_le_mul_right _ (by omega)
            omega)
          clear hq4 hlen4
          obtain ⟨L1, hL1⟩ : ∃ L1, L ++ hArcs Q Q.H.length = L1 := ⟨_, rfl⟩
          rw [hL1] at HA4 HL4
          have HL1 := Lib.hid hL1
          clear hL1
          go_wp2_with fail
          go_loopw [3, 51] (fun tl ti wr => ∃ i, i ≤ Q.W.length ∧ ti = .int .i64 i ∧ ArcAt w nb ri M (fun j => left j ∧ j ≠ kn) cnt' tl (L1 ++ wArcs Q i) wr) (fun _ ti _ => Q.W.length - (intOf ti).toNat)
          case atStart => exact ⟨0, by omega, rfl, by rw [wArcs, List.append_nil]; exact HA4.out⟩
          case round =>
            clear HA4 hk1 hlq
            obtain ⟨i, hi, rfl, hA5⟩ := hrel
            obtain ⟨w5, rfl⟩ : ∃ w5 : World, w5 = wr := ⟨_, rfl⟩
            have HA5 := Lib.hid hA5
            clear hA5
            by_cases hlt2 : i < Q.W.length
            · obtain ⟨gw, rfl, hgw, hgwl⟩ := haw.resolve_left (by omega)
              have hki2 : decide ((i : Int) < (Q.W.length : Int)) = true := by simp; omega
              obtain ⟨d0, d1⟩ := ws_cells (HQ.out.below HA5.out.low).wish i hlt2
              have hz5 := HA5.out.low.size
              have HS := Lib.hid (wArcs_succ Q i hlt2)
              have hlen5 := wArcs_len Q HQl.out i
              have HL5 : Hid ((L1 ++ wArcs Q i).length ≤ 6000000000) := Lib.hid (by
                rw [List.length_append]
                have h1 := HL4.out
                have h2 := HQl.out
                have : i * 3000 ≤ 1000 * 3000 := Nat.mul_le_mul_right _ (by omega)
                omega)
              clear hlen5
              generalize Q.W[i] = y at *
              have hbx := heap_alloc_new w5 (.cells #[.int .i64 y.x, .int .i64 y.m] 64)
              have HQ6 := Lib.hid ((HQ.out.below HA5.out.low).below ((Below.refl w5.heap.size w5).alloc (Nat.le_refl _) (.cells #[.int .i64 y.x, .int .i64 y.m] 64)))
              have HA6 := Lib.hid (HA5.out.alloc (.cells #[.int .i64 y.x, .int .i64 y.m] 64))
              have HBx := Lib.hid hbx
              have HAg := Lib.hid (against_any HQ6.out y.x y.m (by have := HQl.out; omega))
              have hk6 : (agL y.x y.m Q.H).length ≤ 1000000000000 := by
                have h1 := agL_len y.x y.m Q.H
                have h2 := HQl.out
                omega
              obtain ⟨K5, hK5⟩ : ∃ K5, agL y.x y.m Q.H = K5 := ⟨_, rfl⟩
              obtain ⟨L5, hL5⟩ : ∃ L5, L1 ++ wArcs Q i = L5 := ⟨_, rfl⟩
              have hK5l : K5.length ≤ 1000 := by
                rw [← hK5]
                have h1 := agL_len y.x y.m Q.H
                have h2 := HQl.out
                omega
              have HK5l := Lib.hid hK5l
              rw [hK5] at HAg hk6
              rw [hL5] at HA6 HL5
              have HK5 := Lib.hid hK5
              have HLL5 := Lib.hid hL5
              clear hK5 hL5 hbx hK5l
              go_wp2_with fail
              refine HAg.out.mono ?_
              rintro e w7 ⟨v7, rfl, ho7, hb7⟩
              have hA7 := HA6.out.below hb7
              have HA7 := Lib.hid hA7
              have hl6 := HL5.out
              have hz6 : w.heap.size ≤ w7.heap.size := hA7.low.size
              have hbx7 := (hb7.block _ (Array.getElem?_eq_some_iff.1 HBx.out).1).trans HBx.out
              have HBx7 := Lib.hid hbx7
              have hown6 := hA7.own
              clear hb7 hA7 hbx7
              go_wp2_with (at_builtin; refine app_pr rfl _ _ rfl w.heap.size _ _ v7 L5 K5 rfl hown6 rfl ho7 (by omega) hk6 hz6 ?_)
              intro v8 w8 ho8 hg8
              have HA8 := Lib.hid (HA7.out.grown (L' := L5 ++ K5) hg8 (by rw [List.length_append]; simpa using ho8))
              have HBx8 := Lib.hid ((hg8.block _ (Array.getElem?_eq_some_iff.1 HBx7.out).1 fun e => own_ne_bl HA7.out.own HBx7.out (by decide) e.symm).trans HBx7.out)
              have HL8 : Hid ((L5 ++ K5).length ≤ 6000001000) := Lib.hid (by rw [List.length_append]; have := HL5.out; have := HK5l.out; omega)
              clear ho7 hown6 ho8 hg8 hl6 hz6 hk6 d0 d1 HA7 HBx7 HAg HBx HA6 HQ6
              obtain ⟨L6, hL6⟩ : ∃ L6, L5 ++ K5 = L6 := ⟨_, rfl⟩
              rw [hL6] at HA8 HL8
              have HL6 := Lib.hid hL6
              clear hL6
              have hq8 := HQ.out.below HA8.out.low
              have hk0 := hq8.cell0
              have hlq := (hq8.lt (.inl rfl)).2
              obtain ⟨bx, hbxe⟩ : ∃ bx, w5.heap.size = bx := ⟨_, rfl⟩
              rw [hbxe] at HBx8
              rw [hbxe]
              clear hbxe hq8
              go_wp2_with fail
              go_loopw [3, 69] (fun tl ti wr => ∃ k, k ≤ Q.H.length ∧ ti = .int .i64 k ∧ ArcAt w nb ri M (fun j => left j ∧ j ≠ kn) cnt' tl (L6 ++ wantX y.x (Q.H.take k)) wr ∧ wr.heap[bx]? = some (.cells #[.int .i64 y.x, .int .i64 y.m] 64)) (fun _ ti _ => Q.H.length - (intOf ti).toNat)
              case atStart => exact ⟨0, by omega, rfl, by rw [List.take_zero, show wantX y.x [] = [] from rfl, List.append_nil]; exact HA8.out, HBx8.out⟩
              case round =>
                clear HA8 HBx8 hk0 hlq
                obtain ⟨k, hk, rfl, hA9, hbx9⟩ := hrel
                obtain ⟨w9, rfl⟩ : ∃ w9 : World, w9 = wr := ⟨_, rfl⟩
                have HA9 := Lib.hid hA9
                have HBx9 := Lib.hid hbx9
                clear hA9 hbx9
                have hz9 := HA9.out.low.size
                by_cases hlt3 : k < Q.H.length
                · obtain ⟨gb, rfl, hgb, hgl⟩ := hah.resolve_left (by omega)
                  have hki3 : decide ((k : Int) < (Q.H.length : Int)) = true := by simp; omega
                  obtain ⟨d0, d1, d2, d3⟩ := hd_cells (HQ.out.below HA9.out.low).held k hlt3
                  have HS9 := Lib.hid (wantX_succ y.x Q.H k hlt3)
                  have HL9 : Hid ((L6 ++ wantX y.x (Q.H.take k)).length ≤ 6000002000) := Lib.hid (by
                    have h1 := wantX_len y.x (Q.H.take k)
                    have h2 := HQl.out
                    have h3 := HL8.out
                    rw [List.length_take] at h1
                    rw [List.length_append]; omega)
                  generalize Q.H[k] = hd at *
                  obtain ⟨L7, hL7⟩ : ∃ L7, L6 ++ wantX y.x (Q.H.take k) = L7 := ⟨_, rfl⟩
                  rw [hL7] at HA9 HL9
                  have HL7 := Lib.hid hL7
                  have hb9 : Below w9.heap.size w9 (w9.alloc (.cells #[.int .i64 hd.x, .int .i64 hd.m, .int .i64 hd.w, .int .i64 hd.t] 60)) := (Below.refl _ _).alloc (Nat.le_refl _) _
                  have HA10 := Lib.hid (HA9.out.below hb9)
                  have hbxl := (Array.getElem?_eq_some_iff.1 HBx9.out).1
                  have HBx10 := Lib.hid ((hb9.block bx hbxl).trans HBx9.out)
                  have hbc0 : w9.cell? ⟨bx, 0, none⟩ = some (.int .i64 y.x) := (cell_of_block HBx9.out 0).trans rfl
                  have hbxl2 : bx < w9.heap.size := hbxl
                  clear hL7 hb9
                  by_cases hw : hd.w = 0
                  · have hwb : (hd.w != 0) = false := by simp [hw]
                    have HW := Lib.hid hwb
                    clear hw
                    go_wp2_with fail
                    refine ⟨⟨k + 1, by omega, by go_num, ?_, HBx10.out⟩, by simp [intOf]; omega⟩
                    rw [HS9.out, HW.out, if_neg (by simp), List.append_nil, HL7.out]
                    exact HA10.out
                  · have hwb : (hd.w != 0) = true := by simp [hw]
                    have HW := Lib.hid hwb
                    have ho10 := own_made1 (w9.alloc (.cells #[.int .i64 hd.x, .int .i64 hd.m, .int .i64 hd.w, .int .i64 hd.t] 60)) y.x hd.x
                    rw [World.size_alloc] at ho10
                    have HA11 := Lib.hid (HA10.out.alloc (.cells #[.int .i64 y.x, .int .i64 hd.x] 86))
                    have hbx11 : ((w9.alloc (.cells #[.int .i64 hd.x, .int .i64 hd.m, .int .i64 hd.w, .int .i64 hd.t] 60)).alloc (.cells #[.int .i64 y.x, .int .i64 hd.x] 86)).heap[bx]? = some (.cells #[.int .i64 y.x, .int .i64 y.m] 64) := (Below.heap_alloc _ _ _ (by rw [World.size_alloc]; omega)).trans HBx10.out
                    have HBx11 := Lib.hid hbx11
                    have hown11 := HA11.out.own
                    have hl11 := HL9.out
                    have hz11 := HA11.out.low.size
                    clear hw hbx11
                    go_wp2_with (at_builtin; refine app_pr rfl _ _ rfl w.heap.size _ _ (.slice (some ⟨w9.heap.size + 1, 0, none⟩) 1 1) L7 [(y.x, hd.x)] rfl hown11 rfl ho10 (by omega) (by simp) hz11 ?_)
                    intro v12 w12 ho12 hg12
                    have HA12 := Lib.hid (HA11.out.grown (L' := L7 ++ [(y.x, hd.x)]) hg12 (by rw [List.length_append]; simpa using ho12))
                    have HBx12 := Lib.hid ((hg12.block _ (Array.getElem?_eq_some_iff.1 HBx11.out).1 fun e => own_ne_bl HA11.out.own HBx11.out (by decide) e.symm).trans HBx11.out)
                    clear ho10 hown11 ho12 hg12 hl11 hz11 HA11 HBx11 HA10 HBx10
                    go_wp2_with fail
                    refine ⟨⟨k + 1, by omega, by go_num, ?_, HBx12.out⟩, by simp [intOf]; omega⟩
                    rw [HS9.out, HW.out, if_pos rfl, ← List.append_assoc, HL7.out]
                    exact HA12.out
                · have hki3 : decide ((k : Int) < (Q.H.length : Int)) = false := by simp; omega
                  have hkk : k = Q.H.length := by omega
                  subst hkk
                  rw [List.take_length] at HA9
                  have HL9 : Hid ((L6 ++ wantX y.x Q.H).length ≤ 6000002000) := Lib.hid (by
                    have h1 := wantX_len y.x Q.H
                    have h2 := HQl.out
                    have h3 := HL8.out
                    rw [List.length_append]; omega)
                  obtain ⟨L7, hL7⟩ : ∃ L7, L6 ++ wantX y.x Q.H = L7 := ⟨_, rfl⟩
                  rw [hL7] at HA9 HL9
                  have HL7 := Lib.hid hL7
                  have hq9 := HQ.out.below HA9.out.low
                  have hk1 := hq9.cell1
                  have hlq := (hq9.lt (.inl rfl)).2
                  have hcw : Q.W.length ≤ cw := by
                    obtain ⟨_, _, he, hc, -, -⟩ := own_cap hq9.wish
                    cases he; exact hc
                  have hs1 : i ≤ cw := by omega
                  have hs2 : (i : Int) ≤ (cw : Int) := by omega
                  have hs3 : (0 : Int) ≤ (i : Int) := Int.natCast_nonneg _
                  have hs4 : i ≤ 9223372036854775807 := by omega
                  clear hL7 hq9 hlt3
                  go_wp2_with fail
                  go_loopw [3, 92] (fun tl ti wr => ∃ j, j ≤ i ∧ ti = .int .i64 j ∧ ArcAt w nb ri M (fun j => left j ∧ j ≠ kn) cnt' tl (L7 ++ prevX y.x (Q.W.take j)) wr ∧ wr.heap[bx]? = some (.cells #[.int .i64 y.x, .int .i64 y.m] 64)) (fun _ ti _ => i - (intOf ti).toNat)
                  case atStart => exact ⟨0, by omega, rfl, by rw [List.take_zero, show prevX y.x [] = [] from rfl, List.append_nil]; exact HA9.out, HBx9.out⟩
                  case round =>
                    clear HA9 HBx9 hk1 hlq
                    obtain ⟨j, hj, rfl, hA13, hbx13⟩ := hrel
                    obtain ⟨w13, rfl⟩ : ∃ w13 : World, w13 = wr := ⟨_, rfl⟩
                    have HA13 := Lib.hid hA13
                    have HBx13 := Lib.hid hbx13
                    clear hA13 hbx13
                    have hz13 := HA13.out.low.size
                    by_cases hlt4 : j < i
                    · have hki4 : decide ((j : Int) < (i : Int)) = true := by simp; omega
                      have hjw : j < Q.W.length := by omega
                      obtain ⟨d0, d1⟩ := ws_cells (HQ.out.below HA13.out.low).wish j hjw
                      have HS13 := Lib.hid (prevX_succ y.x Q.W j hjw)
                      have HL13 : Hid ((L7 ++ prevX y.x (Q.W.take j)).length ≤ 6000004000) := Lib.hid (by
                        have h2 := HQl.out
                        have h3 := HL9.out
                        rw [List.length_append, prevX, List.length_map, List.length_take]; omega)
                      generalize Q.W[j] = z at *
                      obtain ⟨L8, hL8⟩ : ∃ L8, L7 ++ prevX y.x (Q.W.take j) = L8 := ⟨_, rfl⟩
                      rw [hL8] at HA13 HL13
                      have HL8' := Lib.hid hL8
                      have hb13 : Below w13.heap.size w13 (w13.alloc (.cells #[.int .i64 z.x, .int .i64 z.m] 64)) := (Below.refl _ _).alloc (Nat.le_refl _) _
                      have HA14 := Lib.hid (HA13.out.below hb13)
                      have hbxl := (Array.getElem?_eq_some_iff.1 HBx13.out).1
                      have HBx14 := Lib.hid ((hb13.block bx hbxl).trans HBx13.out)
                      have hbc0 : w13.cell? ⟨bx, 0, none⟩ = some (.int .i64 y.x) := (cell_of_block HBx13.out 0).trans rfl
                      have hbxl2 : bx < w13.heap.size := hbxl
                      have ho14 := own_made1 (w13.alloc (.cells #[.int .i64 z.x, .int .i64 z.m] 64)) y.x z.x
                      rw [World.size_alloc] at ho14
                      have HA15 := Lib.hid (HA14.out.alloc (.cells #[.int .i64 y.x, .int .i64 z.x] 86))
                      have hbx15 : ((w13.alloc (.cells #[.int .i64 z.x, .int .i64 z.m] 64)).alloc (.cells #[.int .i64 y.x, .int .i64 z.x] 86)).heap[bx]? = some (.cells #[.int .i64 y.x, .int .i64 y.m] 64) := (Below.heap_alloc _ _ _ (by rw [World.size_alloc]; omega)).trans HBx14.out
                      have HBx15 := Lib.hid hbx15
                      have hown15 := HA15.out.own
                      have hl15 := HL13.out
                      have hz15 := HA15.out.low.size
                      clear hL8 hb13 hbx15
                      go_wp2_with (at_builtin; refine app_pr rfl _ _ rfl w.heap.size _ _ (.slice (some ⟨w13.heap.size + 1, 0, none⟩) 1 1) L8 [(y.x, z.x)] rfl hown15 rfl ho14 (by omega) (by simp) hz15 ?_)
                      intro v16 w16 ho16 hg16
                      have HA16 := Lib.hid (HA15.out.grown (L' := L8 ++ [(y.x, z.x)]) hg16 (by rw [List.length_append]; simpa using ho16))
                      have HBx16 := Lib.hid ((hg16.block _ (Array.getElem?_eq_some_iff.1 HBx15.out).1 fun e => own_ne_bl HA15.out.own HBx15.out (by decide) e.symm).trans HBx15.out)
                      clear ho14 hown15 ho16 hg16 hl15 hz15 HA15 HBx15 HA14 HBx14
                      go_wp2_with fail
                      refine ⟨⟨j + 1, by omega, by go_num, ?_, HBx16.out⟩, by simp [intOf]; omega⟩
                      rw [HS13.out, ← List.append_assoc, HL8'.out]
                      exact HA16.out
                    · have hki4 : decide ((j : Int) < (i : Int)) = false := by simp; omega
                      have hjj : j = i := by omega
                      subst hjj
                      clear hki4 hs1 hs2 hs3
                      have hk9 : ¬ j < j := by omega
                      go_wp2_with fail
                      refine ⟨⟨j + 1, by omega, by go_num, ?_⟩, by simp [intOf]; omega⟩
                      rw [HS.out, HK5.out, ← List.append_assoc, ← List.append_assoc, ← List.append_assoc, HLL5.out, HL6.out, HL7.out]
                      exact HA13.out
            · have hki2 : decide ((i : Int) < (Q.W.length : Int)) = false := by simp; omega
              have hii : i = Q.W.length := by omega
              subst hii
              go_wp2_with fail
              go_roundg cnt'
              case measure => have := HLt.out; have := HCnt.out; omega
              case rel =>
                have hall : L1 ++ wArcs Q Q.W.length = L ++ arcsQ Q := by rw [← HL1.out, List.append_assoc]; rfl
                have hA := HA5.out
                rw [hall] at hA
                refine ⟨L ++ arcsQ Q, _, cnt', hA, fun p => ?_, ?_, Nat.le_refl _⟩
                · rw [List.mem_append, HMem.out p]
                  constructor
                  · rintro (⟨n, h1, h2, h3⟩ | h)
                    · exact ⟨n, h1, fun h => h2 h.1, h3⟩
                    · exact ⟨kn, HKk.out, fun h => h.2 rfl, by rw [HEn.out]; exact h⟩
                  · rintro ⟨n, h1, h2, h3⟩
                    by_cases hn : n = kn
                    · rw [hn, HEn.out] at h3
                      exact .inr h3
                    · exact .inl ⟨n, h1, fun h => h2 ⟨h, hn⟩, h3⟩
                · have h1 := HLen.out
                  have h2 := HLt.out
                  have h3 := arcsQ_len Q HQl.out
                  have h4 : (cnt' + 1) * 4000000 ≤ cnt * 4000000 := Nat.mul_le_mul_right _ h2
                  rw [List.length_append]
                  rw [Nat.add_mul] at h4
                  omega
end
end
end Go.Proofs.YtileamjmhhifaaaGreat
