/-
  Layer 9 (locks): pairs sorted; the holders that stand against a mode.
-/
import Derived.Test.YtileamjmhhifaaaLk14
namespace Go.Proofs.Ytileamjmhhifaaa
open Go.RowKit Go.Joins Go.Sort Go.Shelf
set_option linter.unusedVariables false
set_option linter.unusedSimpArgs false

theorem prL_one (p : Pr) : ∀ v ∈ prL p, v.oneCell' = true := by
  intro v hv
  simp [prL] at hv
  rcases hv with rfl | rfl <;> rfl
theorem arRow_one (L : List Pr) : ∀ v ∈ arRow L, v.oneCell' = true := by
  intro v hv
  obtain ⟨p, -, hp⟩ := List.mem_flatMap.1 hv
  exact prL_one p v hp
theorem arRow_len (L : List Pr) : (arRow L).length = L.length * 2 := flat_len prL_len L
theorem arRow_app (L K : List Pr) : arRow (L ++ K) = arRow L ++ arRow K := by simp [arRow]
theorem cfArcs : ∀ args w, (callFunc 36 args).run Try.prog w = .ok (.enter 36 args) w := fun args w => by kernel_rfl
theorem infoPr : (Try.prog.info? 48).map (fun i => (i.zero, i.size, i.bytes)) = some (some (.agg #[.int .i64 0, .int .i64 0]), 2, 16) := by kernel_rfl
theorem sort_arcs (R : List Pr) (hl : R.length ≤ 4000000000000) (B : Nat) (v : Value) (w : World) (h : w.ownsRow B 48 2 v R.length (arRow R)) :
    Calls Try.prog 35 #[v, .func (.func 36) #[] #[]] w fun e w' => e = .returned (.tuple #[]) ∧ ∃ R' : List Pr, R'.Perm R ∧ R'.Pairwise (fun x y => ¬ ltP y x) ∧ w'.ownsRow B 48 2 v R'.length (arRow R') ∧ Moved (fun i => v.ownBlock = some i) w w' := by
  have := sort_row Try.sortAr 2 (by omega) Try.isAgg48 Try.sizeOf48 prL prL_len prL_one cmpP swoP 36 cfArcs clo_arcs R hl B 48 v w h
  refine Calls.mono this ?_
  rintro e w' ⟨rfl, R', h1, h2, h3, h4⟩
  exact ⟨rfl, R', h1, h2.imp fun hxy => (ltOf_Pf _ _).1 hxy, h3, h4⟩

/-- the holders that stand against a mode -/
def agL (x m : Int) (H : List Hd) : List Pr := (H.filter fun h => !(h.x == x) && !compatL m h.m).map fun h => (x, h.x)
theorem agL_len (x m : Int) (H : List Hd) : (agL x m H).length ≤ H.length := by
  unfold agL; rw [List.length_map]; exact List.length_filter_le ..
theorem agL_succ (x m : Int) (H : List Hd) (k : Nat) (hk : k < H.length) : agL x m (H.take (k + 1)) = agL x m (H.take k) ++ if (!(H[k].x == x) && !compatL m H[k].m) = true then [(x, H[k].x)] else [] := by
  unfold agL
  rw [List.take_succ_eq_append_getElem hk, List.filter_append, List.map_append]
  congr 1
  by_cases h : (!(H[k].x == x) && !compatL m H[k].m) = true
  · rw [if_pos h]; simp only [List.filter_cons, List.filter_nil]; rw [if_pos h]; rfl
  · rw [if_neg h]; simp only [List.filter_cons, List.filter_nil]; rw [if_neg h]; rfl
set_option maxHeartbeats 2000000 in
set_option maxRecDepth 100000 in
theorem against_any {B qb : Nat} {hv wv : Value} {Q : Qu} {w : World} (h : QAt w B qb hv wv Q) (x m : Int) (hl : Q.H.length ≤ 100000) :
    Calls Try.prog 34 #[.pointer (some ⟨qb, 0, none⟩), .int .i64 x, .int .i64 m] w fun e w' => ∃ v, e = .returned v ∧ w'.ownsRow w.heap.size 48 2 v (agL x m Q.H).length (arRow (agL x m Q.H)) ∧ Below w.heap.size w w' := by
  obtain ⟨i0, hi, hz0, hz1, hz2⟩ := info_parts infoPr
  have HQ := Lib.hid h
  have h0 := h.cell0
  have ho := h.held
  obtain ⟨a, cap, rfl, hcap, hmx, ha⟩ := own_cap ho
  have HL := Lib.hid hl
  have hlen : Q.H.length ≤ 9223372036854775807 := by omega
  clear h hl ho hcap hmx
  go_enter Try.func34, Try.ntmps34
  go_wp2_with fail
  go_loopw [7, 15] (fun tl ti wr => ∃ k, k ≤ Q.H.length ∧ ti = .int .i64 k ∧ wr.ownsRow w.heap.size 48 2 tl (agL x m (Q.H.take k)).length (arRow (agL x m (Q.H.take k))) ∧ Below w.heap.size w wr) (fun _ ti _ => Q.H.length - (intOf ti).toNat)
  case atStart => exact ⟨0, by omega, rfl, ⟨rfl, .inl ⟨rfl, rfl⟩⟩, Below.refl _ _⟩
  case round =>
    obtain ⟨k, hk, rfl, hown, hB⟩ := hrel
    obtain ⟨wo, rfl⟩ : ∃ wo : World, wo = wr := ⟨_, rfl⟩
    have HB := Lib.hid hB
    have HOwn := Lib.hid hown
    clear hB hown
    by_cases hlt : k < Q.H.length
    · obtain ⟨gb, rfl, hgb, hgl⟩ := ha.resolve_left (by omega)
      have hki : decide ((k : Int) < (Q.H.length : Int)) = true := by simp; omega
      have HK1 := Lib.hid hlt
      obtain ⟨c0, c1, c2, c3⟩ := hd_cells (HQ.out.below HB.out).held k hlt
      have HS := Lib.hid (agL_succ x m Q.H k hlt)
      have hz := HB.out.size
      have hk5 : (agL x m (Q.H.take k)).length ≤ 100000 := by
        have h1 := agL_len x m (Q.H.take k)
        have h2 := HL.out
        rw [List.length_take] at h1; omega
      have HK5 := Lib.hid hk5
      clear hk5
      generalize Q.H[k] = hd at *
      clear hlt
      generalize agL x m (Q.H.take k) = L0 at *
      by_cases hx : hd.x = x
      · have hxb : (hd.x != x) = false := by simp [hx]
        have HX := Lib.hid hx
        clear hx
        go_wp2_with fail
        refine ⟨⟨k + 1, HK1.out, by go_num, ?_, HB.out.alloc hz _⟩, by have := HK1.out; simp [intOf]; omega⟩
        rw [HS.out, if_neg (by simp [HX.out]), List.append_nil]
        exact HOwn.out.alloc _
      · have hxb : (hd.x != x) = true := by simp [hx]
        have hxe : (hd.x == x) = false := by simp [hx]
        have HX := Lib.hid hxe
        clear hx hxe
        have HC := Lib.hid (fun W => compat_any m hd.m W)
        generalize compatL m hd.m = cq at *
        cases cq with
        | true =>
          go_wp2_with fail
          refine (HC.out _).mono ?_; rintro e w2 ⟨rfl, rfl⟩
          go_wp2_with fail
          refine ⟨⟨k + 1, HK1.out, by go_num, ?_, HB.out.alloc hz _⟩, by have := HK1.out; simp [intOf]; omega⟩
          rw [HS.out, if_neg (by simp), List.append_nil]
          exact HOwn.out.alloc _
        | false =>
          have hba : Below w.heap.size w ((wo.alloc (.cells #[.int .i64 hd.x, .int .i64 hd.m, .int .i64 hd.w, .int .i64 hd.t] 64)).alloc (.cells #[.int .i64 x, .int .i64 hd.x] 48)) := (HB.out.alloc hz _).alloc (by rw [World.size_alloc]; omega) _
          have HBA := Lib.hid hba
          have hown2 := (HOwn.out.alloc (.cells #[.int .i64 hd.x, .int .i64 hd.m, .int .i64 hd.w, .int .i64 hd.t] 64)).alloc (.cells #[.int .i64 x, .int .i64 hd.x] 48)
          have hnew := heap_alloc_new (wo.alloc (.cells #[.int .i64 hd.x, .int .i64 hd.m, .int .i64 hd.w, .int .i64 hd.t] 64)) (.cells #[.int .i64 x, .int .i64 hd.x] 48)
          have hszA : ((wo.alloc (.cells #[.int .i64 hd.x, .int .i64 hd.m, .int .i64 hd.w, .int .i64 hd.t] 64)).alloc (.cells #[.int .i64 x, .int .i64 hd.x] 48)).heap.size = wo.heap.size + 2 := by simp
          rw [World.size_alloc] at hnew
          have hk6 := HK5.out
          clear hba
          go_wp2_with fail
          refine (HC.out _).mono ?_; rintro e w2 ⟨rfl, rfl⟩
          go_wp2_with (at_builtin; refine wpList_append_lies _ rfl _ _ 44 rfl w.heap.size 48 i0 _ 2 16 Try.underlying44 hi hz0 hz1 hz2 rfl (by decide) _ L0.length _ rfl hown2 ⟨wo.heap.size + 1, 0, none⟩ 1 1 (prL (x, hd.x)) rfl rfl (World.news_of_block hnew) (prL_one _) (by omega) (by simp only [maxLen]; omega) (by omega) (by rw [hszA]; omega) (wo.heap.size + 2) hszA ?_)
          intro gg capg w7 hown7 hgrow hat hltg
          have HO7 := Lib.hid hown7
          have HB7 := Lib.hid (HBA.out.grown hgrow (by rw [hszA]; omega) (fun q hq => (HOwn.out.lt q hq).1))
          clear hown2 hnew hszA hk6 hown7 hgrow hat
          go_wp2_with fail
          refine ⟨⟨k + 1, HK1.out, by go_num, ?_, HB7.out⟩, by have := HK1.out; simp [intOf]; omega⟩
          rw [HS.out, HX.out]
          have := HO7.out
          rw [if_pos (by rfl), arRow_app, List.length_append]
          simpa [arRow] using this
    · have hki : decide ((k : Int) < (Q.H.length : Int)) = false := by simp; omega
      have hkk : k = Q.H.length := by omega
      subst hkk
      have hown := HOwn.out
      rw [List.take_length] at hown
      have HO := Lib.hid hown
      clear hown HOwn
      go_wp2_with fail
      go_ret
      exact ⟨_, rfl, HO.out, HB.out⟩
end Go.Proofs.Ytileamjmhhifaaa
