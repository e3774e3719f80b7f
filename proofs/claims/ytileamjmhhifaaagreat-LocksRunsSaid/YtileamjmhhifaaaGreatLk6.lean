/-
  Layer 9 (locks): what can be given is given: plain, and the walk of the search for the hold that began to want first.
-/
import Derived.Test.YtileamjmhhifaaaGreatLk6s
import Derived.Deep.LoopGhost
import Derived.Shelf.SlSortCmp.QuietGrown
namespace Go.Proofs.YtileamjmhhifaaaGreat
open Go.RowKit Go.Joins Go.Sort
set_option linter.unusedVariables false
set_option linter.unusedSimpArgs false

/-- may this hold become what it wants? -/
def candB (H : List Hd) (h : Hd) : Bool := h.w != 0 && freeL h.x h.w H
/-- the candidate that began first, among the first k -/
def bestTo (H : List Hd) : Nat → Option Nat
  | 0 => none
  | k + 1 =>
    match H[k]? with
    | none => bestTo H k
    | some h =>
      match bestTo H k with
      | none => if candB H h then some k else none
      | some b => if candB H h && decide (h.t < (H.getD b default).t) then some k else some b
def bestQ (H : List Hd) : Option Nat := bestTo H H.length
def optI : Option Nat → Int
  | none => -1
  | some k => k
theorem bestTo_lt (H : List Hd) : ∀ k b, bestTo H k = some b → b < k ∧ ∃ h, H[b]? = some h ∧ candB H h = true
  | 0, b, h => by cases h
  | k + 1, b, h => by
    have ih := bestTo_lt H k
    unfold bestTo at h
    cases hk : H[k]? with
    | none => rw [hk] at h; obtain ⟨h1, h2⟩ := ih b h; exact ⟨by omega, h2⟩
    | some y =>
      rw [hk] at h
      simp only at h
      cases hb : bestTo H k with
      | none =>
        rw [hb] at h
        simp only at h
        by_cases hc : candB H y = true
        · rw [if_pos hc] at h; cases h; exact ⟨by omega, y, hk, hc⟩
        · rw [if_neg hc] at h; cases h
      | some b' =>
        rw [hb] at h
        simp only at h
        by_cases hc : (candB H y && decide (y.t < (H.getD b' default).t)) = true
        · rw [if_pos hc] at h; cases h; exact ⟨by omega, y, hk, by simp only [Bool.and_eq_true] at hc; exact hc.1⟩
        · rw [if_neg hc] at h; cases h; obtain ⟨h1, h2⟩ := ih _ hb; exact ⟨by omega, h2⟩

/-- one hold becomes what it wanted -/
def stepA (Q : Qu) : Option (Qu × Int) :=
  match bestQ Q.H with
  | none => none
  | some k => some (⟨Q.H.set k ⟨(Q.H.getD k default).x, (Q.H.getD k default).w, 0, (Q.H.getD k default).t⟩, Q.W⟩, (Q.H.getD k default).x)
/-- the first wish becomes a hold -/
def stepB (Q : Qu) : Option (Qu × Int) :=
  match Q.W with
  | [] => none
  | x :: r => if (!wantL Q.H && freeL x.x x.m Q.H) = true then some (⟨Q.H ++ [⟨x.x, x.m, 0, 0⟩], r⟩, x.x) else none
/-- step by step to the end: who has been given something -/
inductive Runs (s : Qu → Option (Qu × Int)) : Qu → List Int → Qu → Prop
  | stop {Q : Qu} (h : s Q = none) : Runs s Q [] Q
  | step {Q Q1 Q' : Qu} {x : Int} {xs : List Int} (h : s Q = some (Q1, x)) (hr : Runs s Q1 xs Q') : Runs s Q (x :: xs) Q'
/-- all that can be given is given -/
def Gives (Q : Qu) (xs : List Int) (Q' : Qu) : Prop := ∃ xs1 xs2 Q1, Runs stepA Q xs1 Q1 ∧ Runs stepB Q1 xs2 Q' ∧ xs = xs1 ++ xs2

theorem below_drewN {B : Nat} {w w' : World} (h : Below B w w') (n : Nat) : Below B w (w'.drewN n) := ⟨h.os, h.tape, h.output, h.size, h.block⟩
theorem maxLen_eq : maxLen = 9223372036854775807 := rfl
theorem bestTo_succ (H : List Hd) (k : Nat) (hk : k < H.length) : bestTo H (k + 1) = match bestTo H k with
    | none => if candB H H[k] then some k else none
    | some b => if candB H H[k] && decide (H[k].t < (H.getD b default).t) then some k else some b := by
  rw [bestTo, List.getElem?_eq_getElem hk]
/-- the table's block, and the map of those that wait -/
structure WaitAt (w : World) (t nb wb : Nat) (turn : Int) (Wt : List (Int × Value)) : Prop where
  tab : w.heap[t]? = some (.cells #[.map (some nb), .map (some wb), .int .i64 turn] 52)
  map : KMap (fun k : Int => Value.int .i64 k) w wb Wt
theorem WaitAt.keep {w w' : World} {t nb wb : Nat} {turn : Int} {Wt : List (Int × Value)} (h : WaitAt w t nb wb turn Wt) (h1 : w'.heap[t]? = w.heap[t]?) (h2 : w'.heap[wb]? = w.heap[wb]?) : WaitAt w' t nb wb turn Wt :=
  ⟨h1.trans h.tab, h.map.kept h2⟩
theorem WaitAt.lt {w : World} {t nb wb : Nat} {turn : Int} {Wt : List (Int × Value)} (h : WaitAt w t nb wb turn Wt) : t < w.heap.size ∧ wb < w.heap.size :=
  ⟨(Array.getElem?_eq_some_iff.1 h.tab).1, h.map.lt⟩

theorem hdRow_mid : ∀ (L : List Hd) (i : Nat) (hi : i < L.length) (h : Hd), h.x = L[i].x → h.t = L[i].t → hdRow (L.set i h) = ((hdRow L).set (i * 4 + 1) (.int .i64 h.m)).set (i * 4 + 2) (.int .i64 h.w)
  | [], i, hi, h, _, _ => by simp at hi
  | x :: r, 0, _, h, h1, h2 => by simp only [List.getElem_cons_zero] at h1 h2; simp [hdRow, Hd.l, h1, h2]
  | x :: r, i + 1, hi, h, h1, h2 => by
    have ih := hdRow_mid r i (by simpa using hi) h (by simpa using h1) (by simpa using h2)
    have e : ∀ (l : List Value) (k : Nat) (v : Value), (x.l ++ l).set (4 + k) v = x.l ++ l.set k v := fun l k v => by
      rw [List.set_append_right _ _ (by rw [Hd.l_len]; omega), Hd.l_len, show 4 + k - 4 = k from by omega]
    show hdRow (x :: r.set i h) = _
    rw [show hdRow (x :: r.set i h) = x.l ++ hdRow (r.set i h) from rfl, ih, show hdRow (x :: r) = x.l ++ hdRow r from rfl, show (i + 1) * 4 + 1 = 4 + (i * 4 + 1) from by omega, show (i + 1) * 4 + 2 = 4 + (i * 4 + 2) from by omega, e, e]
theorem own_blk {w : World} {B s n g : Nat} {e : TypeId} {c : Nat} {xs : List Value} (h : w.ownsRow B e s (.slice (some ⟨g, 0, none⟩) n c) n xs) : ∃ cur, w.heap[g]? = some (.cells cur e) := by
  rcases h.2 with ⟨h0, -⟩ | ⟨g', cap, cur, h0, h1, h2, -⟩
  · cases h0
  · cases h0; exact ⟨cur, h2⟩
/-- how many want something -/
def wants (H : List Hd) : Nat := (H.filter fun h => h.w != 0).length
theorem wants_set (H : List Hd) (k : Nat) (hk : k < H.length) (hw : (H[k].w != 0) = true) (y : Hd) (hy : (y.w != 0) = false) : wants (H.set k y) < wants H := by
  induction H generalizing k with
  | nil => simp at hk
  | cons x r ih =>
    cases k with
    | zero =>
      simp only [List.getElem_cons_zero] at hw
      simp [wants, hw, hy]
    | succ k =>
      have := ih k (by simpa using hk) (by simpa using hw)
      unfold wants at this ⊢
      rw [List.set_cons_succ, List.filter_cons, List.filter_cons]
      split
      · simpa using this
      · exact this
/-- what give turns -/
def giveF (wb qb : Nat) (hv : Value) (i : Nat) : Prop := i = wb ∨ i = qb ∨ hv.ownBlock = some i
/-- the waits map without these -/
def Without (Wt Wt' : List (Int × Value)) (xs : List Int) : Prop := (∀ k, k ∈ Wt'.map (·.1) ↔ k ∈ Wt.map (·.1) ∧ k ∉ xs) ∧ ∀ x ∈ Wt', x ∈ Wt
theorem delK_sub (k : Int) : ∀ (M : List (Int × Value)), ∀ x ∈ delK k M, x ∈ M
  | [], x, h => h
  | y :: r, x, h => by
    unfold delK at h
    by_cases e : k = y.1
    · rw [if_pos e] at h; exact List.mem_cons_of_mem _ h
    · rw [if_neg e] at h
      rcases List.mem_cons.1 h with rfl | h
      · exact List.mem_cons_self ..
      · exact List.mem_cons_of_mem _ (delK_sub k r x h)
theorem Without.del {Wt Wc : List (Int × Value)} {xs : List Int} (h : Without Wt Wc xs) (hn : (Wc.map (·.1)).Nodup) (x : Int) : Without Wt (delK x Wc) (xs ++ [x]) := by
  refine ⟨fun k => ?_, fun y hy => h.2 y (delK_sub x Wc y hy)⟩
  rw [keys_del hn, h.1 k]
  simp only [List.mem_append, List.mem_singleton, not_or, and_assoc]
theorem QAt.setMap {w : World} {B qb wb : Nat} {hv wv : Value} {Q : Qu} (h : QAt w B qb hv wv Q) {es : Array MapEntry} {c : Nat} (hm : w.heap[wb]? = some (.map es c)) (o : Obj) : QAt (ChangeMaps.setBlock w wb o) B qb hv wv Q := by
  have hne : ∀ i : Nat, (∃ (c : Array Value) (t : TypeId), w.heap[i]? = some (Obj.cells c t (0, 0))) → (ChangeMaps.setBlock w wb o).heap[i]? = w.heap[i]? := by
    intro i hi
    obtain ⟨c, t, hc⟩ := hi
    have : wb ≠ i := fun e => by rw [e, hc] at hm; cases hm
    simp [ChangeMaps.setBlock, Array.getElem?_setIfInBounds, this]
  refine ⟨(hne qb ⟨_, _, h.blk⟩).trans h.blk, own_keep h.held fun g hg => hne g ?_, own_keep h.wish fun g hg => hne g ?_, h.le⟩
  · obtain ⟨a, cap, rfl, -, -, ha⟩ := own_cap h.held
    rcases ha with ⟨rfl, -⟩ | ⟨g', rfl, -⟩
    · cases hg
    · simp only [Value.ownBlock, Option.some.injEq] at hg; subst hg
      obtain ⟨cur, hc⟩ := own_blk h.held
      exact ⟨cur, _, hc⟩
  · obtain ⟨a, cap, rfl, -, -, ha⟩ := own_cap h.wish
    rcases ha with ⟨rfl, -⟩ | ⟨g', rfl, -⟩
    · cases hg
    · simp only [Value.ownBlock, Option.some.injEq] at hg; subst hg
      obtain ⟨cur, hc⟩ := own_blk h.wish
      exact ⟨cur, _, hc⟩
theorem Without.refl (Wt : List (Int × Value)) : Without Wt Wt [] := ⟨fun k => by simp, fun x h => h⟩

/-! operations that are not wanted, many at once -/
section
variable {P : Program} {ops : Array Oper} {C : World → Prop} {Q : Act → Prop}
def skipsB (ops : Array Oper) : List Oper → Act → Bool
  | [], _ => true
  | o :: r, a => !Region.wanted o (yielded ops a.tmps) && skipsB ops r (a.put o.dst undef)
theorem quiet_skips : ∀ (l rest : List Oper) (a : Act), skipsB ops l a = true → wpQuiet P ops C Q rest (l.foldl (fun a o => a.put o.dst undef) a) → wpQuiet P ops C Q (l ++ rest) a
  | [], _, _, _, h => h
  | o :: r, rest, a, hs, h => by
    simp only [skipsB, Bool.and_eq_true, Bool.not_eq_true'] at hs
    show (if Region.wanted o (yielded ops a.tmps) then o.quiet P a C (wpQuiet P ops C Q (r ++ rest)) else wpQuiet P ops C Q (r ++ rest) (a.put o.dst undef))
    rw [hs.1, if_neg (by simp)]
    exact quiet_skips r rest _ hs.2 h
theorem quiet_skipn (n : Nat) (l : List Oper) (a : Act) (h1 : skipsB ops (l.take n) a = true) (h2 : wpQuiet P ops C Q (l.drop n) ((l.take n).foldl (fun a o => a.put o.dst undef) a)) : wpQuiet P ops C Q l a := by
  have := quiet_skips (P := P) (C := C) (Q := Q) (l.take n) (l.drop n) a h1 h2
  rwa [List.take_append_drop] at this
end

set_option maxHeartbeats 3000000 in
set_option maxRecDepth 100000 in
theorem give_any {B qb : Nat} {hv wv : Value} {Q0 : Qu} {w : World} (h : QAt w B qb hv wv Q0) (t nb wb : Nat) (turn : Int) (Wt : List (Int × Value)) (hT : WaitAt w t nb wb turn Wt) (hN : Q0.H.length + Q0.W.length ≤ 100000) :
    Calls Tryz.prog 24 #[.pointer (some ⟨t, 0, none⟩), .pointer (some ⟨qb, 0, none⟩)] w fun e w' => e = .returned (.tuple #[]) ∧ ∃ Q' xs hv' wv' Wt', Gives Q0 xs Q' ∧ QAt w' B qb hv' wv' Q' ∧ WaitAt w' t nb wb turn Wt' ∧ Without Wt Wt' xs ∧ Moved (giveF wb qb hv) w w' ∧ (∀ g, hv'.ownBlock = some g → hv.ownBlock = some g ∨ w.heap.size ≤ g) ∧ (∀ g, wv'.ownBlock = some g → wv.ownBlock = some g ∨ w.heap.size ≤ g) := by
  have HQ := Lib.hid h
  have HW := Lib.hid hT
  have HN := Lib.hid hN
  have HF := Lib.hid (fun hv' wv' Q' x m w' h => free_any (w := w') (Q := Q') (B := B) (qb := qb) (hv := hv') (wv := wv') h x m)
  have mixed : Tryz.prog.follows Departure.mixedOrders = true := by kernel_rfl
  clear h hT hN
  go_enter Tryz.func24, Tryz.ntmps24
  go_wp2_with fail
  go_loopg [] (wants Q0.H) (fun gg wr => ∃ Q xs Wc, QAt wr B qb hv wv Q ∧ WaitAt wr t nb wb turn Wc ∧ Without Wt Wc xs ∧ Moved (giveF wb qb hv) w wr ∧ (∀ ys Q', Runs stepA Q ys Q' → Runs stepA Q0 (xs ++ ys) Q') ∧ wants Q.H ≤ gg ∧ Q.H.length + Q.W.length ≤ 100000)
  case atStart => exact ⟨Q0, [], Wt, HQ.out, HW.out, .refl _, .refl _ _, fun ys Q' h => h, Nat.le_refl _, HN.out⟩
  case round =>
    obtain ⟨Q, xs, Wc, hq, hwc, hwo, hmv, hrun, hwant, hqn⟩ := hrel
    have HQn := Lib.hid hqn
    have HQr := Lib.hid hq
    have HWc := Lib.hid hwc
    have HWo := Lib.hid hwo
    have HMv := Lib.hid hmv
    have HRun := Lib.hid hrun
    have HWant := Lib.hid hwant
    clear hwc hwo hmv hrun hwant hqn
    have h0 := hq.cell0
    have ho := hq.held
    clear hq
    obtain ⟨a, cap, rfl, hcap, hmx, ha⟩ := own_cap ho
    have hlen : Q.H.length ≤ 9223372036854775807 := by simp only [maxLen] at hmx; omega
    have HO := Lib.hid ho
    clear ho
    obtain ⟨ws, rfl⟩ : ∃ ws : World, ws = wr := ⟨_, rfl⟩
    go_wp2_with fail
    go_loopw [4, 5, 6, 14] (fun tb _ _ ti wr => ∃ k, k ≤ Q.H.length ∧ ti = .int .i64 k ∧ tb = .int .i64 (optI (bestTo Q.H k)) ∧ Below ws.heap.size ws wr) (fun _ _ _ i _ => Q.H.length - (intOf i).toNat)
    case atStart => exact ⟨0, by omega, rfl, rfl, Below.refl _ _⟩
    case round =>
      obtain ⟨k, hk, rfl, rfl, hB⟩ := hrel
      obtain ⟨wo, rfl⟩ : ∃ wo : World, wo = wr := ⟨_, rfl⟩
      by_cases hlt : k < Q.H.length
      · obtain ⟨gb, rfl, hgb, hgl⟩ := ha.resolve_left (by omega)
        have hki : decide ((k : Int) < (Q.H.length : Int)) = true := by simp; omega
        have HK1 := Lib.hid hlt
        have hownk := own_keep HO.out (fun q hq => by simp only [Value.ownBlock, Option.some.injEq] at hq; subst hq; exact hB.block _ hgl)
        have hz := hB.size
        obtain ⟨c0, c1, c2, c3⟩ := hd_cells hownk k hlt
        have hbs := bestTo_succ Q.H k hlt
        have hbl := bestTo_lt Q.H k
        have HC : Hid (candB Q.H Q.H[k] = (Q.H[k].w != 0 && freeL Q.H[k].x Q.H[k].w Q.H)) := Lib.hid rfl
        generalize Q.H[k] = hd at *
        have hB2 : Below ws.heap.size ws (wo.alloc (.cells #[.int .i64 hd.x, .int .i64 hd.m, .int .i64 hd.w, .int .i64 hd.t] 60)) := hB.alloc hz _
        have HQa := Lib.hid (HQr.out.below hB2)
        have HB2 := Lib.hid hB2
        by_cases hw0 : hd.w = 0
        · have hw1 : (hd.w != 0) = false := by simp [hw0]
          have hcd : candB Q.H hd = false := by rw [HC.out, hw1]; rfl
          have hb2 : bestTo Q.H (k + 1) = bestTo Q.H k := by
            rw [hbs, hcd]
            cases bestTo Q.H k <;> rfl
          have HE := Lib.hid hb2
          clear hB hbs hbl hcd hw0 HC hownk hb2 hB2
          go_wp2_with fail
          go_quiet (fail)
          go_wp2_with fail
          exact ⟨⟨k + 1, by omega, by go_num, by rw [HE.out], below_drewN HB2.out _⟩, by simp [intOf]; omega⟩
        · have hw1 : (hd.w != 0) = true := by simp [hw0]
          have hx0 := fun n os => cell_grown (w := wo.alloc (.cells #[.int .i64 hd.x, .int .i64 hd.m, .int .i64 hd.w, .int .i64 hd.t] 60)) (a := ⟨wo.heap.size, 0, none⟩) (by simp) (World.cell?_alloc_mark wo _ _ (0, 0) 0) n os
          have hx2 := fun n os => cell_grown (w := wo.alloc (.cells #[.int .i64 hd.x, .int .i64 hd.m, .int .i64 hd.w, .int .i64 hd.t] 60)) (a := ⟨wo.heap.size, 2, none⟩) (by simp) (World.cell?_alloc_mark wo _ _ (0, 0) 2) n os
          have hx3 := fun n os => cell_grown (w := wo.alloc (.cells #[.int .i64 hd.x, .int .i64 hd.m, .int .i64 hd.w, .int .i64 hd.t] 60)) (a := ⟨wo.heap.size, 3, none⟩) (by simp) (World.cell?_alloc_mark wo _ _ (0, 0) 3) n os

          have hq0 := fun n os => cell_grown (HQa.out.lt (.inl rfl)).2 HQa.out.cell0 n os
          have hfr : ∀ n os, Calls Tryz.prog 28 #[.pointer (some ⟨qb, 0, none⟩), .int .i64 hd.x, .int .i64 hd.w] (grow ((wo.alloc (.cells #[.int .i64 hd.x, .int .i64 hd.m, .int .i64 hd.w, .int .i64 hd.t] 60)).drewN n) os) fun e w'' => e = .returned (.bool (freeL hd.x hd.w Q.H)) ∧ ∃ p : GrownBy, w'' = grow ((wo.alloc (.cells #[.int .i64 hd.x, .int .i64 hd.m, .int .i64 hd.w, .int .i64 hd.t] 60)).drewN p.n) p.os := fun n os =>
            Calls.grown_of ((HF.out _ _ Q hd.x hd.w _ (HQa.out.below (Gr.below ⟨n, os, rfl⟩))).mono fun e w' h => ⟨h.1, h.2⟩)
          obtain ⟨q, hq⟩ : ∃ q, freeL hd.x hd.w Q.H = q := ⟨_, rfl⟩
          rw [hq] at hfr
          have hcd : candB Q.H hd = q := by rw [HC.out, hw1, hq]; rfl
          have HFr := Lib.hid hfr
          rw [hcd] at hbs
          clear hfr hq HC hcd
          cases q with
          | false =>
            have hb2 : bestTo Q.H (k + 1) = bestTo Q.H k := by
              rw [hbs]
              cases bestTo Q.H k <;> rfl
            have HE := Lib.hid hb2
            clear hB hbs hbl hw0 hownk hb2 hB2 hx3 hq0
            go_wp2_with fail
            generalize (wo.alloc (.cells #[.int .i64 hd.x, .int .i64 hd.m, .int .i64 hd.w, .int .i64 hd.t] 60)) = wA at *
            clear c0 c1 c2 c3
            clear hki hmx hcap hgb hgl ha hz
            refine wp_region_quiet_grown (by assumption) (by kernel_rfl) ?_
            iterate 9 (with_reducible refine wpQuiet_step (fun K hK => ?_); go_simp; with_reducible refine hK _ ?_; clear hK K)
            with_reducible refine wpQuiet_step (fun K hK => ?_)
            go_simp
            apply Exists.intro
            refine ⟨fun _ => ?_, hK _ ?_⟩
            exact HFr.out _ _
            clear hK K
            iterate 2 (with_reducible refine wpQuiet_step (fun K hK => ?_); go_simp; with_reducible refine hK _ ?_; clear hK K)
            with_reducible refine quiet_skipn 15 _ _ (by kernel_rfl) ?_
            simp only [List.take_succ_cons, List.take_zero, List.drop_succ_cons, List.drop_zero, List.foldl_cons, List.foldl_nil, Act.put, List.setIfInBounds_toArray, List.set_cons_zero, List.set_cons_succ]
            with_reducible refine wpQuiet_step (fun K hK => ?_)
            go_simp
            with_reducible refine hK _ ?_
            clear hK K
            with_reducible refine wpQuiet_nil ?_
            with_reducible intro _ hw'
            obtain ⟨⟨nq, osq⟩, hw''⟩ := hw'
            subst hw''
            go_wp2_with fail
            exact ⟨⟨k + 1, HK1.out, by go_num, by rw [HE.out], HB2.out.trans ((Gr.below ⟨nq, osq, rfl⟩).mono HB2.out.size)⟩, by have := HK1.out; simp [intOf]; omega⟩
          | true =>
            obtain ⟨bb, hbb⟩ : ∃ bb, bestTo Q.H k = bb := ⟨_, rfl⟩
            rw [hbb] at hbs hbl ⊢
            cases bb with
            | none =>
              have hb2 : bestTo Q.H (k + 1) = some k := by rw [hbs]; rfl
              have HE := Lib.hid hb2
              clear hB hbs hbl hw0 hownk hb2 hB2 hx3 hq0 hbb
              simp only [optI]
              go_wp2_with fail
              generalize (wo.alloc (.cells #[.int .i64 hd.x, .int .i64 hd.m, .int .i64 hd.w, .int .i64 hd.t] 60)) = wA at *
              clear c0 c1 c2 c3
              clear hki hmx hcap hgb hgl ha hz
              refine wp_region_quiet_grown (by assumption) (by kernel_rfl) ?_
              iterate 9 (with_reducible refine wpQuiet_step (fun K hK => ?_); go_simp; with_reducible refine hK _ ?_; clear hK K)
              with_reducible refine wpQuiet_step (fun K hK => ?_)
              go_simp
              apply Exists.intro
              refine ⟨fun _ => ?_, hK _ ?_⟩
              exact HFr.out _ _
              clear hK K
              iterate 5 (with_reducible refine wpQuiet_step (fun K hK => ?_); go_simp; with_reducible refine hK _ ?_; clear hK K)
              with_reducible refine quiet_skipn 11 _ _ (by kernel_rfl) ?_
              simp only [List.take_succ_cons, List.take_zero, List.drop_succ_cons, List.drop_zero, List.foldl_cons, List.foldl_nil, Act.put, List.setIfInBounds_toArray, List.set_cons_zero, List.set_cons_succ]
              iterate 2 (with_reducible refine wpQuiet_step (fun K hK => ?_); go_simp; with_reducible refine hK _ ?_; clear hK K)
              with_reducible refine wpQuiet_nil ?_
              with_reducible intro _ hw'
              obtain ⟨⟨nq, osq⟩, hw''⟩ := hw'
              subst hw''
              go_wp2_with fail
              exact ⟨⟨k + 1, HK1.out, by go_num, by first | (rw [HE.out]; rfl) | rw [HE.out], HB2.out.trans ((Gr.below ⟨nq, osq, rfl⟩).mono HB2.out.size)⟩, by have := HK1.out; simp [intOf]; omega⟩
            | some bi =>
              obtain ⟨hbk, hbh, hbg, -⟩ := hbl bi rfl
              have hbl2 : bi < Q.H.length := by omega
              have hgd : Q.H.getD bi default = Q.H[bi] := by rw [List.getD_eq_getElem?_getD, List.getElem?_eq_getElem hbl2]; rfl
              simp only [hgd, Bool.true_and] at hbs
              have hrow := (hd_cells (own_keep HQa.out.held (fun _ _ => rfl)) bi hbl2).2.2.2
              have hgA : gb < (wo.alloc (.cells #[.int .i64 hd.x, .int .i64 hd.m, .int .i64 hd.w, .int .i64 hd.t] 60)).heap.size := by rw [World.size_alloc]; omega
              have hrw := fun n os => cell_grown (a := ⟨gb, bi * 4 + 3, none⟩) hgA hrow n os
              have hb0 : decide ((bi : Int) < 0) = false := by simp
              have hb1 : (0 : Int) ≤ (bi : Int) := Int.natCast_nonneg _
              have hb3 : (bi : Int) < (Q.H.length : Int) := by omega
              have HE : Hid (bestTo Q.H (k + 1) = if decide (hd.t < Q.H[bi].t) then some k else some bi) := Lib.hid (by first | (rw [hbs]; rfl) | rw [hbs])
              clear hB hbs hbl hw0 hownk hB2 hbb hgd hrow hbg hbh hgA
              generalize Q.H[bi] = hb4 at *
              simp only [optI]
              go_wp2_with fail
              generalize (wo.alloc (.cells #[.int .i64 hd.x, .int .i64 hd.m, .int .i64 hd.w, .int .i64 hd.t] 60)) = wA at *
              clear c0 c1 c2 c3
              clear hki hmx hcap hgb hgl ha hz hbk hbl2
              obtain ⟨dq, hdq⟩ : ∃ dq, decide (hd.t < hb4.t) = dq := ⟨_, rfl⟩
              rw [hdq] at HE
              refine wp_region_quiet_grown (by assumption) (by kernel_rfl) ?_
              iterate 9 (with_reducible refine wpQuiet_step (fun K hK => ?_); go_simp; with_reducible refine hK _ ?_; clear hK K)
              with_reducible refine wpQuiet_step (fun K hK => ?_)
              go_simp
              apply Exists.intro
              refine ⟨fun _ => ?_, hK _ ?_⟩
              exact HFr.out _ _
              clear hK K
              iterate 18 (with_reducible refine wpQuiet_step (fun K hK => ?_); go_simp; with_reducible refine hK _ ?_; clear hK K)
              with_reducible refine wpQuiet_nil ?_
              with_reducible intro _ hw'
              obtain ⟨⟨nq, osq⟩, hw''⟩ := hw'
              subst hw''
              cases dq with
              | true =>
                go_wp2_with fail
                exact ⟨⟨k + 1, HK1.out, by go_num, by first | (rw [HE.out]; rfl) | rw [HE.out], HB2.out.trans ((Gr.below ⟨nq, osq, rfl⟩).mono HB2.out.size)⟩, by have := HK1.out; simp [intOf]; omega⟩
              | false =>
                go_wp2_with fail
                exact ⟨⟨k + 1, HK1.out, by go_num, by first | (rw [HE.out]; rfl) | rw [HE.out], HB2.out.trans ((Gr.below ⟨nq, osq, rfl⟩).mono HB2.out.size)⟩, by have := HK1.out; simp [intOf]; omega⟩
      · have hki : decide ((k : Int) < (Q.H.length : Int)) = false := by simp; omega
        have hkk : k = Q.H.length := by omega
        subst hkk
        obtain ⟨bb, hbb⟩ : ∃ bb, bestQ Q.H = bb := ⟨_, rfl⟩
        have hbb2 : bestTo Q.H Q.H.length = bb := hbb
        rw [hbb2]
        have HBB := Lib.hid hbb
        have HB := Lib.hid hB
        clear hbb hbb2 hB
        cases bb with
        | none =>
          have hst : stepA Q = none := by unfold stepA; rw [HBB.out]
          have HRa := Lib.hid (HRun.out [] Q (.stop hst))
          rw [List.append_nil] at HRa
          clear hst
          have hQo := HQr.out.below HB.out
          have hWo := HWc.out.keep (HB.out.block t HWc.out.lt.1) (HB.out.block wb HWc.out.lt.2)
          have hMo := HMv.out.below HB.out
          simp only [optI]
          have HQo := Lib.hid hQo
          have HWoo := Lib.hid hWo
          have HMo := Lib.hid hMo
          have HWn := Lib.hid (fun hv' wv' Q' w' h => want_any (w := w') (Q := Q') (B := B) (qb := qb) (hv := hv') (wv := wv') h)
          clear hQo hWo hMo h0
          go_wp2_with fail
          go_loopg [] Q.W.length (fun gg wr => ∃ Q2 xs2 W2 hv2 wv2, QAt wr B qb hv2 wv2 Q2 ∧ WaitAt wr t nb wb turn W2 ∧ Without Wt W2 (xs ++ xs2) ∧ Moved (giveF wb qb (.slice a Q.H.length cap)) w wr ∧ (∀ ys Q', Runs stepB Q2 ys Q' → Runs stepB Q (xs2 ++ ys) Q') ∧ (Q2.W.length ≤ gg ∧ Q2.H.length + Q2.W.length ≤ 100000) ∧ (∀ g, hv2.ownBlock = some g → (Value.slice a Q.H.length cap).ownBlock = some g ∨ w.heap.size ≤ g) ∧ (∀ g, wv2.ownBlock = some g → wv.ownBlock = some g ∨ w.heap.size ≤ g))
          case atStart => exact ⟨Q, [], Wc, _, _, HQo.out, HWoo.out, by rw [List.append_nil]; exact HWo.out, HMo.out, fun ys Q' h => h, ⟨Nat.le_refl _, HQn.out⟩, fun g h => .inl h, fun g h => .inl h⟩
          case round =>
            obtain ⟨Q2, xs2, W2, hv2, wv2, hq2, hw2, hwo2, hm2, hr2, hg2, hh2, hwv2⟩ := hrel
            obtain ⟨aw, capw, rfl, hcw, hmw, haw⟩ := own_cap hq2.wish
            obtain ⟨wp, rfl⟩ : ∃ wp : World, wp = wr := ⟨_, rfl⟩
            have hlq := (hq2.lt (.inl rfl)).2
            have hq1 := fun n os => cell_grown hlq hq2.cell1 n os
            have hwlen : Q2.W.length ≤ 9223372036854775807 := by simp only [maxLen] at hmw; omega
            have HQ2 := Lib.hid hq2
            have HW2 := Lib.hid hw2
            have HWo2 := Lib.hid hwo2
            have HM2 := Lib.hid hm2
            have HR2 := Lib.hid hr2
            have HG2 := Lib.hid hg2
            have HH2 := Lib.hid hh2
            have HV2 := Lib.hid hwv2
            clear hw2 hwo2 hm2 hr2 hg2 hh2 hwv2 hq2 hcw hmw hlq
            by_cases hw0 : Q2.W = []
            · have hstop : stepB Q2 = none := by unfold stepB; rw [hw0]
              have hlw : Q2.W.length = 0 := by rw [hw0]; rfl
              have HEnd := Lib.hid (HR2.out [] Q2 (.stop hstop))
              rw [List.append_nil] at HEnd
              clear hstop hw0 haw
              go_wp2_with fail
              refine wp_region_quiet_grown (by assumption) (by kernel_rfl) ?_
              iterate 7 (with_reducible refine wpQuiet_step (fun K hK => ?_); go_simp; with_reducible refine hK _ ?_; clear hK K)
              with_reducible refine quiet_skipn 3 _ _ (by kernel_rfl) ?_
              simp only [List.take_succ_cons, List.take_zero, List.drop_succ_cons, List.drop_zero, List.foldl_cons, List.foldl_nil, Act.put, List.setIfInBounds_toArray, List.set_cons_zero, List.set_cons_succ]
              iterate 2 (with_reducible refine wpQuiet_step (fun K hK => ?_); go_simp; with_reducible refine hK _ ?_; clear hK K)
              with_reducible refine quiet_skipn 16 _ _ (by kernel_rfl) ?_
              simp only [List.take_succ_cons, List.take_zero, List.drop_succ_cons, List.drop_zero, List.foldl_cons, List.foldl_nil, Act.put, List.setIfInBounds_toArray, List.set_cons_zero, List.set_cons_succ]
              iterate 1 (with_reducible refine wpQuiet_step (fun K hK => ?_); go_simp; with_reducible refine hK _ ?_; clear hK K)
              with_reducible refine wpQuiet_nil ?_
              with_reducible intro _ hw'
              obtain ⟨⟨nq, osq⟩, hw''⟩ := hw'
              subst hw''
              go_wp2_with fail
              go_end0
              have hbg : Below wp.heap.size wp (grow (wp.drewN nq) osq) := Gr.below ⟨nq, osq, rfl⟩
              exact ⟨rfl, Q2, xs ++ xs2, hv2, _, W2, ⟨xs, xs2, Q, HRa.out, HEnd.out, rfl⟩, HQ2.out.below hbg, HW2.out.keep (hbg.block t HW2.out.lt.1) (hbg.block wb HW2.out.lt.2), HWo2.out, HM2.out.below hbg, HH2.out, HV2.out⟩
            · obtain ⟨x0, r0, hwx⟩ : ∃ x r, Q2.W = x :: r := List.exists_cons_of_ne_nil hw0
              have hgt : 0 < Q2.W.length := by rw [hwx]; simp
              have hwn : ∀ n os, Calls Tryz.prog 29 #[.pointer (some ⟨qb, 0, none⟩)] (grow (wp.drewN n) os) fun e w'' => e = .returned (.bool (wantL Q2.H)) ∧ ∃ p : GrownBy, w'' = grow (wp.drewN p.n) p.os := fun n os =>
                Calls.grown_of ((HWn.out _ _ Q2 _ (HQ2.out.below (Gr.below ⟨n, os, rfl⟩))).mono fun e w' h => ⟨h.1, h.2⟩)
              obtain ⟨wq, hwq⟩ : ∃ wq, wantL Q2.H = wq := ⟨_, rfl⟩
              rw [hwq] at hwn
              have HWq := Lib.hid hwq
              have HWnn := Lib.hid hwn
              have HWx := Lib.hid hwx
              clear hw0 hwx hwn hwq
              cases wq with
              | true =>
                have hstop : stepB Q2 = none := by unfold stepB; rw [HWx.out]; simp [HWq.out]
                have HEnd := Lib.hid (HR2.out [] Q2 (.stop hstop))
                rw [List.append_nil] at HEnd
                clear hstop haw
                go_wp2_with fail
                refine wp_region_quiet_grown (by assumption) (by kernel_rfl) ?_
                iterate 8 (with_reducible refine wpQuiet_step (fun K hK => ?_); go_simp; with_reducible refine hK _ ?_; clear hK K)
                with_reducible refine wpQuiet_step (fun K hK => ?_)
                go_simp
                apply Exists.intro
                refine ⟨fun _ => ?_, hK _ ?_⟩
                exact HWnn.out _ _
                clear hK K
                iterate 3 (with_reducible refine wpQuiet_step (fun K hK => ?_); go_simp; with_reducible refine hK _ ?_; clear hK K)
                with_reducible refine quiet_skipn 16 _ _ (by kernel_rfl) ?_
                simp only [List.take_succ_cons, List.take_zero, List.drop_succ_cons, List.drop_zero, List.foldl_cons, List.foldl_nil, Act.put, List.setIfInBounds_toArray, List.set_cons_zero, List.set_cons_succ]
                iterate 1 (with_reducible refine wpQuiet_step (fun K hK => ?_); go_simp; with_reducible refine hK _ ?_; clear hK K)
                with_reducible refine wpQuiet_nil ?_
                with_reducible intro _ hw'
                obtain ⟨⟨nq, osq⟩, hw''⟩ := hw'
                subst hw''
                go_wp2_with fail
                go_end0
                have hbg : Below wp.heap.size wp (grow (wp.drewN nq) osq) := Gr.below ⟨nq, osq, rfl⟩
                exact ⟨rfl, Q2, xs ++ xs2, hv2, _, W2, ⟨xs, xs2, Q, HRa.out, HEnd.out, rfl⟩, HQ2.out.below hbg, HW2.out.keep (hbg.block t HW2.out.lt.1) (hbg.block wb HW2.out.lt.2), HWo2.out, HM2.out.below hbg, HH2.out, HV2.out⟩
              | false =>
                obtain ⟨gw, rfl, hgw, hgwl⟩ := haw.resolve_left (by omega)
                have hwc := ws_cells HQ2.out.wish 0 hgt
                have hx0e : Q2.W[0] = x0 := by simp only [HWx.out, List.getElem_cons_zero]
                rw [hx0e] at hwc
                obtain ⟨w0c, w1c⟩ := hwc
                have hv0 := fun n os => cell_grown (a := ⟨gw, 0, none⟩) hgwl (by simpa using w0c) n os
                have hv1 := fun n os => cell_grown (a := ⟨gw, 1, none⟩) hgwl (by simpa using w1c) n os
                have hgtI : (0 : Int) < (Q2.W.length : Int) := by omega
                have hfn : ∀ n os, Calls Tryz.prog 28 #[.pointer (some ⟨qb, 0, none⟩), .int .i64 x0.x, .int .i64 x0.m] (grow (wp.drewN n) os) fun e w'' => e = .returned (.bool (freeL x0.x x0.m Q2.H)) ∧ ∃ p : GrownBy, w'' = grow (wp.drewN p.n) p.os := fun n os =>
                  Calls.grown_of ((HF.out _ _ Q2 x0.x x0.m _ (HQ2.out.below (Gr.below ⟨n, os, rfl⟩))).mono fun e w' h => ⟨h.1, h.2⟩)
                obtain ⟨fq, hfq⟩ : ∃ fq, freeL x0.x x0.m Q2.H = fq := ⟨_, rfl⟩
                rw [hfq] at hfn
                have HFq := Lib.hid hfq
                have HFnn := Lib.hid hfn
                clear hfq hfn hx0e w0c w1c haw
                go_wp2_with fail
                refine wp_region_quiet_grown (by assumption) (by kernel_rfl) ?_
                iterate 8 (with_reducible refine wpQuiet_step (fun K hK => ?_); go_simp; with_reducible refine hK _ ?_; clear hK K)
                with_reducible refine wpQuiet_step (fun K hK => ?_)
                go_simp
                apply Exists.intro
                refine ⟨fun _ => ?_, hK _ ?_⟩
                exact HWnn.out _ _
                clear hK K
                iterate 18 (with_reducible refine wpQuiet_step (fun K hK => ?_); go_simp; with_reducible refine hK _ ?_; clear hK K)
                with_reducible refine wpQuiet_step (fun K hK => ?_)
                go_simp
                apply Exists.intro
                refine ⟨fun _ => ?_, hK _ ?_⟩
                exact HFnn.out _ _
                clear hK K
                iterate 1 (with_reducible refine wpQuiet_step (fun K hK => ?_); go_simp; with_reducible refine hK _ ?_; clear hK K)
                with_reducible refine wpQuiet_nil ?_
                with_reducible intro _ hw'
                obtain ⟨⟨nq, osq⟩, hw''⟩ := hw'
                subst hw''
                have hbg : Below wp.heap.size wp (grow (wp.drewN nq) osq) := Gr.below ⟨nq, osq, rfl⟩
                cases fq with
                | false =>
                  have hstop : stepB Q2 = none := by unfold stepB; rw [HWx.out]; simp [HWq.out, HFq.out]
                  have HEnd := Lib.hid (HR2.out [] Q2 (.stop hstop))
                  rw [List.append_nil] at HEnd
                  have HBg := Lib.hid hbg
                  clear hstop hbg
                  go_wp2_with fail
                  go_end0
                  exact ⟨rfl, Q2, xs ++ xs2, hv2, _, W2, ⟨xs, xs2, Q, HRa.out, HEnd.out, rfl⟩, HQ2.out.below HBg.out, HW2.out.keep (HBg.out.block t HW2.out.lt.1) (HBg.out.block wb HW2.out.lt.2), HWo2.out, HM2.out.below HBg.out, HH2.out, HV2.out⟩
                | true =>
                  have hnext : stepB Q2 = some (⟨Q2.H ++ [⟨x0.x, x0.m, 0, 0⟩], r0⟩, x0.x) := by unfold stepB; rw [HWx.out]; simp [HWq.out, HFq.out]
                  have HNx := Lib.hid hnext
                  clear hnext HFnn HWnn
                  have HQg := Lib.hid (HQ2.out.below hbg)
                  have HWg := Lib.hid (HW2.out.keep (hbg.block t HW2.out.lt.1) (hbg.block wb HW2.out.lt.2))
                  have HMg := Lib.hid (HM2.out.below hbg)
                  have HBg := Lib.hid hbg.size
                  clear hbg hv0 hv1 hq1
                  generalize grow (wp.drewN nq) osq = wg at *
                  have hlr : Q2.W.length - 1 = r0.length := by rw [HWx.out]; rfl
                  obtain ⟨hwc0, hwc1⟩ := ws_cells HQg.out.wish 0 hgt
                  have hx0e : Q2.W[0] = x0 := by simp only [HWx.out, List.getElem_cons_zero]
                  rw [hx0e] at hwc0 hwc1
                  have q1g := HQg.out.cell1
                  obtain ⟨_, _, he9, hcc, -, -⟩ := own_cap HQg.out.wish
                  cases he9
                  have HCl : Hid (∀ (W : World) (o c : Nat), (o = 2 ∨ capw = 1) → Below wg.heap.size wg W → Calls Tryz.prog 50 #[.slice (some ⟨gw, o, none⟩) (Q2.W.length - 1) c] W fun e w' => ∃ v, e = .returned v ∧ w'.ownsRow W.heap.size 64 2 v r0.length (wsRow r0) ∧ Below W.heap.size W w') := Lib.hid fun W o c ho hW => by
                    have hn := HG2.out.2
                    have hgl : gw < wg.heap.size := (HQg.out.wish.lt gw rfl).2
                    rw [hlr]
                    refine wclone_any gw o c r0 W (by have := hW.size; omega) (by omega) fun j u hj => ?_
                    have hj2 : j < r0.length * 2 := by rw [← wsRow_len]; exact (List.getElem?_eq_some_iff.1 hj).1
                    have ho2 : o = 2 := ho.resolve_right (by omega)
                    subst ho2
                    refine (hW.cell (p := ⟨gw, 2 + j, none⟩) hgl).trans ?_
                    have := HQg.out.wish.cells (g := gw) rfl (2 + j) u (by rw [HWx.out, show wsRow (x0 :: r0) = x0.l ++ wsRow r0 from rfl, List.getElem?_append_right (by rw [Ws.l_len]; omega), Ws.l_len, show 2 + j - 2 = j from by omega]; exact hj)
                    simpa [Addr.add_lit] using this
                  clear hlr hx0e hcc
                  have hql := (HQg.out.lt (.inl rfl)).2
                  by_cases hc1 : capw = 1
                  all_goals
                    have HC1 := Lib.hid hc1
                    go_wp2_with fail
                    have hb1 : Below wg.heap.size wg (wg.alloc (.cells #[.int .i64 x0.x, .int .i64 x0.m] 64)) := (Below.refl _ _).alloc (Nat.le_refl _) _
                    refine (HCl.out _ _ _ (by first | exact .inl rfl | exact .inr HC1.out) hb1).mono ?_
                    rintro e w13 ⟨v13, rfl, hv13, hb13⟩
                    have hbs : Below wg.heap.size wg w13 := hb1.trans (hb13.mono (by simp))
                    have hbx : w13.heap[wg.heap.size]? = some (.cells #[.int .i64 x0.x, .int .i64 x0.m] 64) := (hb13.block _ (by simp)).trans (heap_alloc_new wg _)
                    have HQ13 := Lib.hid (HQg.out.below hbs)
                    have HW13 := Lib.hid (HWg.out.keep (hbs.block t HWg.out.lt.1) (hbs.block wb HWg.out.lt.2))
                    have HM13 := Lib.hid (HMg.out.below hbs)
                    have hBl : B ≤ wg.heap.size + 1 := by have := (HQg.out.lt (.inl rfl)); omega
                    obtain ⟨a13, cap13, rfl, -, -, -⟩ := own_cap hv13
                    have HV13 := Lib.hid hv13
                    have HBx := Lib.hid hbx
                    have hqz : qb < w13.heap.size := (HQ13.out.lt (.inl rfl)).2
                    have hqf := HQ13.out.frozen 1
                    have hq1c := HQ13.out.cell1
                    have HVl : Hid (∀ g, (Value.slice a13 r0.length cap13).ownBlock = some g → w.heap.size ≤ g) := Lib.hid fun g hg => by
                      have h1 := (hv13.lt g hg).1
                      have h2 := HMg.out.size
                      rw [World.size_alloc] at h1; omega
                    clear hb1 hb13 hbs hv13 hbx q1g hwc0 hwc1 hql HCl
                    go_wp2_with fail
                    have hBl2 : B ≤ (wg.alloc (.cells #[.int .i64 x0.x, .int .i64 x0.m] 64)).heap.size := by rw [World.size_alloc]; exact hBl
                    have hAq := store_wishes (w := w13) HQ13.out.blk HQ13.out.held HQ13.out.le hBl2 HV13.out
                    have hAT := HW13.out.keep (heap_far w13 ⟨qb, 1, none⟩ (.slice a13 r0.length cap13) t (heap_ne_ty HW13.out.tab HQ13.out.blk (by decide))) (heap_far w13 ⟨qb, 1, none⟩ (.slice a13 r0.length cap13) wb fun e => by
                      obtain ⟨es, clk, hm, -⟩ := HW13.out.map
                      rw [e, HQ13.out.blk] at hm; cases hm)
                    have hAM := HM13.out.setCell (p := ⟨qb, 1, none⟩) (.inl (.inr (.inl rfl))) (.slice a13 r0.length cap13)
                    have hAx := (heap_far w13 ⟨qb, 1, none⟩ (.slice a13 r0.length cap13) wg.heap.size (heap_ne_ty HBx.out HQ13.out.blk (by decide))).trans HBx.out
                    clear hBl hBl2 hqz hqf hq1c HQ13 HW13 HM13 HV13 HBx
                    generalize w13.setCell ⟨qb, 1, none⟩ (.slice a13 r0.length cap13) = A at *
                    have HAT := Lib.hid hAT
                    have HAM := Lib.hid hAM
                    have hAl := (hAq.lt (.inl rfl)).2
                    have hAxl := (Array.getElem?_eq_some_iff.1 hAx).1
                    have HBA : Hid (Below A.heap.size A (A.alloc (.cells #[.int .i64 x0.x, .int .i64 x0.m, .int .i64 0, .int .i64 0] 60)).drew) := Lib.hid ((Below.refl _ _).alloc (Nat.le_refl _) _).drew
                    have HQ2A := Lib.hid (hAq.below HBA.out)
                    have HTA := Lib.hid (HAT.out.keep (HBA.out.block t HAT.out.lt.1) (HBA.out.block wb HAT.out.lt.2))
                    have HMA := Lib.hid (HAM.out.below HBA.out)
                    have hAx2 := (HBA.out.block _ hAxl).trans hAx
                    have hown2 := HQ2A.out.held
                    have hnew : (A.alloc (.cells #[.int .i64 x0.x, .int .i64 x0.m, .int .i64 0, .int .i64 0] 60)).drew.heap[A.heap.size]? = some (.cells #[.int .i64 x0.x, .int .i64 x0.m, .int .i64 0, .int .i64 0] 60) := heap_alloc_new A _
                    have hszA : (A.alloc (.cells #[.int .i64 x0.x, .int .i64 x0.m, .int .i64 0, .int .i64 0] 60)).drew.heap.size = A.heap.size + 1 := by simp
                    have k1 := hAq.cell0
                    have k2 : A.cell? ⟨wg.heap.size, 0, none⟩ = some (.int .i64 x0.x) := (cell_of_block hAx 0).trans rfl
                    have k3 : A.cell? ⟨wg.heap.size, 1, none⟩ = some (.int .i64 x0.m) := (cell_of_block hAx 1).trans rfl
                    have k4 : A.drew.cell? ⟨qb, 0, none⟩ = some hv2 := k1
                    have k5 : A.drew.cell? ⟨wg.heap.size, 0, none⟩ = some (.int .i64 x0.x) := k2
                    have k6 : A.drew.cell? ⟨wg.heap.size, 1, none⟩ = some (.int .i64 x0.m) := k3
                    have k7 := HQ2A.out.cell0
                    have k8 : (A.alloc (.cells #[.int .i64 x0.x, .int .i64 x0.m, .int .i64 0, .int .i64 0] 60)).drew.cell? ⟨wg.heap.size, 0, none⟩ = some (.int .i64 x0.x) := (cell_of_block hAx2 0).trans rfl
                    have k9 : (A.alloc (.cells #[.int .i64 x0.x, .int .i64 x0.m, .int .i64 0, .int .i64 0] 60)).drew.cell? ⟨wg.heap.size, 1, none⟩ = some (.int .i64 x0.m) := (cell_of_block hAx2 1).trans rfl
                    obtain ⟨i0, hi, hz0, hz1, hz2⟩ := info_parts infoHd
                    have hone : ∀ u ∈ (#[.int .i64 x0.x, .int .i64 x0.m, .int .i64 0, .int .i64 0] : Array Value).toList, u.oneCell' = true := by
                      intro u hu; simp at hu; rcases hu with rfl | rfl | rfl <;> rfl
                    have hBA : B ≤ A.heap.size := by have := hAq.lt (.inl rfl); omega
                    have hn2 : Q2.H.length ≤ 100000 := by have := HG2.out.2; omega
                    have HAq := Lib.hid hAq
                    clear hAq hAT hAM hAx
                    go_upto_region 14 with fail
                    go_cut [8] (fun s8 wc => s8 = .pointer (some ⟨wg.heap.size, 0, none⟩) ∧ ∃ hv9, QAt wc B qb hv9 (.slice a13 r0.length cap13) ⟨Q2.H ++ [⟨x0.x, x0.m, 0, 0⟩], r0⟩ ∧ WaitAt wc t nb wb turn W2 ∧ Moved (giveF wb qb (.slice a Q.H.length cap)) w wc ∧ wc.heap[wg.heap.size]? = some (.cells #[.int .i64 x0.x, .int .i64 x0.m] 64) ∧ (∀ g, hv9.ownBlock = some g → (Value.slice a Q.H.length cap).ownBlock = some g ∨ w.heap.size ≤ g))
                    case first =>
                      go_region_law (first
                        | ((refine step_append_lies _ (by rfl) _ _ _ (by rfl) B 60 i0 _ 4 32 Tryz.underlying54 hi hz0 hz1 hz2 rfl (by omega) _ Q2.H.length _ (by rfl) hown2 ⟨A.heap.size, 0, none⟩ 1 1 (#[.int .i64 x0.x, .int .i64 x0.m, .int .i64 0, .int .i64 0] : Array Value).toList (by rfl) (by rfl) (World.news_of_block hnew) hone (by omega) (by simp only [maxLen]; omega) (by omega) (by rw [hszA]; omega) (A.heap.size + 1) hszA ?_; intro gg capg w7 hown7 hgrow hat hltg; have hp7 := push_holds HQ2A.out hgrow (H' := Q2.H ++ [⟨x0.x, x0.m, 0, 0⟩]) (by rw [hdRow_snoc, List.length_append]; exact hown7); have hc7 : w7.cell? ⟨qb, 0, none⟩ = some hv2 := (cell_of_block hp7.1 0).trans rfl; have ff7 : w7.frozen? ⟨qb, 0, none⟩ = false := by simp [World.frozen?, hp7.1])))
                      all_goals
                        have hn9 : w7.heap.size = (w7.setCell ⟨qb, 0, none⟩ (.slice (some ⟨gg, 0, none⟩) (Q2.H.length + 1) capg)).heap.size := by simp [World.setCell]
                        have hQ9 : QAt (w7.setCell ⟨qb, 0, none⟩ (.slice (some ⟨gg, 0, none⟩) (Q2.H.length + 1) capg)) B qb (.slice (some ⟨gg, 0, none⟩) (Q2.H.length + 1) capg) (.slice a13 r0.length cap13) ⟨Q2.H ++ [⟨x0.x, x0.m, 0, 0⟩], r0⟩ := hp7.2
                        obtain ⟨es0, clk0, hmA, -⟩ := HTA.out.map
                        have hW9 : WaitAt (w7.setCell ⟨qb, 0, none⟩ (.slice (some ⟨gg, 0, none⟩) (Q2.H.length + 1) capg)) t nb wb turn W2 := HTA.out.keep (push_far hgrow t HTA.out.lt.1 (heap_ne_ty HTA.out.tab HQ2A.out.blk (by decide)) (own_ne_bl hown2 HTA.out.tab (by decide))) (push_far hgrow wb HTA.out.lt.2 (fun e => by rw [e, HQ2A.out.blk] at hmA; cases hmA) (own_ne_map hown2 hmA))
                        have hM9 : Moved (giveF wb qb (.slice a Q.H.length cap)) w (w7.setCell ⟨qb, 0, none⟩ (.slice (some ⟨gg, 0, none⟩) (Q2.H.length + 1) capg)) := (HMA.out.grown hgrow fun k hk => (HH2.out k hk).imp (fun h => .inr (.inr h)) id).setCell (p := ⟨qb, 0, none⟩) (.inl (.inr (.inl rfl))) _
                        have hbx9 : (w7.setCell ⟨qb, 0, none⟩ (.slice (some ⟨gg, 0, none⟩) (Q2.H.length + 1) capg)).heap[wg.heap.size]? = some (.cells #[.int .i64 x0.x, .int .i64 x0.m] 64) := (push_far hgrow wg.heap.size (by rw [hszA]; omega) (heap_ne_ty hAx2 HQ2A.out.blk (by decide)) (own_ne_bl hown2 hAx2 (by decide))).trans hAx2
                        have HGg : Hid (∀ g, (Value.slice (some ⟨gg, 0, none⟩) (Q2.H.length + 1) capg).ownBlock = some g → (Value.slice a Q.H.length cap).ownBlock = some g ∨ w.heap.size ≤ g) := Lib.hid fun g hg => by
                          simp only [Value.ownBlock, Option.some.injEq] at hg
                          subst hg
                          rcases hat with h | h
                          · exact HH2.out _ h
                          · right; have := HMA.out.size; rw [hszA] at this; omega
                        go_wp2_with fail
                        go_meet
                        exact ⟨rfl, _, hQ9, hW9, hM9, hbx9, HGg.out⟩
                    case rest =>
                      obtain ⟨rfl, hv9, hQ9, hW9, hM9, hbx9, hgg⟩ := hcut
                      have HGg := Lib.hid hgg
                      clear hgg hown2 hnew hszA hone k1 k2 k3 k4 k5 k6 k7 k8 k9 hAx2 hAl hAxl hBA hi hz0 hz1 hz2
                      obtain ⟨W9, rfl⟩ : ∃ W9 : World, W9 = wc := ⟨_, rfl⟩
                      obtain ⟨es, clk, hm1, hm2, hm3⟩ := hW9.map
                      obtain ⟨od, hod⟩ := run_delete_k (P := Tryz.prog) Tryz.underlying50 (keyLaw_int Tryz.underlying3) wb W2 x0.x es clk hm2 hm3
                      have hd1 := (hod W9 3 0 hm1).1
                      have hd2 := (hod W9.drew 3 0 hm1).1
                      have HKm := Lib.hid (fun n => (hod (W9.drewN n) 3 0 hm1).2)
                      have ct : W9.cell? ⟨t, 1, none⟩ = some (.map (some wb)) := by
                        have := cell_of_row W9 t 1 _ _ _ hW9.tab
                        simpa using this
                      have cx : W9.cell? ⟨wg.heap.size, 0, none⟩ = some (.int .i64 x0.x) := (cell_of_block hbx9 0).trans rfl
                      have htw : wb ≠ t := fun e => by
                        have h1 := hW9.tab
                        rw [← e, hm1] at h1; cases h1
                      have hbw : wb ≠ wg.heap.size := fun e => by
                        rw [e, hbx9] at hm1; cases hm1
                      have hs1 : ∀ W : World, (ChangeMaps.setBlock W wb od).cell? ⟨t, 1, none⟩ = W.cell? ⟨t, 1, none⟩ := fun W => World.cell?_of_block (by simp [ChangeMaps.setBlock, Array.getElem?_setIfInBounds, htw])
                      have hs2 : ∀ W : World, (ChangeMaps.setBlock W wb od).cell? ⟨wg.heap.size, 0, none⟩ = W.cell? ⟨wg.heap.size, 0, none⟩ := fun W => World.cell?_of_block (by simp [ChangeMaps.setBlock, Array.getElem?_setIfInBounds, hbw])
                      have HS1 := Lib.hid hs1
                      have HS2 := Lib.hid hs2
                      have HTw := Lib.hid htw
                      clear hs1 hs2 htw hbw
                      have HQ10 := Lib.hid (QAt.setMap (w := W9.drew) (hQ9.keep fun _ _ => rfl) hm1 od)
                      have HNd := Lib.hid (hW9.map.nodup (keyLaw_int (P := Tryz.prog) Tryz.underlying3).inj)
                      have HLw := Lib.hid (hW9.lt.2)
                      have HM9 := Lib.hid hM9
                      have HW9 := Lib.hid hW9
                      clear hQ9 hM9 hW9 hbx9 hod hm1 hm2 hm3
                      go_wp2_with fail
                      (go_region_held3 (fun W => W.cell? ⟨t, 1, none⟩ = some (.map (some wb)) ∧ W.cell? ⟨wg.heap.size, 0, none⟩ = some (.int .i64 x0.x)) (first | exact ⟨ct, cx⟩ | exact ⟨(HS1.out _).trans ct, (HS2.out _).trans cx⟩ | go_keep) (fail))
                      go_wp2_with fail
                      go_roundg r0.length
                      case measure => have := HG2.out.1; rw [HWx.out] at this; simp at this; omega
                      case rel =>
                        refine ⟨⟨Q2.H ++ [⟨x0.x, x0.m, 0, 0⟩], r0⟩, xs2 ++ [x0.x], delK x0.x W2, _, _, HQ10.out, ⟨?_, HKm.out 1⟩, ?_, ?_, fun ys Q' h => ?_, ⟨Nat.le_refl _, ?_⟩, HGg.out, fun g hg => .inr (HVl.out g hg)⟩
                        · have h1 := HW9.out.tab
                          have h2 := HTw.out
                          rw [← h1]
                          simp [ChangeMaps.setBlock, Array.getElem?_setIfInBounds, h2]
                          rfl
                        · rw [← List.append_assoc]
                          exact HWo2.out.del HNd.out x0.x
                        · exact HM9.out.drew.setBlock HLw.out (.inl (.inl rfl)) od
                        · rw [List.append_assoc]
                          exact HR2.out (x0.x :: ys) Q' (.step HNx.out h)
                        · have h1 := HG2.out.2
                          rw [HWx.out] at h1
                          simp at h1 ⊢; omega
        | some bi =>
          have hbi := bestTo_lt Q.H Q.H.length bi HBB.out
          obtain ⟨hbl, hb0, hbg, hbc⟩ := hbi
          rw [List.getElem?_eq_getElem hbl] at hbg
          cases hbg
          have hwq : (Q.H[bi].w != 0) = true := by simp only [candB, Bool.and_eq_true] at hbc; exact hbc.1
          have hgd : Q.H.getD bi default = Q.H[bi] := by rw [List.getD_eq_getElem?_getD, List.getElem?_eq_getElem hbl]; rfl
          have hst : stepA Q = some (⟨Q.H.set bi ⟨Q.H[bi].x, Q.H[bi].w, 0, Q.H[bi].t⟩, Q.W⟩, Q.H[bi].x) := by unfold stepA; rw [HBB.out]; simp only [hgd]
          have HSt := Lib.hid hst
          have HWs := Lib.hid (wants_set Q.H bi hbl hwq ⟨Q.H[bi].x, Q.H[bi].w, 0, Q.H[bi].t⟩ rfl)
          obtain ⟨gb, rfl, hgb, hgl⟩ := ha.resolve_left (by omega)
          have hown := own_keep HO.out (fun q hq => by simp only [Value.ownBlock, Option.some.injEq] at hq; subst hq; exact HB.out.block _ hgl)
          obtain ⟨c0, c1, c2, c3⟩ := hd_cells hown bi hbl
          have f1 := own_frozen hown (bi * 4 + 1)
          have f2 := own_frozen hown (bi * 4 + 2)
          have HOw := Lib.hid hown
          have q0 := (HQr.out.below HB.out).cell0
          have hb1 : (0 : Int) ≤ (bi : Int) := Int.natCast_nonneg _
          have hb2 : (bi : Int) < (Q.H.length : Int) := by omega
          have hb3 : decide ((bi : Int) < 0) = false := by simp
          have hWo := HWc.out.keep (HB.out.block t HWc.out.lt.1) (HB.out.block wb HWc.out.lt.2)
          obtain ⟨curg, hgc⟩ := own_blk hown
          have htg : t ≠ gb := heap_ne_ty hWo.tab hgc (by decide)
          have hwg : wb ≠ gb := fun e => by
            obtain ⟨es, clk, hm, -⟩ := hWo.map
            rw [e, hgc] at hm; cases hm
          have hqg : qb ≠ gb := heap_ne_ty (HQr.out.below HB.out).blk hgc (by decide)
          have hrowset := hdRow_mid Q.H bi hbl ⟨Q.H[bi].x, Q.H[bi].w, 0, Q.H[bi].t⟩ rfl rfl
          have HRow := Lib.hid hrowset
          have HTg := Lib.hid htg
          have HWg := Lib.hid hwg
          have HQg := Lib.hid hqg
          have HWoH := Lib.hid hWo
          clear hst hwq hgd hown hbc hWo hgc htg hwg hqg hrowset
          generalize Q.H[bi] = hd at *
          simp only [optI]
          go_wp2_with fail
          obtain ⟨W9, hW9⟩ : ∃ W9, (wo.setCell ⟨gb, bi * 4 + 1, none⟩ (.int .i64 hd.w)).setCell ⟨gb, bi * 4 + 2, none⟩ (.int .i64 0) = W9 := ⟨_, rfl⟩
          have hblk : ∀ k, k ≠ gb → W9.heap[k]? = wo.heap[k]? := fun k hk => by
            rw [← hW9, Below.heap_setCell _ _ _ _ hk, Below.heap_setCell _ _ _ _ hk]
          have hown9 : W9.ownsRow B 60 4 (.slice (some ⟨gb, 0, none⟩) Q.H.length cap) Q.H.length (hdRow (Q.H.set bi ⟨hd.x, hd.w, 0, hd.t⟩)) := by
            rw [HRow.out, ← hW9]
            exact own_set (own_set HOw.out _ (by omega) _) _ (by omega) _
          have hM9 : Moved (giveF wb qb (.slice (some ⟨gb, 0, none⟩) Q.H.length cap)) ws W9 := by
            rw [← hW9]
            exact ((Moved.of_below HB.out).setCell (.inl (.inr (.inr rfl))) _).setCell (.inl (.inr (.inr rfl))) _
          rw [hW9]
          have hw9 := HWoH.out.keep (hblk t HTg.out) (hblk wb HWg.out)
          obtain ⟨es, clk, hm1, hm2, hm3⟩ := hw9.map
          obtain ⟨od, hod⟩ := run_delete_k (P := Tryz.prog) Tryz.underlying50 (keyLaw_int Tryz.underlying3) wb Wc hd.x es clk hm2 hm3
          have hd1 := (hod W9 3 0 hm1).1
          have hd2 := (hod W9.drew 3 0 hm1).1
          have HKm := Lib.hid (fun n => (hod (W9.drewN n) 3 0 hm1).2)
          have ct : W9.cell? ⟨t, 1, none⟩ = some (.map (some wb)) := by
            have := cell_of_row W9 t 1 _ _ _ hw9.tab
            simpa using this
          have cx : W9.cell? ⟨gb, bi * 4, none⟩ = some (.int .i64 hd.x) := by
            have := (hd_cells hown9 bi (by rw [List.length_set]; omega)).1
            simpa using this
          have htw : wb ≠ t := fun e => by
            have h1 := hw9.tab
            rw [← e, hm1] at h1; cases h1
          have hs1 : ∀ W : World, (ChangeMaps.setBlock W wb od).cell? ⟨t, 1, none⟩ = W.cell? ⟨t, 1, none⟩ := fun W => World.cell?_of_block (by simp [ChangeMaps.setBlock, Array.getElem?_setIfInBounds, htw])
          have hs2 : ∀ W : World, (ChangeMaps.setBlock W wb od).cell? ⟨gb, bi * 4, none⟩ = W.cell? ⟨gb, bi * 4, none⟩ := fun W => World.cell?_of_block (by simp [ChangeMaps.setBlock, Array.getElem?_setIfInBounds, HWg.out])
          have HS1 := Lib.hid hs1
          have HS2 := Lib.hid hs2
          have HTw := Lib.hid htw
          clear hs1 hs2 htw
          have hq9 : QAt W9 B qb (.slice (some ⟨gb, 0, none⟩) Q.H.length cap) wv ⟨Q.H.set bi ⟨hd.x, hd.w, 0, hd.t⟩, Q.W⟩ := by
            have hqo := HQr.out.below HB.out
            refine ⟨(hblk qb HQg.out).trans hqo.blk, by rw [List.length_set]; exact hown9, own_keep hqo.wish fun g hg => hblk g fun e => ?_, hqo.le⟩
            rcases own_ne hqo.held hqo.wish (by decide) with h1 | h1
            · cases h1
            · exact h1 (by rw [hg, e]; rfl)
          have HQ10 := Lib.hid (QAt.setMap (w := W9.drew) (hq9.keep fun _ _ => rfl) hm1 od)
          have HNd := Lib.hid (hw9.map.nodup (keyLaw_int (P := Tryz.prog) Tryz.underlying3).inj)
          have HLw := Lib.hid (hw9.lt.2)
          clear hq9
          have H9 := Lib.hid hown9
          have HM9 := Lib.hid hM9
          have HW9 := Lib.hid hw9
          have HBk := Lib.hid hblk
          clear hown9 hM9 hw9 hblk hW9 c0 c1 c2 c3 f1 f2 q0 hod hm1 hm2 hm3 h0
          (go_region_held3 (fun W => W.cell? ⟨t, 1, none⟩ = some (.map (some wb)) ∧ W.cell? ⟨gb, bi * 4, none⟩ = some (.int .i64 hd.x)) (first | exact ⟨ct, cx⟩ | exact ⟨(HS1.out _).trans ct, (HS2.out _).trans cx⟩ | go_keep) (fail))
          go_wp2_with fail
          go_roundg (wants (Q.H.set bi ⟨hd.x, hd.w, 0, hd.t⟩))
          case measure => have := HWs.out; have := HWant.out; omega
          case rel =>
            refine ⟨⟨Q.H.set bi ⟨hd.x, hd.w, 0, hd.t⟩, Q.W⟩, xs ++ [hd.x], delK hd.x Wc, HQ10.out, ⟨?_, HKm.out 1⟩, HWo.out.del HNd.out hd.x, ?_, fun ys Q' h => ?_, Nat.le_refl _, by rw [List.length_set]; exact HQn.out⟩
            · have h1 := HW9.out.tab
              have h2 := HTw.out
              rw [← h1]
              simp [ChangeMaps.setBlock, Array.getElem?_setIfInBounds, h2]
              rfl
            · have h1 := HMv.out.trans (HM9.out.mono fun i _ hi => .inl hi)
              exact h1.drew.setBlock HLw.out (.inl (.inl rfl)) od
            · rw [List.append_assoc]
              exact HRun.out (hd.x :: ys) Q' (.step HSt.out h)
end Go.Proofs.YtileamjmhhifaaaGreat
