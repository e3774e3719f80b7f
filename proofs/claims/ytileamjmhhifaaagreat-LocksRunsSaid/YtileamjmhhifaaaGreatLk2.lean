/-
  Layer 9 (locks): what looks at a queue: at, free, wanting.
-/
import Derived.Test.YtileamjmhhifaaaGreatLk1
import Derived.Sort.Grow
import Derived.Shelf.SlSortCmp.QuietGrown
namespace Go.Proofs.YtileamjmhhifaaaGreat
open Go.RowKit Go.Joins Go.Sort
set_option linter.unusedVariables false
set_option linter.unusedSimpArgs false

/-- draws and new blocks, nothing else -/
def Gr (w w' : World) : Prop := ∃ q os, w' = grow (w.drewN q) os
theorem Gr.refl (w : World) : Gr w w := ⟨0, #[], by rw [grow_empty]; rfl⟩
theorem Gr.alloc {w w' : World} (h : Gr w w') (o : Obj) : Gr w (w'.alloc o) := by
  obtain ⟨q, os, rfl⟩ := h
  exact ⟨q, os ++ #[o], by rw [alloc_eq_grow, grow_grow]⟩
theorem Gr.trans {a b c : World} (h : Gr a b) (k : Gr b c) : Gr a c := by
  obtain ⟨q, os, rfl⟩ := h
  obtain ⟨q2, os2, rfl⟩ := k
  refine ⟨q + q2, os ++ os2, ?_⟩
  show grow (grow ((a.drewN q).drewN q2) os) os2 = _
  rw [grow_grow, World.drewN_drewN]
theorem Gr.drewN {a b : World} (h : Gr a b) (n : Nat) : Gr a (b.drewN n) := by
  obtain ⟨q, os, rfl⟩ := h
  refine ⟨q + n, os, ?_⟩
  show grow ((a.drewN q).drewN n) os = _
  rw [World.drewN_drewN]
theorem Gr.below {w w' : World} (h : Gr w w') : Below w.heap.size w w' := by
  obtain ⟨q, os, rfl⟩ := h
  refine ⟨rfl, rfl, rfl, ?_, fun k hk => ?_⟩
  · show w.heap.size ≤ (w.heap ++ os).size
    rw [Array.size_append]; omega
  · show (w.heap ++ os)[k]? = _
    rw [Array.getElem?_append_left hk]
theorem maxN : (9223372036854775807 : Nat) = maxLen := rfl
theorem atL_eq (x : Int) : ∀ (H : List Hd) (i k : Nat) (hk : k < H.length), (∀ j (hj : j < k), H[j].x ≠ x) → H[k].x = x → atL x H i = ((i + k : Nat) : Int)
  | [], _, k, hk, _, _ => by simp at hk
  | h :: r, i, 0, hk, _, h2 => by simp only [List.getElem_cons_zero] at h2; simp [atL, h2]
  | h :: r, i, k + 1, hk, h1, h2 => by
    have e : h.x ≠ x := h1 0 (by omega)
    rw [atL, if_neg e, atL_eq x r (i + 1) k (by simpa using hk) (fun j hj => h1 (j + 1) (by omega)) h2]
    congr 1; omega
theorem atL_none (x : Int) : ∀ (H : List Hd) (i : Nat), (∀ h ∈ H, h.x ≠ x) → atL x H i = -1
  | [], _, _ => rfl
  | h :: r, i, h1 => by rw [atL, if_neg (h1 h (List.mem_cons_self ..)), atL_none x r (i + 1) fun y hy => h1 y (List.mem_cons_of_mem _ hy)]
/-- the first of a list -/
def idxP (p : Hd → Bool) : List Hd → Nat → Int
  | [], _ => -1
  | h :: r, i => if p h then i else idxP p r (i + 1)
theorem idxP_eq (p : Hd → Bool) : ∀ (H : List Hd) (i k : Nat) (hk : k < H.length), (∀ j (hj : j < k), p H[j] = false) → p H[k] = true → idxP p H i = ((i + k : Nat) : Int)
  | [], _, k, hk, _, _ => by simp at hk
  | h :: r, i, 0, hk, _, h2 => by simp only [List.getElem_cons_zero] at h2; simp [idxP, h2]
  | h :: r, i, k + 1, hk, h1, h2 => by
    have e : p h = false := h1 0 (by omega)
    rw [idxP, e, if_neg (by simp), idxP_eq p r (i + 1) k (by simpa using hk) (fun j hj => h1 (j + 1) (by omega)) h2]
    congr 1; omega
theorem idxP_none (p : Hd → Bool) : ∀ (H : List Hd) (i : Nat), (∀ h ∈ H, p h = false) → idxP p H i = -1
  | [], _, _ => rfl
  | h :: r, i, h1 => by rw [idxP, h1 h (List.mem_cons_self ..), if_neg (by simp), idxP_none p r (i + 1) fun y hy => h1 y (List.mem_cons_of_mem _ hy)]
theorem idxP_at (x : Int) : ∀ (H : List Hd) (i : Nat), idxP (fun h => h.x == x) H i = atL x H i
  | [], _ => rfl
  | h :: r, i => by simp only [idxP, atL, idxP_at x r, beq_iff_eq]
theorem idxP_any (p : Hd → Bool) : ∀ (H : List Hd) (i : Nat), decide (0 ≤ idxP p H i) = H.any p
  | [], _ => rfl
  | h :: r, i => by
    rw [idxP, List.any_cons]
    cases p h with
    | true => simp
    | false => simp only [Bool.false_or, if_neg (show ¬ false = true by simp)]; exact idxP_any p r (i + 1)

/-- what a closure that takes a hold is -/
def PredH (g : Nat) (lb : Array Value) (p : Hd → Bool) (w : World) : Prop :=
  ∀ (W : World) (h : Hd), Below w.heap.size w W → Calls Tryz.prog g (#[.agg #[.int .i64 h.x, .int .i64 h.m, .int .i64 h.w, .int .i64 h.t]] ++ lb) W fun e w' => e = .returned (.bool (p h)) ∧ Gr W w'

set_option maxHeartbeats 2000000 in
set_option maxRecDepth 100000 in
theorem indexF_any (g : Nat) (lb : Array Value) (hf : ∀ args w, (callFunc g args).run Tryz.prog w = .ok (.enter g args) w) (p : Hd → Bool) (B : Nat) (v : Value) (H : List Hd) (w : World) (ho : w.ownsRow B 60 4 v H.length (hdRow H)) (hp : PredH g lb p w) :
    Calls Tryz.prog 48 #[v, .func (.func g) #[] lb] w fun e w' => e = .returned (.int .i64 (idxP p H 0)) ∧ Gr w w' := by
  obtain ⟨a, cap, rfl, hcap, hmx, ha⟩ := own_cap ho
  have hlen : H.length ≤ 9223372036854775807 := by simp only [maxLen] at hmx; omega
  have HO := Lib.hid ho
  have HP := Lib.hid hp
  clear ho hp hcap
  go_enter Tryz.func48, Tryz.ntmps48
  go_wp2_with fail
  go_loopw [5, 8] (fun _ i wr => ∃ k : Nat, k ≤ H.length ∧ i = .int .i64 k ∧ Gr w wr ∧ (∀ j (hj : j < k) (hl : j < H.length), p H[j] = false)) (fun _ i _ => H.length - (intOf i).toNat)
  case atStart => exact ⟨0, by omega, rfl, Gr.refl _, fun j hj => by omega⟩
  case round =>
    obtain ⟨k, hk, rfl, hG, hall⟩ := hrel
    have HG := Lib.hid hG
    have hB := hG.below
    clear hG
    obtain ⟨wo, rfl⟩ : ∃ wo : World, wo = wr := ⟨_, rfl⟩
    have HB := Lib.hid hB
    have HA := Lib.hid hall
    clear hall
    by_cases hlt : k < H.length
    · obtain ⟨gb, rfl, hgb, hgl⟩ := ha.resolve_left (by omega)
      have hc := HP.out wo H[k] hB
      have hcs := hd_cells (own_keep HO.out fun q hq => by simp only [Value.ownBlock, Option.some.injEq] at hq; subst hq; exact hB.block _ hgl) k hlt
      have HT : Hid (p H[k] = true → idxP p H 0 = (k : Int)) := Lib.hid fun h1 => by rw [idxP_eq p H 0 k hlt (fun j hj => HA.out j hj (by omega)) h1]; omega
      have HF : Hid (p H[k] = false → ∀ j (hj : j < k + 1) (hl : j < H.length), p H[j] = false) := Lib.hid fun h1 j hj hl => by
        by_cases e : j = k
        · subst e; exact h1
        · exact HA.out j (by omega) hl
      obtain ⟨c0, c1, c2, c3⟩ := hcs
      have hki : decide ((k : Int) < (H.length : Int)) = true := by simp; omega
      generalize H[k] = h at *
      obtain ⟨q, hq⟩ : ∃ q, p h = q := ⟨_, rfl⟩
      rw [hq] at hc
      have HQ := Lib.hid hq
      clear hB hq
      cases q with
      | true =>
        have HE := Lib.hid (HT.out HQ.out)
        clear HT HF HQ
        go_wp2_with fail
        refine hc.mono ?_; rintro e w1 ⟨rfl, hb1⟩
        go_wp2_with fail
        go_ret
        exact ⟨by rw [HE.out]; rfl, HG.out.trans hb1⟩
      | false =>
        have HE := Lib.hid (HF.out HQ.out)
        clear HT HF HQ
        go_wp2_with fail
        refine hc.mono ?_; rintro e w1 ⟨rfl, hb1⟩
        have HB1 := Lib.hid hb1
        clear hb1
        go_wp2_with fail
        exact ⟨⟨k + 1, by omega, by go_num, HG.out.trans HB1.out, HE.out⟩, by simp [intOf]; omega⟩
    · have hki : decide ((k : Int) < (H.length : Int)) = false := by simp; omega
      have hkk : k = H.length := by omega
      have HE : Hid (idxP p H 0 = -1) := Lib.hid (idxP_none p H 0 fun h hh => by
        obtain ⟨j, hj, rfl⟩ := List.mem_iff_getElem.1 hh
        exact HA.out j (by omega) hj)
      have HB := Lib.hid hB
      clear hB
      go_wp2_with fail
      go_ret
      exact ⟨by rw [HE.out]; rfl, HG.out⟩

set_option maxHeartbeats 1000000 in
theorem containsF_any (g : Nat) (lb : Array Value) (hf : ∀ args w, (callFunc g args).run Tryz.prog w = .ok (.enter g args) w) (p : Hd → Bool) (B : Nat) (v : Value) (H : List Hd) (w : World) (ho : w.ownsRow B 60 4 v H.length (hdRow H)) (hp : PredH g lb p w) :
    Calls Tryz.prog 55 #[v, .func (.func g) #[] lb] w fun e w' => e = .returned (.bool (H.any p)) ∧ Gr w w' := by
  have HI := Lib.hid (indexF_any g lb hf p B v H w ho hp)
  rw [← idxP_any p H 0]
  clear ho hp hf
  go_enter Tryz.func55, Tryz.ntmps55
  go_wp2_with fail
  refine HI.out.mono ?_; rintro e w1 ⟨rfl, hb1⟩
  go_wp2_with fail
  go_ret
  exact ⟨rfl, hb1⟩

theorem cfAt : ∀ args w, (callFunc 51 args).run Tryz.prog w = .ok (.enter 51 args) w := fun args w => by kernel_rfl
theorem cfWant : ∀ args w, (callFunc 56 args).run Tryz.prog w = .ok (.enter 56 args) w := fun args w => by kernel_rfl
theorem cfRel1 : ∀ args w, (callFunc 21 args).run Tryz.prog w = .ok (.enter 21 args) w := fun args w => by kernel_rfl

theorem clo_at (n : Nat) (x : Int) (w : World) (hn : w.cell? ⟨n, 0, none⟩ = some (.int .i64 x)) (hl : n < w.heap.size) : PredH 51 #[.pointer (some ⟨n, 0, none⟩)] (fun h => h.x == x) w := by
  intro W h hb
  have hc := (hb.cell (p := ⟨n, 0, none⟩) hl).trans hn
  have HB := Lib.hid hb
  have hz := hb.size
  have hnW : n < W.heap.size := by omega
  have hnE : n ≠ W.heap.size := by omega
  clear hn hb
  show Calls _ _ #[.agg #[.int .i64 h.x, .int .i64 h.m, .int .i64 h.w, .int .i64 h.t], .pointer (some ⟨n, 0, none⟩)] W fun e w' => e = .returned (.bool (h.x == x)) ∧ Gr W w'
  go_enter Tryz.func51, Tryz.ntmps51
  go_wp2_with fail
  go_ret
  exact ⟨rfl, (Gr.refl _).alloc _⟩
theorem clo_rel1 (n : Nat) (x : Int) (w : World) (hn : w.cell? ⟨n, 0, none⟩ = some (.int .i64 x)) (hl : n < w.heap.size) : PredH 21 #[.pointer (some ⟨n, 0, none⟩)] (fun h => h.x == x) w := by
  intro W h hb
  have hc := (hb.cell (p := ⟨n, 0, none⟩) hl).trans hn
  have HB := Lib.hid hb
  have hz := hb.size
  have hnW : n < W.heap.size := by omega
  have hnE : n ≠ W.heap.size := by omega
  clear hn hb
  show Calls _ _ #[.agg #[.int .i64 h.x, .int .i64 h.m, .int .i64 h.w, .int .i64 h.t], .pointer (some ⟨n, 0, none⟩)] W fun e w' => e = .returned (.bool (h.x == x)) ∧ Gr W w'
  go_enter Tryz.func21, Tryz.ntmps21
  go_wp2_with fail
  go_ret
  exact ⟨rfl, (Gr.refl _).alloc _⟩
theorem clo_want (w : World) : PredH 56 #[] (fun h => h.w != 0) w := by
  intro W h hb
  have HB := Lib.hid hb
  have hz := hb.size
  clear hb
  show Calls _ _ #[.agg #[.int .i64 h.x, .int .i64 h.m, .int .i64 h.w, .int .i64 h.t]] W fun e w' => e = .returned (.bool (h.w != 0)) ∧ Gr W w'
  go_enter Tryz.func56, Tryz.ntmps56
  go_wp2_with fail
  go_ret
  exact ⟨rfl, (Gr.refl _).alloc _⟩

theorem at_any {B qb : Nat} {hv wv : Value} {Q : Qu} {w : World} (h : QAt w B qb hv wv Q) (x : Int) :
    Calls Tryz.prog 26 #[.pointer (some ⟨qb, 0, none⟩), .int .i64 x] w fun e w' => e = .returned (.int .i64 (atL x Q.H 0)) ∧ Gr w w' := by
  have h0 := h.cell0
  have hlt := (h.lt (.inl rfl)).2
  have h1 := (Below.refl w.heap.size w).alloc (Nat.le_refl _) (.cells #[.int .i64 x] 3)
  have HI := Lib.hid (indexF_any _ #[.pointer (some ⟨w.heap.size, 0, none⟩)] cfAt (fun h => h.x == x) B hv Q.H (w.alloc (.cells #[.int .i64 x] 3)) (h.held.alloc _) (clo_at w.heap.size x _ (World.cell?_alloc_mark w #[.int .i64 x] _ (0, 0) 0) (by simp)))
  rw [idxP_at] at HI
  have HB := Lib.hid h1
  clear h h1
  go_enter Tryz.func26, Tryz.ntmps26
  go_wp2_with fail
  refine HI.out.mono ?_; rintro e w1 ⟨rfl, hb1⟩
  go_wp2_with fail
  go_ret
  exact ⟨rfl, ((Gr.refl w).alloc _).trans hb1⟩
theorem want_any {B qb : Nat} {hv wv : Value} {Q : Qu} {w : World} (h : QAt w B qb hv wv Q) :
    Calls Tryz.prog 29 #[.pointer (some ⟨qb, 0, none⟩)] w fun e w' => e = .returned (.bool (wantL Q.H)) ∧ Gr w w' := by
  have h0 := h.cell0
  have HI := Lib.hid (containsF_any _ #[] cfWant (fun h => h.w != 0) B hv Q.H w h.held (clo_want w))
  clear h
  go_enter Tryz.func29, Tryz.ntmps29
  go_wp2_with fail
  refine HI.out.mono ?_; rintro e w1 ⟨rfl, hb1⟩
  go_wp2_with fail
  go_ret
  exact ⟨rfl, hb1⟩

set_option maxHeartbeats 2000000 in
set_option maxRecDepth 100000 in
theorem free_any {B qb : Nat} {hv wv : Value} {Q : Qu} {w : World} (h : QAt w B qb hv wv Q) (x m : Int) :
    Calls Tryz.prog 28 #[.pointer (some ⟨qb, 0, none⟩), .int .i64 x, .int .i64 m] w fun e w' => e = .returned (.bool (freeL x m Q.H)) ∧ Gr w w' := by
  have h0 := h.cell0
  have ho := h.held
  clear h
  generalize Q.H = H at *
  obtain ⟨a, cap, rfl, hcap, hmx, ha⟩ := own_cap ho
  have hlen : H.length ≤ 9223372036854775807 := by simp only [maxLen] at hmx; omega
  have HO := Lib.hid ho
  have HM := Lib.hid (fun a b w => compat_any a b w)
  clear ho hcap
  go_enter Tryz.func28, Tryz.ntmps28
  go_wp2_with fail
  go_loopw [8, 14] (fun _ i wr => ∃ k : Nat, k ≤ H.length ∧ i = .int .i64 k ∧ Gr w wr ∧ (∀ j (hj : j < k) (hl : j < H.length), (H[j].x == x || compatL m H[j].m) = true)) (fun _ i _ => H.length - (intOf i).toNat)
  case atStart => exact ⟨0, by omega, rfl, Gr.refl _, fun j hj => by omega⟩
  case round =>
    obtain ⟨k, hk, rfl, hG, hall⟩ := hrel
    have HG := Lib.hid hG
    have hB := hG.below
    clear hG
    obtain ⟨wo, rfl⟩ : ∃ wo : World, wo = wr := ⟨_, rfl⟩
    have HB := Lib.hid hB
    have HA := Lib.hid hall
    clear hall
    by_cases hlt : k < H.length
    · obtain ⟨gb, rfl, hgb, hgl⟩ := ha.resolve_left (by omega)
      have hcs := hd_cells (own_keep HO.out fun q hq => by simp only [Value.ownBlock, Option.some.injEq] at hq; subst hq; exact hB.block _ hgl) k hlt
      have HT : Hid ((H[k].x == x || compatL m H[k].m) = false → freeL x m H = false) := Lib.hid fun h1 => by
        unfold freeL
        rw [List.all_eq_false]
        exact ⟨H[k], List.getElem_mem hlt, by simpa using h1⟩
      have HF : Hid ((H[k].x == x || compatL m H[k].m) = true → ∀ j (hj : j < k + 1) (hl : j < H.length), (H[j].x == x || compatL m H[j].m) = true) := Lib.hid fun h1 j hj hl => by
        by_cases e : j = k
        · subst e; exact h1
        · exact HA.out j (by omega) hl
      obtain ⟨c0, c1, c2, c3⟩ := hcs
      have hki : decide ((k : Int) < (H.length : Int)) = true := by simp; omega
      have hz := hB.size
      generalize H[k] = h at *
      clear hB
      by_cases hx : h.x = x
      · have hx1 : (h.x == x) = true := by simpa using hx
        have hx2 : (h.x != x) = false := by simp [bne, hx1]
        have HE := Lib.hid (HF.out (by rw [hx1]; rfl))
        clear HT HF hx
        go_wp2_with fail
        exact ⟨⟨k + 1, by omega, by go_num, HG.out.alloc _, HE.out⟩, by simp [intOf]; omega⟩
      · have hx1 : (h.x == x) = false := by simpa using hx
        have hx2 : (h.x != x) = true := by simp [bne, hx1]
        obtain ⟨q, hq⟩ : ∃ q, compatL m h.m = q := ⟨_, rfl⟩
        have HQ := Lib.hid hq
        have hcm := HM.out m h.m (wo.alloc (.cells #[.int .i64 h.x, .int .i64 h.m, .int .i64 h.w, .int .i64 h.t] 60))
        rw [hq] at hcm
        clear hq hx
        cases q with
        | true =>
          have HE := Lib.hid (HF.out (by rw [hx1, HQ.out]; rfl))
          clear HT HF HQ
          go_wp2_with fail
          refine hcm.mono ?_; rintro e w1 ⟨rfl, rfl⟩
          go_wp2_with fail
          exact ⟨⟨k + 1, by omega, by go_num, HG.out.alloc _, HE.out⟩, by simp [intOf]; omega⟩
        | false =>
          have HE := Lib.hid (HT.out (by rw [hx1, HQ.out]; rfl))
          clear HT HF HQ
          go_wp2_with fail
          refine hcm.mono ?_; rintro e w1 ⟨rfl, rfl⟩
          go_wp2_with fail
          go_ret
          exact ⟨by rw [HE.out]; rfl, HG.out.alloc _⟩
    · have hki : decide ((k : Int) < (H.length : Int)) = false := by simp; omega
      have HE : Hid (freeL x m H = true) := Lib.hid (by
        unfold freeL
        rw [List.all_eq_true]
        intro h hh
        obtain ⟨j, hj, rfl⟩ := List.mem_iff_getElem.1 hh
        exact HA.out j (by omega) hj)
      have HB := Lib.hid hB
      clear hB
      go_wp2_with fail
      go_ret
      exact ⟨by rw [HE.out]; rfl, HG.out⟩
end Go.Proofs.YtileamjmhhifaaaGreat
