/-
  Several texts in one: Sd1, Sd2, Sd3, Sd4, Sd5.
-/
import Derived.Test.YtljommhbhpappaaGreatHg6
import Derived.Test.YtljommhbhpappaaGreatAu18
import Derived.Test.YtljommhbhpappaaGreatGt14
import Derived.Test.YtljommhbhpappaaGreatPkCh
import Derived.Test.YtljommhbhpappaaGreatLand14
namespace Go.Proofs.YtljommhbhpappaaGreat
/-!
  Layer 22 (audit), plain law: the heap of a volume, beside its other stores.
-/
section
open Go.RowKit Go.Joins
set_option linter.unusedVariables false
set_option linter.unusedSimpArgs false

theorem getD_nat {C : List Int} (h : ∀ id ∈ C, 2 ≤ id) (i : Nat) (hi : i < C.length) : (((C.map Int.toNat).getD i 0 : Nat) : Int) = C[i] := by
  rw [List.getD_eq_getElem?_getD, List.getElem?_map, List.getElem?_eq_getElem hi]
  have := h _ (List.getElem_mem hi)
  simp only [Option.map_some, Option.getD_some]
  omega
theorem heap_few {S : Vol} {d m : Pg} {n : Nat} {P : Nat → Part} (h : MVol S d m n P) {k : Nat} (hk : k < 6) {C : List Int} (hp : P k = .heap C) : C.length ≤ 1022 := by
  have h1 := h.own k hk
  have h2 := h.nodup k hk
  rw [hp] at h1 h2
  have hn := h.lt
  have h3 : ((0 : Int) :: (1 : Int) :: C).Nodup := List.nodup_cons.2 ⟨fun hm => by
    rcases List.mem_cons.1 hm with e | hm
    · cases e
    · have := h1 _ hm; omega, List.nodup_cons.2 ⟨fun hm => by have := h1 _ hm; omega, h2⟩⟩
  have h4 := nodup_range _ h3 (fun x hx => by
    rcases List.mem_cons.1 hx with rfl | hx
    · omega
    · rcases List.mem_cons.1 hx with rfl | hx
      · omega
      · have := h1 _ hx; omega)
  simp only [List.length_cons] at h4
  omega
/-- a live heap of a volume -/
theorem MVol.gh {S : Vol} {d m : Pg} {n : Nat} {P : Nat → Part} (h : MVol S d m n P) {k : Nat} (hk : k < 6) {C : List Int} (hp : P k = .heap C) (hl : d.a k = 1) : GH S d m n ((k : Int) + 1) (C.map Int.toNat) (C.map (stPg S)) := by
  have h1 := h.part k hk
  have h2 := h.own k hk
  have h3 := h.nodup k hk
  have hf := heap_few h hk hp
  rw [hp] at h1 h2 h3
  replace h3 : C.Nodup := h3
  replace h2 : ∀ id ∈ C, 2 ≤ id ∧ id < (n : Int) := h2
  obtain ⟨a1, ⟨r, a2, a3⟩, a4⟩ := h1
  have hge : ∀ id ∈ C, 2 ≤ id := fun id hid => (h2 id hid).1
  have hpos := a4.pos
  have hget := getD_nat hge
  refine ⟨h.vol, ⟨k, hk, rfl, hl, ?_⟩, by simp, by simpa using hpos, by simp; omega, fun i hi => ?_, fun i hi => ?_, fun i hi => ?_, fun i hi => ?_, ?_⟩
  · rw [hget 0 hpos, a3]
    rw [List.getElem?_eq_getElem hpos] at a2
    rw [Option.some.inj a2]
  · rw [hget i (by simpa using hi), List.getElem_map]
  · rw [List.getElem_map]; exact (a4.ok i (by simpa using hi)).2.2.2.2
  · have hi' : i < C.length := by simpa using hi
    obtain ⟨b1, b2, b3, -⟩ := a4.ok i hi'
    rw [List.getElem_map]
    refine ⟨b2, b1, b3.trans ?_⟩
    simp only [List.length_map]
    by_cases e : i + 1 < C.length
    · rw [dif_pos e, if_pos e, hget (i + 1) e]
    · rw [dif_neg e, if_neg e]
  · have hi' : i < C.length := by simpa using hi
    have h5 := hget i hi'
    have h6 := h2 _ (List.getElem_mem hi')
    omega
  · refine List.pairwise_map.2 (List.Pairwise.imp_of_mem (fun {a b} ha hb hab e => hab ?_) h3)
    have := hge a ha
    have := hge b hb
    omega
theorem setP_eq (P : Nat → Part) (k : Nat) : setP P k (P k) = P := by
  funext j
  unfold setP
  split
  · rename_i e; rw [e]
  · rfl
/-- a page of a heap is written, its head stays -/
theorem MVol.heapPut {S : Vol} {d m : Pg} {n : Nat} {P : Nat → Part} (h : MVol S d m n P) {k : Nat} (hk : k < 6) {C : List Int} (hp : P k = .heap C) {id : Int} (hid : id ∈ C) (p : Pg) (hh : p.k = (stPg S id).k ∧ p.s = (stPg S id).s ∧ p.n = (stPg S id).n) (hok : okPg p = true) (hsz : ∀ j, j < 6 → (p.d j).size ≤ 32) : MVol (S.put id p) d m n P := by
  have h1 := h.part k hk
  have h2 := h.own k hk
  have h3 := h.nodup k hk
  rw [hp] at h1 h2 h3
  replace h3 : C.Nodup := h3
  replace h2 : ∀ id ∈ C, 2 ≤ id ∧ id < (n : Int) := h2
  obtain ⟨a1, a2, a4⟩ := h1
  have hid2 := h2 id hid
  have hgood : HpGood (S.put id p) ((k : Int) + 1) C := by
    refine ⟨a4.pos, fun x hx => ?_, fun i hi => ?_⟩
    · rw [stE_put]; split
      · rfl
      · exact a4.ses x hx
    · have hb := a4.ok i hi
      rw [stPg_put]
      split
      · rename_i e
        rw [e] at hb
        obtain ⟨b1, b2, b3, b4, b5⟩ := hb
        exact ⟨hh.2.1.trans b1, hh.1.trans b2, hh.2.2.trans b3, hsz, hok⟩
      · exact hb
  have hc := h.change (S' := S.put id p) (m' := m) k hk (.heap C) (VolOk.put h.vol _ _ hid2.1) ⟨a1, a2, hgood⟩ h3 (fun i hi => ⟨(h2 i hi).1, (h2 i hi).2, (h.bits i.toNat (by have := h2 i hi; omega)).2 (.inr ⟨k, hk, by rw [hp, Int.toNat_of_nonneg (by have := h2 i hi; omega)]; exact hi⟩)⟩) (by
    rw [hp]
    exact Fr.put S m n C hid p)
  rw [← hp, setP_eq] at hc
  exact hc
/-- a heap has a page more behind its last one -/
theorem MVol.heapGrow {S : Vol} {d m : Pg} {n : Nat} {P : Nat → Part} (h : MVol S d m n P) {k : Nat} (hk : k < 6) {C : List Int} (hp : P k = .heap C) {a : Nat} {S0 : Vol} {m0 : Pg} (ht : takeV n S m = some (a, S0, m0)) (la : Int) (hla : C[C.length - 1]? = some la) (q : Pg) (hq : q.k = 3 ∧ q.s = (k : Int) + 1 ∧ q.n = 0) (hok : okPg q = true) (hsz : ∀ j, j < 6 → (q.d j).size ≤ 32) :
    MVol ((S0.put la ((stPg S la).link (a : Int))).put (a : Int) q) d m0 n (setP P k (.heap (C ++ [(a : Int)]))) := by
  have h1 := h.part k hk
  have h2 := h.own k hk
  have h3 := h.nodup k hk
  have hn := h.lt
  rw [hp] at h1 h2 h3
  replace h3 : C.Nodup := h3
  replace h2 : ∀ id ∈ C, 2 ≤ id ∧ id < (n : Int) := h2
  obtain ⟨a1, ⟨r, a2, a3⟩, a4⟩ := h1
  obtain ⟨rfl, rfl, t2, tn, tb, -, tv, tbits⟩ := takeV_some h.vol ht
  have hpos := a4.pos
  have hla' : C[C.length - 1] = la := by
    rw [List.getElem?_eq_getElem (by omega)] at hla
    exact Option.some.inj hla
  have hlam : la ∈ C := by rw [← hla']; exact List.getElem_mem _
  have hla2 := h2 la hlam
  have haC : ¬ (a : Int) ∈ C := fun hm => by
    have := (h.bits a tn).2 (.inr ⟨k, hk, by rw [hp]; exact hm⟩)
    rw [tb] at this; cases this
  have hlane : la ≠ (a : Int) := fun e => haC (e ▸ hlam)
  have hv : VolOk ((((S.put 1 (markPg m a true)).put la ((stPg S la).link (a : Int)))).put (a : Int) q) d (markPg m a true) n := VolOk.put (VolOk.put tv _ _ hla2.1) _ _ (by omega)
  have hpg : ∀ x : Int, x ≠ 1 → stPg ((((S.put 1 (markPg m a true)).put la ((stPg S la).link (a : Int)))).put (a : Int) q) x = if x = (a : Int) then q else if x = la then (stPg S la).link (a : Int) else stPg S x := fun x hx => by
    rw [stPg_put, stPg_put, stPg_put, if_neg hx]
  have hses : ∀ x : Int, stE S x = 0 → stE ((((S.put 1 (markPg m a true)).put la ((stPg S la).link (a : Int)))).put (a : Int) q) x = 0 := fun x hx => by
    rw [stE_put, stE_put, stE_put]
    repeat' split
    all_goals first | rfl | exact hx
  have hbitC : ∀ i ∈ C, bitAt m i.toNat = true := fun i hi => (h.bits i.toNat (by have := h2 i hi; omega)).2 (.inr ⟨k, hk, by rw [hp, Int.toNat_of_nonneg (by have := h2 i hi; omega)]; exact hi⟩)
  refine h.change k hk (.heap (C ++ [(a : Int)])) hv ⟨a1, ⟨r, ?_, a3⟩, ⟨by simp, fun x hx => ?_, fun i hi => ?_⟩⟩ ?_ (fun i hi => ?_) ⟨fun i hi => ?_, fun i hi => ?_, fun i hi h1 => ?_, hses, fun i hi hb => ?_, fun i hi hb => ?_⟩
  · rw [List.getElem?_append_left hpos]; exact a2
  · rcases List.mem_append.1 hx with hx | hx
    · exact hses x (a4.ses x hx)
    · obtain rfl : x = (a : Int) := by simpa using hx
      rw [stE_put, if_pos rfl]
  · by_cases e : i < C.length
    · have hm : C[i] ∈ C := List.getElem_mem e
      have hmr := h2 _ hm
      have e1 : (C ++ [(a : Int)])[i] = C[i] := List.getElem_append_left e
      rw [e1, hpg C[i] (by omega), if_neg (fun e2 : C[i] = (a : Int) => haC (e2 ▸ hm))]
      obtain ⟨b1, b2, b3, b4, b5⟩ := a4.ok i e
      by_cases e3 : i + 1 < C.length
      · have hne : C[i] ≠ la := fun e4 => by
          have := List.pairwise_iff_getElem.1 h3 i (C.length - 1) e (by omega) (by omega)
          rw [hla'] at this
          exact this e4
        rw [if_neg hne]
        refine ⟨b1, b2, b3.trans ?_, b4, b5⟩
        rw [dif_pos e3, dif_pos (by simp; omega), List.getElem_append_left e3]
      · have hie : i = C.length - 1 := by omega
        subst hie
        rw [hla', if_pos rfl]
        rw [hla'] at b1 b2 b3 b4 b5
        refine ⟨b1, b2, ?_, b4, link_ok b5 (by omega) (by omega)⟩
        rw [dif_pos (by simp; omega)]
        show (a : Int) = _
        rw [List.getElem_append_right (by omega)]
        simp
    · have hie : i = C.length := by simp at hi; omega
      subst hie
      have e1 : (C ++ [(a : Int)])[C.length] = (a : Int) := by rw [List.getElem_append_right (by omega)]; simp
      rw [e1, hpg (a : Int) (by omega), if_pos rfl]
      refine ⟨hq.2.1, hq.1, ?_, hsz, hok⟩
      rw [dif_neg (by simp), hq.2.2]
  · refine List.nodup_append.2 ⟨h3, by simp, fun x hx y hy e => ?_⟩
    obtain rfl : y = (a : Int) := by simpa using hy
    exact haC (e ▸ hx)
  · rcases List.mem_append.1 hi with hi | hi
    · have h5 := h2 i hi
      refine ⟨h5.1, h5.2, ?_⟩
      rw [tbits _ (by omega)]
      split
      · rfl
      · exact hbitC i hi
    · obtain rfl : i = (a : Int) := by simpa using hi
      refine ⟨by omega, by omega, ?_⟩
      rw [tbits _ (by omega), if_pos (by simp)]
  · rw [hp] at hi; exact List.mem_append_left _ hi
  · rcases List.mem_append.1 hi with hi | hi
    · exact .inl (by rw [hp]; exact hi)
    · obtain rfl : i = (a : Int) := by simpa using hi
      exact .inr (by rw [Int.toNat_natCast]; exact tb)
  · rw [hpg _ h1]
    have n1 : i ≠ (a : Int) := fun e => hi (List.mem_append_right _ (by simp [e]))
    have n2 : i ≠ la := fun e => hi (List.mem_append_left _ (e ▸ hlam))
    rw [if_neg n1, if_neg n2]
  · rw [tbits i hi] at hb
    split at hb
    · rename_i e
      exact .inr (List.mem_append_right _ (by simp [e]))
    · exact .inl hb
  · rw [tbits i hi]
    split
    · rfl
    · exact hb
end

/-!
  Layer 15 (heap), of a store that is none, a ghost, or of another kind.
-/
section
open Go.RowKit Go.Joins
set_option linter.unusedVariables false
set_option linter.unusedSimpArgs false

/-- what Find says of a store on a stage -/
def FindIs (S : Vol) (b mb hb pb : Nat) (st kd r a er : Int) : Prop :=
  ∀ w, StageAt w b mb hb pb S → Calls Tryz.prog 30 #[.pointer (some ⟨b, 0, none⟩), .int .i64 st] w fun e w' => e = .returned (.tuple #[.int .i64 kd, .int .i64 r, .int .i64 a, .int .i64 er]) ∧ Below w.heap.size w w'
/-- the heap's first page is not to be had -/
def RootBad (S : Vol) (b mb hb pb : Nat) (st x : Int) : Prop :=
  x ≠ 0 ∧ ∀ w, StageAt w b mb hb pb S → Calls Tryz.prog 68 #[.pointer (some ⟨b, 0, none⟩), .int .i64 st] w fun e w' => e = .returned (.tuple #[.int .i64 0, .int .i64 x]) ∧ Below w.heap.size w w'
set_option maxHeartbeats 2000000 in
set_option maxRecDepth 100000 in
theorem groot_none {S : Vol} {b mb hb pb : Nat} {st kd r a er : Int} (h : FindIs S b mb hb pb st kd r a er) (he : er ≠ 0) : RootBad S b mb hb pb st er := by
  refine ⟨he, fun w hs => ?_⟩
  have HC := Lib.hid (h w hs)
  have e1 : (er == 0) = false := by simpa using he
  clear h hs
  go_enter Tryz.func68, Tryz.ntmps68
  go_wp2_with fail
  with_reducible refine HC.out.mono ?_; rintro e w1 ⟨rfl, hb1⟩
  have HB := Lib.hid hb1
  clear hb1
  go_wp2_with fail
  go_ret2
  exact ⟨rfl, HB.out⟩
set_option maxHeartbeats 2000000 in
set_option maxRecDepth 100000 in
theorem groot_other {S : Vol} {b mb hb pb : Nat} {st kd r a : Int} (h : FindIs S b mb hb pb st kd r a 0) (hk : kd ≠ 1 ∨ a ≠ 1) : RootBad S b mb hb pb st 190 := by
  refine ⟨by decide, fun w hs => ?_⟩
  have HC := Lib.hid (h w hs)
  clear h hs
  by_cases h1 : kd = 1
  · have h2 : a ≠ 1 := hk.resolve_left (fun hh => hh h1)
    subst h1
    have e2 : (a == 1) = false := by simpa using h2
    clear hk
    go_enter Tryz.func68, Tryz.ntmps68
    go_wp2_with fail
    with_reducible refine HC.out.mono ?_; rintro e w1 ⟨rfl, hb1⟩
    have HB := Lib.hid hb1
    clear hb1
    go_wp2_with fail
    go_ret2
    exact ⟨rfl, HB.out⟩
  · have e1 : (kd == 1) = false := by simpa using h1
    clear hk
    go_enter Tryz.func68, Tryz.ntmps68
    go_wp2_with fail
    with_reducible refine HC.out.mono ?_; rintro e w1 ⟨rfl, hb1⟩
    have HB := Lib.hid hb1
    clear hb1
    go_wp2_with fail
    go_ret2
    exact ⟨rfl, HB.out⟩
set_option maxHeartbeats 2000000 in
set_option maxRecDepth 100000 in
theorem gwalk_bad {S : Vol} {b mb hb pb : Nat} {st x : Int} (h : RootBad S b mb hb pb st x) (v : Value) (w : World) (hs : StageAt w b mb hb pb S) :
    Calls Tryz.prog 41 #[.pointer (some ⟨b, 0, none⟩), .int .i64 st, v] w fun e w' => e = .returned (.int .i64 x) ∧ Below w.heap.size w w' := by
  obtain ⟨hx, hr⟩ := h
  have HC := Lib.hid (hr w hs)
  have e1 : (x == 0) = false := by simpa using hx
  clear hr hs
  go_enter Tryz.func41, Tryz.ntmps41
  go_wp2_with fail
  refine HC.out.mono ?_; rintro e w1 ⟨rfl, hb1⟩
  have HB := Lib.hid hb1
  clear hb1
  go_wp2_with fail
  go_loopw [7, 9] (fun i j wr => i = .int .i64 0 ∧ j = .int .i64 0 ∧ Below w.heap.size w wr) (fun _ _ _ => 0)
  case atStart => exact ⟨rfl, rfl, HB.out⟩
  case round =>
    obtain ⟨rfl, rfl, hb⟩ := hrel
    have HB2 := Lib.hid hb
    clear hb
    go_wp2_with fail
    go_ret
    exact ⟨rfl, HB2.out⟩
set_option maxHeartbeats 4000000 in
set_option maxRecDepth 100000 in
theorem gfind_bad {S : Vol} {b mb hb pb : Nat} {st x : Int} (h : RootBad S b mb hb pb st x) (id : Int) (w : World) (hs : StageAt w b mb hb pb S) :
    Calls Tryz.prog 70 #[.pointer (some ⟨b, 0, none⟩), .int .i64 st, .int .i64 id] w fun e w' => (∃ a s : Int, e = .returned (.tuple #[.int .i64 a, .int .i64 s, Pg.zero.v, .int .i64 x])) ∧ Below w.heap.size w w' := by
  have hm := findStart_mem w id
  have hx := h.1
  have HW := Lib.hid (fun v => gwalk_bad h v (findStart w id) (hs.below hm.low hs.lt))
  have e1 : (x == 0) = false := by simpa using hx
  have HM := Lib.hid hm
  clear h hs hm
  go_enter Tryz.func70, Tryz.ntmps70
  go_wp2_with fail
  refine (HW.out _).mono ?_
  rintro e w1 ⟨rfl, hb1⟩
  have hM := HM.out.below hb1
  have cc11 := (cell_of_block hM.c11 0).trans rfl
  have dc5 := (cell_of_block (hM.below (Below.refl w1.heap.size w1).drew).c5 0).trans rfl
  have dR10 := rowAt_of (hM.below (Below.refl w1.heap.size w1).drew).c10
  have dR8 := rowAt_of (hM.below (Below.refl w1.heap.size w1).drew).c8
  have RF := rowAt_setRow w1.drew (w.heap.size + 1) _ Pg.zero.cs dR8
  have BF : Below w.heap.size w (w1.drew.setRow (w.heap.size + 1) Pg.zero.cs) := below_setRow (hM.low.drew) _ (by omega)
  have HBF := Lib.hid BF
  clear hM BF hb1
  go_wp2_with fail
  go_region
  all_goals
    go_wp2
    exact ret_ttpt rfl rfl (w.heap.size + 1) Pg.zero rfl RF ⟨⟨_, _, rfl⟩, HBF.out⟩
set_option maxHeartbeats 4000000 in
set_option maxRecDepth 100000 in
theorem gchange_bad {S : Vol} {b mb hb pb : Nat} {st x : Int} (h : RootBad S b mb hb pb st x) (id : Int) (v : Value) (w : World) (hs : StageAt w b mb hb pb S) :
    Calls Tryz.prog 46 #[.pointer (some ⟨b, 0, none⟩), .int .i64 st, .int .i64 id, v] w fun e w' =>
      e = .returned (.tuple #[Un.zero.v, .int .i64 x]) ∧ Below w.heap.size w w' := by
  have HF := Lib.hid (gfind_bad h id _ (hs.below ((Below.refl w.heap.size w).alloc (Nat.le_refl _) (.cells Un.zero.cs 74)) hs.lt))
  have e1 : (x == 0) = false := by simpa using h.1
  clear h hs
  go_enter Tryz.func46, Tryz.ntmps46
  go_wp2_with fail
  refine HF.out.mono ?_; rintro e w1 ⟨⟨a, s, rfl⟩, hb1⟩
  have hz1 := hb1.size
  simp only [World.size_alloc] at hz1
  have R8 := (rowAt_past w1 (.cells Pg.zero.cs 38) w.heap.size (by omega)).trans ((rowAt_below hb1 (by simp)).trans (rowAt_at w Un.zero.cs 74 _ rfl))
  have RF := rowAt_setRow _ w.heap.size _ Un.zero.cs R8
  have B1 : Below w.heap.size w ((w1.alloc (.cells Pg.zero.cs 38)).setRow w.heap.size Un.zero.cs) := below_setRow ((((Below.refl w.heap.size w).alloc (Nat.le_refl _) (.cells Un.zero.cs 74)).trans (hb1.mono (by simp))).alloc (by omega) _) _ (Nat.le_refl _)
  have HB1 := Lib.hid B1
  clear hb1 B1
  go_wp2_with fail
  exact ret_un rfl rfl w.heap.size Un.zero rfl RF ⟨rfl, HB1.out⟩
set_option maxHeartbeats 4000000 in
set_option maxRecDepth 100000 in
theorem gdelete_bad {S : Vol} {b mb hb pb : Nat} {st x : Int} (h : RootBad S b mb hb pb st x) (id : Int) (w : World) (hs : StageAt w b mb hb pb S) :
    Calls Tryz.prog 24 #[.pointer (some ⟨b, 0, none⟩), .int .i64 st, .int .i64 id] w fun e w' => e = .returned (.tuple #[Un.zero.v, .int .i64 x]) ∧ Below w.heap.size w w' := by
  have B2 : Below w.heap.size w (w.alloc (.cells Un.zero.cs 74)) := (Below.refl _ _).alloc (Nat.le_refl _) _
  have HC := Lib.hid (gchange_bad h id (.func (.func 47) #[] #[]) _ (hs.below B2 hs.lt))
  have HB2 := Lib.hid B2
  have R9 : rowAt (w.alloc (.cells Un.zero.cs 74)) w.heap.size = some Un.zero.cs := rowAt_at _ _ _ _ rfl
  clear h hs B2
  go_enter Tryz.func24, Tryz.ntmps24
  go_wp2_with fail
  refine HC.out.mono ?_; rintro e w3 ⟨rfl, hb3⟩
  have hz3 := hb3.size
  simp only [World.size_alloc] at hz3
  have R3 := (rowAt_below hb3 (by simp)).trans R9
  have RF := rowAt_setRow w3 w.heap.size _ Un.zero.cs R3
  have BF : Below w.heap.size w (w3.setRow w.heap.size Un.zero.cs) := below_setRow (HB2.out.trans (hb3.mono (by simp))) _ (Nat.le_refl _)
  have HBF := Lib.hid BF
  clear hb3 R9 BF
  go_wp2_with fail
  exact ret_un rfl rfl w.heap.size Un.zero rfl RF ⟨rfl, HBF.out⟩
set_option maxHeartbeats 4000000 in
set_option maxRecDepth 100000 in
theorem ginsert_bad {S : Vol} {b mb hb pb : Nat} {st x : Int} (h : RootBad S b mb hb pb st x) (val : ByteArray) (hval : val.size ≤ 32) (w : World) (hs : StageAt w b mb hb pb S) :
    Calls Tryz.prog 23 #[.pointer (some ⟨b, 0, none⟩), .int .i64 st, .string val, .slice none 0 0] w fun e w' => e = .returned (.tuple #[.int .i64 0, Un.zero.v, .int .i64 x]) ∧ Below w.heap.size w w' := by
  have hv : ¬ 32 < val.size := by omega
  obtain ⟨hm, hB⟩ := insStart_mem w (.slice none 0 0) b mb hb pb S hs
  have HW := Lib.hid (fun v => gwalk_bad h v (insStart w (.slice none 0 0)) hm.stage)
  have e1 : (x == 0) = false := by simpa using h.1
  have HM := Lib.hid hm
  have HB := Lib.hid hB
  clear h hs hm hB
  go_enter Tryz.func23, Tryz.ntmps23
  go_wp2_with fail
  refine (HW.out _).mono ?_
  rintro e w1 ⟨rfl, hb1⟩
  have hM := HM.out.below hb1
  have hsz := hb1.size
  rw [insStart_size] at hsz
  have B1 := HB.out.trans (hb1.mono (by rw [insStart_size]; omega))
  have HM1 := Lib.hid hM
  have HB1 := Lib.hid B1
  clear hb1 hM B1
  go_wp2_with fail
  go_loopw [14, 15] (fun e mm wr => e = .int .i64 x ∧ mm = .int .i64 0 ∧ wr = w1) (fun _ _ _ => 0)
  case atStart => exact ⟨rfl, rfl, rfl⟩
  case round =>
    obtain ⟨rfl, rfl, rfl⟩ := hrel
    have R9 := rowAt_of HM1.out.c9
    have RF := rowAt_setRow wr (w.heap.size + 1) _ Un.zero.cs R9
    have BF : Below w.heap.size w (wr.setRow (w.heap.size + 1) Un.zero.cs) := below_setRow HB1.out _ (by omega)
    have HBF := Lib.hid BF
    clear BF
    go_wp2_with fail
    exact ret_tut rfl rfl (w.heap.size + 1) Un.zero rfl RF ⟨rfl, HBF.out⟩
end

/-!
  Layer 16 (tree), of a store that is none, a ghost, or of another kind.
-/
section
open Go.RowKit Go.Joins
set_option linter.unusedVariables false
set_option linter.unusedSimpArgs false

/-- the tree is not to be had -/
def OpenBad (S : Vol) (b mb hb pb : Nat) (st x : Int) : Prop :=
  x ≠ 0 ∧ ∀ kp kl kc w, StageAt w b mb hb pb S → Calls Tryz.prog 49 #[.pointer (some ⟨b, 0, none⟩), .int .i64 st, .slice kp kl kc] w fun e w' => e = .returned (.tuple #[.pointer none, .int .i64 x]) ∧ Below w.heap.size w w'
set_option maxHeartbeats 2000000 in
set_option maxRecDepth 100000 in
theorem open_none {S : Vol} {b mb hb pb : Nat} {st kd r a er : Int} (h : FindIs S b mb hb pb st kd r a er) (he : er ≠ 0) : OpenBad S b mb hb pb st er := by
  refine ⟨he, fun kp kl kc w hs => ?_⟩
  have HC := Lib.hid (h w hs)
  have e1 : (er == 0) = false := by simpa using he
  clear h hs
  go_enter Tryz.func49, Tryz.ntmps49
  go_wp2_with fail
  with_reducible refine HC.out.mono ?_; rintro e w1 ⟨rfl, hb1⟩
  have HB := Lib.hid hb1
  clear hb1
  go_wp2_with fail
  go_ret2
  exact ⟨rfl, HB.out⟩
set_option maxHeartbeats 2000000 in
set_option maxRecDepth 100000 in
theorem open_other {S : Vol} {b mb hb pb : Nat} {st kd r a : Int} (h : FindIs S b mb hb pb st kd r a 0) (hk : (kd ≠ 2 ∧ kd ≠ 3) ∨ a ≠ 1) : OpenBad S b mb hb pb st 190 := by
  refine ⟨by decide, fun kp kl kc w hs => ?_⟩
  have HC := Lib.hid (h w hs)
  clear h hs
  by_cases h2 : kd = 2
  · have h3 : a ≠ 1 := hk.resolve_left (fun hh => hh.1 h2)
    subst h2
    have e2 : (a == 1) = false := by simpa using h3
    clear hk
    go_enter Tryz.func49, Tryz.ntmps49
    go_wp2_with fail
    with_reducible refine HC.out.mono ?_; rintro e w1 ⟨rfl, hb1⟩
    have HB := Lib.hid hb1
    clear hb1
    go_wp2_with fail
    go_ret2
    exact ⟨rfl, HB.out⟩
  · have e1 : (kd == 2) = false := by simpa using h2
    by_cases h3 : kd = 3
    · have h3 : a ≠ 1 := hk.resolve_left (fun hh => hh.2 h3)
      subst kd
      have e2 : (a == 1) = false := by simpa using h3
      clear hk
      go_enter Tryz.func49, Tryz.ntmps49
      go_wp2_with fail
      with_reducible refine HC.out.mono ?_; rintro e w1 ⟨rfl, hb1⟩
      have HB := Lib.hid hb1
      clear hb1
      go_wp2_with fail
      go_ret2
      exact ⟨rfl, HB.out⟩
    · have e3 : (kd == 3) = false := by simpa using h3
      clear hk
      go_enter Tryz.func49, Tryz.ntmps49
      go_wp2_with fail
      with_reducible refine HC.out.mono ?_; rintro e w1 ⟨rfl, hb1⟩
      have HB := Lib.hid hb1
      clear hb1
      go_wp2_with fail
      go_ret2
      exact ⟨rfl, HB.out⟩
set_option maxHeartbeats 8000000 in
set_option maxRecDepth 100000 in
theorem tput_closed {S : Vol} {b mb hb pb : Nat} {st x : Int} (h : OpenBad S b mb hb pb st x) (key val : ByteArray) (hk : KeyOk key) (hv : val.size ≤ 20) (ka : Option Addr) (kc : Nat) (kp : List ByteArray) (w : World) (hs : StageAt w b mb hb pb S) (hkp : StrIn w ka kp) :
    Calls Tryz.prog 25 #[.pointer (some ⟨b, 0, none⟩), .int .i64 st, .string key, .string val, .slice ka kp.length kc] w fun e w' => e = .returned (.tuple #[Un.zero.v, .int .i64 x]) ∧ Below w.heap.size w w' := by
  obtain ⟨i0, hi, hz0, hz1, hz2⟩ := info_parts infoStr17
  have HL := Lib.hid (fun w' => nleaf_ok key val 1 hk.1 hk.2 hv (.inl rfl) w')
  have HCl := Lib.hid (fun w' hk' => sclone_any ka kc kp w' hk')
  have HKp := Lib.hid hkp
  have HS := Lib.hid hs
  have H := Lib.hid h
  have e1 : (x == 0) = false := by simpa using h.1
  have hslt := hs.lt
  generalize hdd : tx key ++ val = dd at *
  clear hs h hkp hk
  go_enter Tryz.func25, Tryz.ntmps25
  go_wp2_with fail
  refine (HL.out _).mono ?_; rintro e w1 ⟨rfl, hb1⟩
  have hz1' := hb1.size
  simp only [World.size_alloc] at hz1'
  have U1 := (rowAt_below hb1 (n := w.heap.size) (by go_size)).trans (rowAt_at w Un.zero.cs 74 _ rfl)
  have B1 : Hid (Below w.heap.size w (w1.alloc (.cells #[.int .i64 1, .string dd] 35))) := Lib.hid ((((Below.refl _ _).alloc (Nat.le_refl _) _).trans (hb1.mono (by go_size))).alloc (by omega) _)
  have U1' := Lib.hid ((rowAt_past w1 (.cells #[.int .i64 1, .string dd] 35) w.heap.size (by omega)).trans U1)
  have hs1 : (w1.alloc (.cells #[.int .i64 1, .string dd] 35)).heap.size = w1.heap.size + 1 := World.size_alloc ..
  clear hb1 U1
  go_wp2_with fail
  generalize w1.alloc (.cells #[.int .i64 1, .string dd] 35) = W1 at *
  generalize w1.heap.size = C at *
  have hkp1 : StrIn W1 ka kp := HKp.out.below B1.out
  have hkl := hkp1.1
  refine (HCl.out _ hkp1).mono ?_; rintro e w2 ⟨v, rfl, hown, hb2⟩
  have hz2' := hb2.size
  have B2 := Lib.hid (B1.out.trans (hb2.mono (by omega)))
  have U2 := Lib.hid ((rowAt_below hb2 (by omega)).trans U1'.out)
  clear hkp1 hb2
  go_wp2_with (at_builtin; refine wpList_append_own _ rfl _ _ 33 rfl W1.heap.size 9 i0 _ 1 16 Tryz.underlying33 hi hz0 hz1 hz2 rfl (by decide) _ _ _ rfl (hown.alloc _) ⟨w2.heap.size, 0, none⟩ 1 1 [.string key] rfl rfl ?c1 ?c2 ?c3 ?c4 ?c5 ?_)
  case c1 => exact cell_one_new _ _ _
  case c2 => simp [Value.oneCell']
  case c3 => simp only [maxLen]; omega
  case c4 => omega
  case c5 => first | omega | (simp; omega)
  intro v3 w3 hown3 hgrow _
  have hb3 : Below W1.heap.size w2 w3 := ((Below.refl w2.heap.size w2).alloc (Nat.le_refl _) _).mono (by omega) |>.grown hgrow (by go_size) (fun q hq => (hown.lt q hq).1)
  have hz3 := hb3.size
  have B3 := Lib.hid (B2.out.trans (hb3.mono (by omega)))
  have U3 := Lib.hid ((rowAt_below hb3 (by omega)).trans U2.out)
  obtain ⟨g, cap, rfl, hg1, hg2, hstr⟩ := own_str (kp := kp ++ [key]) (by simpa using hown3) (by simp) (by simp; omega)
  obtain ⟨kp2, hkp2⟩ : ∃ kp2, kp ++ [key] = kp2 := ⟨_, rfl⟩
  rw [hkp2] at hstr ⊢
  clear hown hown3 hgrow hstr hb3 hkp2
  have HOp := Lib.hid (H.out.2 (some ⟨g, 0, none⟩) kp2.length cap w3 (HS.out.below B3.out hslt))
  go_wp2_with fail
  refine HOp.out.mono ?_; rintro e w4 ⟨rfl, hb4⟩
  have hz4 := hb4.size
  have B4 := Lib.hid (B3.out.trans (hb4.mono (by omega)))
  have U4 := (rowAt_below hb4 (by omega)).trans U3.out
  have RF := rowAt_setRow w4 w.heap.size _ Un.zero.cs U4
  have r7 : row7 (rowAt w4 w.heap.size) = true := by rw [U4]; rfl
  have BF := Lib.hid (below_setRow B4.out Un.zero.cs (Nat.le_refl w.heap.size))
  clear hb4
  go_wp2_with fail
  exact ret_un rfl rfl w.heap.size Un.zero rfl RF ⟨rfl, BF.out⟩
set_option maxHeartbeats 8000000 in
set_option maxRecDepth 100000 in
theorem tchange_closed {S : Vol} {b mb hb pb : Nat} {st x : Int} (h : OpenBad S b mb hb pb st x) (key : ByteArray) (hk : KeyOk key) (v : Value) (w : World) (hs : StageAt w b mb hb pb S) :
    Calls Tryz.prog 56 #[.pointer (some ⟨b, 0, none⟩), .int .i64 st, .string key, v] w fun e w' => e = .returned (.tuple #[Un.zero.v, .int .i64 x]) ∧ Below w.heap.size w w' := by
  have HS := Lib.hid hs
  have H := Lib.hid h
  have e1 : (x == 0) = false := by simpa using h.1
  have hslt := hs.lt
  have HW := Lib.hid (fun w' => wrong_any key w')
  have hk2 : (!decide (KeyOk key)) = false := by simp [hk]
  rw [hk2] at HW
  clear hs h hk hk2
  go_enter Tryz.func56, Tryz.ntmps56
  go_wp2_with fail
  refine (HW.out _).mono ?_; rintro e w1 ⟨rfl, rfl⟩
  have U1 := Lib.hid (rowAt_at w Un.zero.cs 74 _ rfl)
  have B1 : Hid (Below w.heap.size w (w.alloc (.cells Un.zero.cs 74))) := Lib.hid ((Below.refl _ _).alloc (Nat.le_refl _) _)
  have hs1 : (w.alloc (.cells Un.zero.cs 74)).heap.size = w.heap.size + 1 := World.size_alloc ..
  generalize hW1 : w.alloc (.cells Un.zero.cs 74) = W1 at *
  have HOp := Lib.hid (H.out.2 none 0 0 W1 (HS.out.below B1.out hslt))
  go_wp2_with fail
  refine HOp.out.mono ?_; rintro e w4 ⟨rfl, hb4⟩
  have hz4 := hb4.size
  have B4 := Lib.hid (B1.out.trans (hb4.mono (by omega)))
  have U4 := (rowAt_below hb4 (by omega)).trans U1.out
  have RF := rowAt_setRow w4 w.heap.size _ Un.zero.cs U4
  have r7 : row7 (rowAt w4 w.heap.size) = true := by rw [U4]; rfl
  have BF := Lib.hid (below_setRow B4.out Un.zero.cs (Nat.le_refl w.heap.size))
  clear hb4
  go_wp2_with fail
  exact ret_un rfl rfl w.heap.size Un.zero rfl RF ⟨rfl, BF.out⟩
set_option maxHeartbeats 4000000 in
set_option maxRecDepth 100000 in
theorem tcut_closed {S : Vol} {b mb hb pb : Nat} {st x : Int} (h : OpenBad S b mb hb pb st x) (key : ByteArray) (hk : KeyOk key) (w : World) (hs : StageAt w b mb hb pb S) :
    Calls Tryz.prog 26 #[.pointer (some ⟨b, 0, none⟩), .int .i64 st, .string key] w fun e w' => e = .returned (.tuple #[Un.zero.v, .int .i64 x]) ∧ Below w.heap.size w w' := by
  have R9 : rowAt (w.alloc (.cells Un.zero.cs 74)) w.heap.size = some Un.zero.cs := rowAt_at _ _ _ _ rfl
  have B2 : Below w.heap.size w (w.alloc (.cells Un.zero.cs 74)) := (Below.refl _ _).alloc (Nat.le_refl _) _
  have HC := Lib.hid (fun fv => tchange_closed h key hk fv _ (hs.below B2 hs.lt))
  have HB2 := Lib.hid B2
  clear hk B2 h hs
  go_enter Tryz.func26, Tryz.ntmps26
  go_wp2_with fail
  refine (HC.out _).mono ?_; rintro e w3 ⟨rfl, hb3⟩
  have hz3 := hb3.size
  simp only [World.size_alloc] at hz3
  have R3 := (rowAt_below hb3 (n := w.heap.size) (by go_size)).trans R9
  have r7 : row7 (rowAt w3 w.heap.size) = true := by rw [R3]; rfl
  have RF := rowAt_setRow w3 w.heap.size _ Un.zero.cs R3
  have HW := Lib.hid (below_setRow (HB2.out.trans (hb3.mono (by go_size))) Un.zero.cs (Nat.le_refl w.heap.size))
  clear hb3 R9
  go_wp2_with fail
  exact ret_un rfl rfl w.heap.size Un.zero rfl RF ⟨rfl, HW.out⟩
end

/-!
  Layer 22 (audit): what a call on the heap, and on the index, leaves of a sound volume.
-/
section
open Go.RowKit Go.Joins
set_option linter.unusedVariables false
set_option linter.unusedSimpArgs false

/-- what a call leaves -/
def Out (S : Vol) (n : Nat) (er : Int) (S' : Vol) : Prop := S'.Fit n ∧ S'.base = S.base ∧ (er = 0 → ∃ d m P, MVol S' d m n P)
theorem Out.same {S : Vol} {n : Nat} {er : Int} (hf : S.Fit n) (he : er ≠ 0) : Out S n er S := ⟨hf, rfl, fun e => absurd e he⟩
theorem put_base (S : Vol) (k : Int) (p : Pg) : (S.put k p).base = S.base := rfl
theorem MVol.findIs {S : Vol} {d m : Pg} {n : Nat} {P : Nat → Part} (h : MVol S d m n P) (k : Nat) (hk : k < 6) (b mb hb pb : Nat) :
    (P k = .nil ∧ FindIs S b mb hb pb ((k : Int) + 1) 0 0 0 190) ∨ (∃ C r, P k = .heap C ∧ FindIs S b mb hb pb ((k : Int) + 1) 1 r (d.a k) 0) ∨ (∃ kd N, ∃ T : Tr N, P k = .tree kd N T ∧ (kd = 2 ∨ kd = 3) ∧ FindIs S b mb hb pb ((k : Int) + 1) kd (Tr.id N T) (d.a k) 0) := by
  have h1 := h.part k hk
  have h2 := h.own k hk
  have hn := h.lt
  cases hp : P k with
  | nil =>
    rw [hp] at h1
    exact .inl ⟨rfl, fun w hs => find_none22 b mb hb pb w hs h.vol k hk h1⟩
  | heap C =>
    rw [hp] at h1 h2
    obtain ⟨a1, ⟨r, a2, a3⟩, a4⟩ := h1
    have hr := h2 r (List.mem_of_getElem? a2)
    exact .inr (.inl ⟨C, r, rfl, fun w hs => find_st b mb hb pb w hs h.vol k hk (by omega) 1 r (by omega) (by omega) (by omega) (by omega) a3 _ rfl _ rfl⟩)
  | tree kd N T =>
    rw [hp] at h1 h2
    obtain ⟨a1, a2, a3, -⟩ := h1
    have hr := h2 _ (id_mem N T)
    exact .inr (.inr ⟨kd, N, T, rfl, a2, fun w hs => find_st b mb hb pb w hs h.vol k hk (by omega) kd _ (by omega) (by omega) (by omega) (by omega) a3 _ rfl _ rfl⟩)
/-- a store's heap is there, or is not to be had -/
theorem MVol.heapOr {S : Vol} {d m : Pg} {n : Nat} {P : Nat → Part} (h : MVol S d m n P) (k : Nat) (hk : k < 6) (b mb hb pb : Nat) : (∃ C, P k = .heap C ∧ d.a k = 1) ∨ ∃ x, RootBad S b mb hb pb ((k : Int) + 1) x := by
  rcases h.findIs k hk b mb hb pb with ⟨-, hf⟩ | ⟨C, r, hp, hf⟩ | ⟨kd, N, T, hp, hkd, hf⟩
  · exact .inr ⟨_, groot_none hf (by decide)⟩
  · by_cases e : d.a k = 1
    · exact .inl ⟨C, hp, e⟩
    · exact .inr ⟨_, groot_other hf (.inr e)⟩
  · exact .inr ⟨_, groot_other hf (.inl (by omega))⟩
theorem MVol.treeOr {S : Vol} {d m : Pg} {n : Nat} {P : Nat → Part} (h : MVol S d m n P) (k : Nat) (hk : k < 6) (b mb hb pb : Nat) : (∃ kd N, ∃ T : Tr N, P k = .tree kd N T ∧ d.a k = 1) ∨ ∃ x, OpenBad S b mb hb pb ((k : Int) + 1) x := by
  rcases h.findIs k hk b mb hb pb with ⟨-, hf⟩ | ⟨C, r, hp, hf⟩ | ⟨kd, N, T, hp, hkd, hf⟩
  · exact .inr ⟨_, open_none hf (by decide)⟩
  · exact .inr ⟨_, open_other hf (.inl (by omega))⟩
  · by_cases e : d.a k = 1
    · exact .inl ⟨kd, N, T, hp, e⟩
    · exact .inr ⟨_, open_other hf (.inr e)⟩
theorem rec_pg {q : Pg} {i : Nat} {x : Int} {v : ByteArray} (hi : i < 6) (hq : okPg q = true) (hx : x = 1 ∨ x = 2) (hv : v.size ≤ 32) (hs : ∀ j, j < 6 → (q.d j).size ≤ 32) :
    ((q.setC i x v).k = q.k ∧ (q.setC i x v).s = q.s ∧ (q.setC i x v).n = q.n) ∧ okPg (q.setC i x v) = true ∧ ∀ j, j < 6 → ((q.setC i x v).d j).size ≤ 32 := by
  obtain ⟨h1, -, h3, h4⟩ := h_setC q i hi x v
  refine ⟨⟨h1, h3, h4⟩, ok_setC hq i hi x v ?_, fun j hj => ?_⟩
  · rcases hx with rfl | rfl
    · simp [okC]; omega
    · simp [okC]; omega
  · rw [d_setC q i j hi hj x v]
    split
    · exact hv
    · exact hs j hj
theorem fresh_sz (st : Int) (j : Nat) (hj : j < 6) : ((freshG st).d j).size ≤ 32 := okDatas _ _ j hj
section
variable {Q : Nat → Prop} {w0 w : World} {b hb : Nat} {S : Vol} {d m : Pg} {n : Nat} {P : Nat → Part}
/-- a record's page of a heap, by its place in the chain -/
theorem MVol.heapAt (h : MVol S d m n P) {k : Nat} (hk : k < 6) {C : List Int} (hp : P k = .heap C) (i : Nat) (hi : i < C.length) :
    (((C.map Int.toNat).getD i 0 : Nat) : Int) ∈ C ∧ okPg (stPg S (((C.map Int.toNat).getD i 0 : Nat) : Int)) = true ∧ (∀ j, j < 6 → ((stPg S (((C.map Int.toNat).getD i 0 : Nat) : Int)).d j).size ≤ 32) ∧ 2 ≤ (((C.map Int.toNat).getD i 0 : Nat) : Int) ∧ (((C.map Int.toNat).getD i 0 : Nat) : Int) < n := by
  have h1 := h.part k hk
  have h2 := h.own k hk
  rw [hp] at h1 h2
  have hge : ∀ id ∈ C, 2 ≤ id := fun id hid => (h2 id hid).1
  have h3 := getD_nat hge i hi
  have h4 := h1.2.2.ok i hi
  rw [h3]
  exact ⟨List.getElem_mem hi, h4.2.2.2.2, h4.2.2.2.1, h2 _ (List.getElem_mem hi)⟩
theorem sInsert (h : MVol S d m n P) (hf : S.Fit n) (val : ByteArray) (L : Lay Q w0 w b hb S) :
    Calls Tryz.prog 23 #[.pointer (some ⟨b, 0, none⟩), .int .i64 1, .string val, .slice none 0 0] w fun e w' => ∃ id u er S', e = .returned (.tuple #[.int .i64 id, Un.v u, .int .i64 er]) ∧ Lay Q w0 w' b hb S' ∧ Out S n er S' := by
  by_cases hv : val.size ≤ 32
  · obtain ⟨mb, pb, hs, h4⟩ := L.at'
    rcases h.heapOr 0 (by omega) b mb hb pb with ⟨C, hp, hl⟩ | ⟨x, hr⟩
    · have hg := h.gh (by omega) hp hl
      refine (ginsert_any hg b mb hb pb val hv w hs).mono ?_
      rintro e w' (⟨g, a, i, S1, q, rfl, hpl, hi, -, hgr, hs'⟩ | ⟨rfl, -, hgr, hs'⟩)
      · refine ⟨_, _, 0, _, rfl, Lay.write L.keep L.dom h4 hgr hs', ?_⟩
        rcases hpl with ⟨-, rfl, k, hk, rfl, rfl, -⟩ | ⟨-, -, rfl, S0, m0, ht, rfl⟩
        · have hk' : k < C.length := by simpa using hk
          obtain ⟨c1, c2, c3, c4, c5⟩ := h.heapAt (by omega) hp k hk'
          have hq : (C.map (stPg S1))[k] = stPg S1 (((C.map Int.toNat).getD k 0 : Nat) : Int) := (hg.pg k hk).symm
          rw [hq]
          obtain ⟨r1, r2, r3⟩ := rec_pg (x := 1) hi c2 (.inl rfl) hv c3
          exact ⟨hf.put _ _ (by omega) c5 r2, rfl, fun _ => ⟨d, m, P, h.heapPut (by omega) hp c1 _ r1 r2 r3⟩⟩
        · obtain ⟨t1, t2, t3, t4, -⟩ := takeV_some h.vol ht
          have hpos : 0 < C.length := by simpa using hg.pos
          obtain ⟨c1, c2, c3, c4, c5⟩ := h.heapAt (by omega) hp (C.length - 1) (by omega)
          have hla : C[C.length - 1]? = some (((C.map Int.toNat).getD (C.length - 1) 0 : Nat) : Int) := by
            have h2 := h.own 0 (by omega)
            rw [hp] at h2
            replace h2 : ∀ id ∈ C, 2 ≤ id ∧ id < (n : Int) := h2
            rw [getD_nat (fun id hid => (h2 id hid).1) (C.length - 1) (by omega), List.getElem?_eq_getElem (by omega)]
          have hlp : ((C.map (stPg S)).getD (C.length - 1) Pg.zero) = stPg S (((C.map Int.toNat).getD (C.length - 1) 0 : Nat) : Int) :=
            (getD_get (by simp; omega)).trans (hg.pg (C.length - 1) (by simp; omega)).symm
          have hlen : (C.map (stPg S)).length - 1 = C.length - 1 := by simp
          rw [hlen, hlp]
          have hfo := freshG_ok (((0 : Nat) : Int) + 1) (by omega)
          have hgrow := h.heapGrow (by omega) hp ht _ hla (freshG (((0 : Nat) : Int) + 1)) ⟨rfl, rfl, rfl⟩ hfo (fresh_sz _)
          obtain ⟨r1, r2, r3⟩ := rec_pg (x := 1) hi hfo (.inl rfl) hv (fresh_sz _)
          have hn := h.lt
          have hff : ((S0.put (((C.map Int.toNat).getD (C.length - 1) 0 : Nat) : Int) ((stPg S (((C.map Int.toNat).getD (C.length - 1) 0 : Nat) : Int)).link (a : Int))).put (a : Int) (freshG (((0 : Nat) : Int) + 1))).Fit n := by
            rw [t1]
            exact ((mark_fit h.vol hf (Nat.le_refl _) a true t4).put _ _ (by omega) c5 (link_ok c2 (by omega) (by omega))).put _ _ (by omega) (by omega) hfo
          have e0 : ((0 : Nat) : Int) + 1 = 1 := rfl
          refine ⟨hff.put _ _ (by omega) (by omega) r2, by rw [t1]; rfl, fun _ => ⟨d, m0, _, hgrow.heapPut (k := 0) (by omega) (setP_same _ _ _) (id := (a : Int)) (by simp) _ ?_ r2 r3⟩⟩
          rw [stPg_put, if_pos rfl]
          exact r1
      · exact ⟨_, Un.zero, 140, S, rfl, Lay.write L.keep L.dom h4 hgr hs', Out.same hf (by decide)⟩
    · refine (ginsert_bad hr val hv w hs).mono ?_
      rintro e w' ⟨rfl, hb'⟩
      exact ⟨_, Un.zero, x, S, rfl, L.step hb', Out.same hf hr.1⟩
  · refine (insert_long val _ _ _ _ _ (by omega) w).mono ?_
    rintro e w' ⟨rfl, hb'⟩
    exact ⟨_, Un.zero, 2, S, rfl, L.step hb', Out.same hf (by decide)⟩
theorem sDelete (h : MVol S d m n P) (hf : S.Fit n) (id : Int) (hid : id < 9223372036854775808) (L : Lay Q w0 w b hb S) :
    Calls Tryz.prog 24 #[.pointer (some ⟨b, 0, none⟩), .int .i64 1, .int .i64 id] w fun e w' => ∃ u er S', e = .returned (.tuple #[Un.v u, .int .i64 er]) ∧ Lay Q w0 w' b hb S' ∧ Out S n er S' := by
  obtain ⟨mb, pb, hs, h4⟩ := L.at'
  rcases h.heapOr 0 (by omega) b mb hb pb with ⟨C, hp, hl⟩ | ⟨x, hr⟩
  · have hg := h.gh (by omega) hp hl
    by_cases hhit : ∃ k, ∃ hk : k < (C.map (stPg S)).length, hitB ((C.map Int.toNat).getD k 0) (C.map (stPg S))[k] id = true
    · obtain ⟨k, hk, hit⟩ := hhit
      obtain ⟨f1, f2, f3, f4⟩ := hit_facts hit
      refine (gdelete_hit hg b mb hb pb id hid k hk hit w hs).mono ?_
      rintro e w' ⟨rfl, hgr, hs'⟩
      refine ⟨_, 0, _, rfl, Lay.write L.keep L.dom h4 hgr hs', ?_⟩
      have hk' : k < C.length := by simpa using hk
      obtain ⟨c1, c2, c3, c4, c5⟩ := h.heapAt (by omega) hp k hk'
      have hq : (C.map (stPg S))[k] = stPg S (((C.map Int.toNat).getD k 0 : Nat) : Int) := (hg.pg k hk).symm
      rw [hq]
      have hi : (id % 8).toNat < 6 := by omega
      obtain ⟨r1, r2, r3⟩ := rec_pg (x := 2) (v := (stPg S (((C.map Int.toNat).getD k 0 : Nat) : Int)).d (id % 8).toNat) hi c2 (.inr rfl) (c3 _ hi) c3
      exact ⟨hf.put _ _ (by omega) c5 r2, rfl, fun _ => ⟨d, m, P, h.heapPut (by omega) hp c1 _ r1 r2 r3⟩⟩
    · have hno : ∀ k (hk : k < (C.map (stPg S)).length), hitB ((C.map Int.toNat).getD k 0) (C.map (stPg S))[k] id = false := fun k hk => by
        cases hq : hitB ((C.map Int.toNat).getD k 0) (C.map (stPg S))[k] id with
        | false => rfl
        | true => exact absurd ⟨k, hk, hq⟩ hhit
      refine (gdelete_miss hg b mb hb pb id hid hno w hs).mono ?_
      rintro e w' ⟨rfl, hb'⟩
      exact ⟨Un.zero, 150, S, rfl, L.step hb', Out.same hf (by decide)⟩
  · refine (gdelete_bad hr id w hs).mono ?_
    rintro e w' ⟨rfl, hb'⟩
    exact ⟨Un.zero, x, S, rfl, L.step hb', Out.same hf hr.1⟩
theorem sPut (h : MVol S d m n P) (hf : S.Fit n) (key : ByteArray) (ka : Option Addr) (kc : Nat) (kp : List ByteArray) (hkp : StrIn w ka kp) (L : Lay Q w0 w b hb S) :
    Calls Tryz.prog 25 #[.pointer (some ⟨b, 0, none⟩), .int .i64 2, .string key, .string ⟨#[]⟩, .slice ka kp.length kc] w fun e w' => ∃ u er S', e = .returned (.tuple #[Un.v u, .int .i64 er]) ∧ Lay Q w0 w' b hb S' ∧ Out S n er S' := by
  by_cases hk : KeyOk key
  · obtain ⟨mb, pb, hs, h4⟩ := L.at'
    rcases h.treeOr 1 (by omega) b mb hb pb with ⟨kd, N, T, hp, hl⟩ | ⟨x, ho⟩
    · have hg := h.gx (by omega) hp hl
      have e2 : (((1 : Nat) : Int) + 1) = 2 := rfl
      rw [e2] at hg
      refine (gput_any hg key ⟨#[]⟩ hk (Nat.zero_le _) ka kc kp b mb hb pb w hs hkp).mono ?_
      rintro e w' ⟨u, er, S', rfl, hgr, hs', ho⟩
      obtain ⟨h1, h2, h3⟩ := gput_step hg hf (c := ⟨key, 1, ⟨#[]⟩⟩) ⟨.inl rfl, hk.1, hk.2, Nat.zero_le _⟩ ho
      refine ⟨u, er, S', rfl, Lay.write L.keep L.dom h4 hgr hs', h1, h2, fun e0 => ?_⟩
      obtain ⟨m', N', T', h5, h6, h7⟩ := h3 e0
      exact ⟨d, m', _, h.treeTo (k := 1) (by omega) hp hl h5 h6⟩
    · refine (tput_closed ho key ⟨#[]⟩ hk (Nat.zero_le _) ka kc kp w hs hkp).mono ?_
      rintro e w' ⟨rfl, hb'⟩
      exact ⟨Un.zero, x, S, rfl, L.step hb', Out.same hf ho.1⟩
  · refine (tput_bad (.pointer (some ⟨b, 0, none⟩)) 2 key ⟨#[]⟩ (fun hh => hk hh.1) (.slice ka kp.length kc) w).mono ?_
    rintro e w' ⟨rfl, hb'⟩
    refine ⟨Un.zero, _, S, rfl, L.step hb', Out.same hf ?_⟩
    rw [if_neg hk]; decide
theorem sCut (h : MVol S d m n P) (hf : S.Fit n) (key : ByteArray) (L : Lay Q w0 w b hb S) :
    Calls Tryz.prog 26 #[.pointer (some ⟨b, 0, none⟩), .int .i64 2, .string key] w fun e w' => ∃ u er S', e = .returned (.tuple #[Un.v u, .int .i64 er]) ∧ Lay Q w0 w' b hb S' ∧ Out S n er S' := by
  by_cases hk : KeyOk key
  · obtain ⟨mb, pb, hs, h4⟩ := L.at'
    rcases h.treeOr 1 (by omega) b mb hb pb with ⟨kd, N, T, hp, hl⟩ | ⟨x, ho⟩
    · have hg := h.gx (by omega) hp hl
      have e2 : (((1 : Nat) : Int) + 1) = 2 := rfl
      rw [e2] at hg
      refine (gcut_any hg key hk b mb hb pb w hs).mono ?_
      rintro e w' ⟨u, er, S', rfl, hgr, hs', ho⟩
      refine ⟨u, er, S', rfl, Lay.write L.keep L.dom h4 hgr hs', ?_⟩
      rcases ho with ⟨rfl, -, rfl, -⟩ | ⟨x, hx, hxk, hxs, rfl, -, rfl⟩
      · exact Out.same hf (by decide)
      · obtain ⟨pre, post, hlv, -⟩ := gleaf_in hg key
        have hmem : Tr.leaf key N T ∈ Tr.leaves N T := by rw [hlv]; simp
        have hlf : x.leaf := (hg.tree.leafOk _ hmem).1.2.2.1 rfl x hx
        have hc : (cutOf key x).leaf := ⟨.inr rfl, hk.1, hk.2, hlf.2.2.2⟩
        have hset := gsetT_ok hg hc
        have hid := leaf_ids hmem
        have hi2 : 2 ≤ (Tr.leaf key N T).1 := hset.id2
        refine ⟨hf.put _ _ (by omega) hset.idn hset.ok, rfl, fun _ => ⟨d, m, _, h.treeTo (k := 1) (by omega) hp hl hset.idx ?_⟩⟩
        rw [setT_ids]
        exact Fr.put S m n _ hid _
    · refine (tcut_closed ho key hk w hs).mono ?_
      rintro e w' ⟨rfl, hb'⟩
      exact ⟨Un.zero, x, S, rfl, L.step hb', Out.same hf ho.1⟩
  · refine (tcut_bad (.pointer (some ⟨b, 0, none⟩)) 2 key hk w).mono ?_
    rintro e w' ⟨rfl, hb'⟩
    exact ⟨Un.zero, 1, S, rfl, L.step hb', Out.same hf (by decide)⟩
end
end

/-!
  Layer 22 (audit): what Make, Forget and State leave of a sound volume.
-/
section
open Go.RowKit Go.Joins
set_option linter.unusedVariables false
set_option linter.unusedSimpArgs false

set_option maxHeartbeats 2000000 in
set_option maxRecDepth 100000 in
theorem forget_bad22 {P : Nat → Prop} {w0 w : World} {b hb : Nat} {S : Vol} {d m : Pg} {n : Nat} (L : Lay P w0 w b hb S) (h : VolOk S d m n) (st : Int) (hst : st < 1 ∨ 6 < st ∨ ∃ k : Nat, k < 6 ∧ st = (k : Int) + 1 ∧ d.a k = 0) :
    Calls Tryz.prog 27 #[.pointer (some ⟨b, 0, none⟩), .int .i64 st] w fun e w' => e = .returned (.int .i64 1) ∧ Lay P w0 w' b hb S := by
  obtain ⟨mb, pb, hs, h4⟩ := L.at'
  have HD := Lib.hid (fun w' hh => dir_ok S b mb hb pb d w' hh h.dir)
  have HS := Lib.hid hs
  have HL := Lib.hid L
  by_cases k1 : st < 1
  · clear hs h L hst h4
    go_enter Tryz.func27, Tryz.ntmps27
    go_wp2_with fail
    refine (HD.out _ HS.out).mono ?_; rintro e w1 ⟨rfl, hb1⟩
    have hsz := hb1.size
    have HB1 := Lib.hid hb1
    clear hb1
    go_wp2_with fail
    go_ret
    exact ⟨rfl, HL.out.step (HB1.out.alloc (by omega) (.cells d.cs 38))⟩
  by_cases k2 : 6 < st
  · clear hs h L hst h4
    go_enter Tryz.func27, Tryz.ntmps27
    go_wp2_with fail
    refine (HD.out _ HS.out).mono ?_; rintro e w1 ⟨rfl, hb1⟩
    have hsz := hb1.size
    have HB1 := Lib.hid hb1
    clear hb1
    go_wp2_with fail
    go_ret
    exact ⟨rfl, HL.out.step (HB1.out.alloc (by omega) (.cells d.cs 38))⟩
  · obtain ⟨k, hk, rfl, ha⟩ := (hst.resolve_left k1).resolve_left k2
    have ca := cs_a d k hk
    rw [ha] at ca
    clear hs h L hst h4 k1 k2 ha
    go_enter Tryz.func27, Tryz.ntmps27
    go_wp2_with fail
    refine (HD.out _ HS.out).mono ?_; rintro e w1 ⟨rfl, hb1⟩
    have hsz := hb1.size
    have HB1 := Lib.hid hb1
    clear hb1
    go_wp2_with fail
    go_ret
    exact ⟨rfl, HL.out.step (HB1.out.alloc (by omega) (.cells d.cs 38))⟩

set_option maxHeartbeats 2000000 in
set_option maxRecDepth 100000 in
theorem state_bad22 {P : Nat → Prop} {w0 w : World} {b hb : Nat} {S : Vol} {d m : Pg} {n : Nat} (L : Lay P w0 w b hb S) (h : VolOk S d m n) (st : Int) (hst : st < 1 ∨ 6 < st ∨ ∃ k : Nat, k < 6 ∧ st = (k : Int) + 1 ∧ d.a k = 0) :
    Calls Tryz.prog 28 #[.pointer (some ⟨b, 0, none⟩), .int .i64 st, .int .i64 2] w fun e w' => e = .returned (.int .i64 1) ∧ Lay P w0 w' b hb S := by
  obtain ⟨mb, pb, hs, h4⟩ := L.at'
  have HD := Lib.hid (fun w' hh => dir_ok S b mb hb pb d w' hh h.dir)
  have HS := Lib.hid hs
  have HL := Lib.hid L
  by_cases k1 : st < 1
  · clear hs h L hst h4
    go_enter Tryz.func28, Tryz.ntmps28
    go_wp2_with fail
    refine (HD.out _ HS.out).mono ?_; rintro e w1 ⟨rfl, hb1⟩
    have hsz := hb1.size
    have HB1 := Lib.hid hb1
    clear hb1
    go_wp2_with fail
    go_ret
    exact ⟨rfl, HL.out.step (HB1.out.alloc (by omega) (.cells d.cs 38))⟩
  by_cases k2 : 6 < st
  · clear hs h L hst h4
    go_enter Tryz.func28, Tryz.ntmps28
    go_wp2_with fail
    refine (HD.out _ HS.out).mono ?_; rintro e w1 ⟨rfl, hb1⟩
    have hsz := hb1.size
    have HB1 := Lib.hid hb1
    clear hb1
    go_wp2_with fail
    go_ret
    exact ⟨rfl, HL.out.step (HB1.out.alloc (by omega) (.cells d.cs 38))⟩
  · obtain ⟨k, hk, rfl, ha⟩ := (hst.resolve_left k1).resolve_left k2
    have ca := cs_a d k hk
    rw [ha] at ca
    clear hs h L hst h4 k1 k2 ha
    go_enter Tryz.func28, Tryz.ntmps28
    go_wp2_with fail
    refine (HD.out _ HS.out).mono ?_; rintro e w1 ⟨rfl, hb1⟩
    have hsz := hb1.size
    have HB1 := Lib.hid hb1
    clear hb1
    go_wp2_with fail
    go_ret
    exact ⟨rfl, HL.out.step (HB1.out.alloc (by omega) (.cells d.cs 38))⟩

/-- one store is otherwise, and the others are as they were -/
theorem MVol.redo {S S' : Vol} {d d' m m' : Pg} {n : Nat} {P : Nat → Part} (h : MVol S d m n P) (k : Nat) (hk : k < 6) (p : Part) (hv : VolOk S' d' m' n) (hp : p.Ok S' d' k) (hnd : p.ids.Nodup) (hown : ∀ i ∈ p.ids, 2 ≤ i ∧ i < n)
    (hd : ∀ j, j < 6 → j ≠ k → d'.a j = d.a j ∧ d'.d j = d.d j) (hpage : ∀ i : Int, 2 ≤ i → i < n → i ∉ p.ids → stPg S' i = stPg S i) (hap : ∀ j, j < 6 → j ≠ k → ∀ id ∈ (P j).ids, id ∉ p.ids)
    (hbits : ∀ i : Nat, i < n → (bitAt m' i = true ↔ i < 2 ∨ (∃ j, j < 6 ∧ j ≠ k ∧ (i : Int) ∈ (P j).ids) ∨ (i : Int) ∈ p.ids)) : MVol S' d' m' n (setP P k p) := by
  refine ⟨hv, fun j hj => ?_, fun j hj id hid => ?_, fun j hj => ?_, fun i hi j hj hij id hid hid' => ?_, fun i hi => ?_⟩
  · by_cases e : j = k
    · subst e; rw [setP_same]; exact hp
    · rw [setP_other _ _ _ e]
      refine (h.part j hj).frame (fun id hid => ?_) (hd j hj e).1 (hd j hj e).2
      have h1 := h.own j hj id hid
      have h0 := h.vol.there id.toNat (by omega)
      have h0' := hv.there id.toNat (by omega)
      rw [Int.toNat_of_nonneg (by omega)] at h0 h0'
      exact ⟨hpage id h1.1 h1.2 (hap j hj e id hid), h0'.trans h0.symm⟩
  · by_cases e : j = k
    · subst e; rw [setP_same] at hid; exact hown id hid
    · rw [setP_other _ _ _ e] at hid; exact h.own j hj id hid
  · by_cases e : j = k
    · subst e; rw [setP_same]; exact hnd
    · rw [setP_other _ _ _ e]; exact h.nodup j hj
  · by_cases e1 : i = k
    · have e2 : j ≠ k := fun e => hij (e1.trans e.symm)
      subst e1
      rw [setP_same] at hid
      rw [setP_other _ _ _ e2] at hid'
      exact hap j hj e2 id hid' hid
    · rw [setP_other _ _ _ e1] at hid
      by_cases e2 : j = k
      · subst e2
        rw [setP_same] at hid'
        exact hap i hi e1 id hid hid'
      · rw [setP_other _ _ _ e2] at hid'
        exact h.apart i hi j hj hij id hid hid'
  · rw [hbits i hi]
    constructor
    · rintro (e | ⟨j, hj, hjk, e⟩ | e)
      · exact .inl e
      · exact .inr ⟨j, hj, by rw [setP_other _ _ _ hjk]; exact e⟩
      · exact .inr ⟨k, hk, by rw [setP_same]; exact e⟩
    · rintro (e | ⟨j, hj, e⟩)
      · exact .inl e
      · by_cases hjk : j = k
        · subst hjk; rw [setP_same] at e; exact .inr (.inr e)
        · rw [setP_other _ _ _ hjk] at e; exact .inr (.inl ⟨j, hj, hjk, e⟩)
/-- a new store's pages -/
def newPart (kind id : Int) : Part := if kind = 1 then .heap [id] else .tree kind 0 (mkLeaf id [])
theorem newPart_ids (kind id : Int) : (newPart kind id).ids = [id] := by
  unfold newPart
  split
  · rfl
  · simp [Part.ids, mkLeaf, Tr.ids]
theorem MVol.free {S : Vol} {d m : Pg} {n : Nat} {P : Nat → Part} (h : MVol S d m n P) {k : Nat} (hk : k < 6) (ha : d.a k = 0) : P k = .nil := by
  have h1 := h.part k hk
  cases hp : P k with
  | nil => rfl
  | heap C => rw [hp] at h1; have := h1.1; omega
  | tree kd N T => rw [hp] at h1; have := h1.1; omega
theorem MVol.used {S : Vol} {d m : Pg} {n : Nat} {P : Nat → Part} (h : MVol S d m n P) {k : Nat} (hk : k < 6) (ha : d.a k ≠ 0) : (d.a k = 1 ∨ d.a k = 2) ∧ ∃ kd r, d.d k = entryD kd r := by
  have h1 := h.part k hk
  cases hp : P k with
  | nil => rw [hp] at h1; exact absurd h1 ha
  | heap C => rw [hp] at h1; obtain ⟨a1, ⟨r, -, a3⟩, -⟩ := h1; exact ⟨a1, 1, r, a3⟩
  | tree kd N T => rw [hp] at h1; exact ⟨h1.1, kd, _, h1.2.2.1⟩
theorem MVol.made {S : Vol} {d m : Pg} {n : Nat} {P : Nat → Part} (h : MVol S d m n P) (k : Nat) (hk : k < 6) (ha : d.a k = 0) (id : Nat) (hid : id < n) (hf : bitAt m id = false) (kind : Int) (hkind : kind = 1 ∨ kind = 2 ∨ kind = 3) :
    MVol (S.made d m k id kind) (d.setC k 1 (entryD kind id)) (markPg m id true) n (setP P k (newPart kind id)) := by
  have hn := h.lt
  have h2 : 2 ≤ id := by
    by_cases e : 2 ≤ id
    · exact e
    · have := (h.bits id hid).2 (.inl (by omega))
      rw [hf] at this; cases this
  have hv := h.vol.make k id kind hk h2 hid
  have hPk := h.free hk ha
  have hno : ∀ j, j < 6 → ¬ (id : Int) ∈ (P j).ids := fun j hj hm => by
    have := (h.bits id hid).2 (.inr ⟨j, hj, hm⟩)
    rw [hf] at this; cases this
  have hroot : stPg (S.made d m k id kind) (id : Int) = { k := if kind = 1 then 3 else 4, s := (k : Int) + 1 } := by
    rw [Vol.made, stPg_put, if_neg (by omega), stPg_put, if_pos rfl]
  have hse : stE (S.made d m k id kind) (id : Int) = 0 := hv.there id hid
  have h1 : (d.setC k 1 (entryD kind id)).a k = 1 := by rw [a_setC _ _ _ hk hk, if_pos rfl]
  have hd1 : (d.setC k 1 (entryD kind id)).d k = entryD kind id := by rw [d_setC _ _ _ hk hk, if_pos rfl]
  refine h.redo k hk (newPart kind id) hv ?_ (by rw [newPart_ids]; simp) (fun i hi => ?_) (fun j hj hjk => ⟨by rw [a_setC _ _ _ hk hj, if_neg hjk], by rw [d_setC _ _ _ hk hj, if_neg hjk]⟩) (fun i hi0 hin hi => ?_) (fun j hj hjk i hi hi' => ?_) (fun i hi => ?_)
  · unfold newPart
    by_cases e : kind = 1
    · rw [if_pos e]
      rw [if_pos e] at hroot
      refine ⟨.inl h1, ⟨_, rfl, by rw [hd1, e]⟩, by simp, fun x hx => ?_, fun i hi => ?_⟩
      · obtain rfl : x = (id : Int) := by simpa using hx
        exact hse
      · obtain rfl : i = 0 := by simpa using hi
        simp only [List.getElem_cons_zero]
        rw [hroot]
        exact ⟨rfl, rfl, by simp, fun j hj => okDatas _ _ j hj, ok_root 3 k (by omega) (by omega) (by omega) (by omega)⟩
    · rw [if_neg e]
      rw [if_neg e] at hroot
      have hpn : stPg (S.made d m k id kind) (id : Int) = ndPg 0 ((k : Int) + 1) 0 [] := hroot.trans (emptyNd _)
      refine ⟨.inl h1, by omega, hd1, ⟨⟨trivial, ⟨by simp [mkLeaf, Tr.cells], List.Pairwise.nil, fun _ c hc => (by cases hc), fun h => absurd rfl h⟩, fun x hx => ?_, fun i hi => ?_, by omega⟩, ⟨hpn, trivial⟩, by simp [mkLeaf, Tr.ids], fun c hc => (by cases hc)⟩, trivial⟩
      · obtain rfl : x = ((id : Int), ([] : List NC)) := by simpa [mkLeaf, Tr.leaves] using hx
        exact ⟨0, by omega, hpn⟩
      · obtain rfl : i = (id : Int) := by simpa [mkLeaf, Tr.ids] using hi
        exact ⟨hse, by omega, by omega⟩
  · rw [newPart_ids] at hi
    obtain rfl : i = (id : Int) := by simpa using hi
    omega
  · rw [newPart_ids] at hi
    have hne : i ≠ (id : Int) := fun e => hi (by simp [e])
    rw [Vol.made, stPg_put, if_neg (by omega), stPg_put, if_neg hne, stPg_put, if_neg (by omega)]
  · rw [newPart_ids] at hi'
    obtain rfl : i = (id : Int) := by simpa using hi'
    exact hno j hj hi
  · rw [bitAt_lt h.vol i id true hi hid, newPart_ids]
    by_cases e : i = id
    · rw [if_pos e]
      exact ⟨fun _ => .inr (.inr (by simp [e])), fun _ => rfl⟩
    · rw [if_neg e, h.bits i hi]
      constructor
      · rintro (e1 | ⟨j, hj, e1⟩)
        · exact .inl e1
        · refine .inr (.inl ⟨j, hj, fun ejk => ?_, e1⟩)
          rw [ejk, hPk] at e1; cases e1
      · rintro (e1 | ⟨j, hj, -, e1⟩ | e1)
        · exact .inl e1
        · exact .inr ⟨j, hj, e1⟩
        · have : (i : Int) = (id : Int) := by simpa using e1
          omega
/-- each page of a tree is its store's -/
theorem TrIn.sof {S : Vol} {st : Int} : ∀ {n : Nat} {t : Tr n}, TrIn S st n t → ∀ i ∈ Tr.ids n t, (stPg S i).s = st
  | 0, t, h, i, hi => by
    obtain rfl : i = t.1 := by simpa [Tr.ids] using hi
    obtain ⟨nx, -, hp⟩ := h.leaves (t.1, t.2) (List.mem_cons_self ..)
    rw [hp]; rfl
  | n + 1, t, h, i, hi => by
    rcases List.mem_cons.1 hi with e | hi
    · rw [e, h.inner.1]; rfl
    · obtain ⟨x, hx, hm⟩ := List.mem_flatMap.1 hi
      exact (h.kid hx).sof i hm
theorem MVol.sof {S : Vol} {d m : Pg} {n : Nat} {P : Nat → Part} (h : MVol S d m n P) {k : Nat} (hk : k < 6) {i : Int} (hi : i ∈ (P k).ids) : (stPg S i).s = (k : Int) + 1 := by
  have h1 := h.part k hk
  cases hp : P k with
  | nil => rw [hp] at hi; cases hi
  | heap C =>
    rw [hp] at h1 hi
    obtain ⟨j, hj, hje⟩ := List.mem_iff_getElem.1 hi
    have hje' : C[j] = i := hje
    have := (h1.2.2.ok j hj).1
    rw [hje'] at this
    exact this
  | tree kd N T => rw [hp] at h1 hi; exact h1.2.2.2.1.tin.sof i hi
theorem MVol.forgot {S : Vol} {d m : Pg} {n : Nat} {P : Nat → Part} (h : MVol S d m n P) (k : Nat) (hk : k < 6) : MVol (S.forgot d m n k) (d.setC k 0 ByteArray.empty) (m.forgot S n k) n (setP P k .nil) := by
  have hv := (h.vol.forget k hk).2
  refine h.redo k hk .nil hv ?_ List.nodup_nil (fun i hi => by cases hi) (fun j hj hjk => ⟨by rw [a_setC _ _ _ hk hj, if_neg hjk], by rw [d_setC _ _ _ hk hj, if_neg hjk]⟩) (fun i hi0 hin hi => ?_) (fun j hj hjk i hi hi' => by cases hi') (fun i hi => ?_)
  · show (d.setC k 0 ByteArray.empty).a k = 0
    rw [a_setC _ _ _ hk hk, if_pos rfl]
  · rw [Vol.forgot, stPg_put, if_neg (by omega), frees_pg _ _ _ (by omega)]
  · rw [forgot_bit h.vol k i hi, Bool.and_eq_true, h.bits i hi]
    constructor
    · rintro ⟨e1 | ⟨j, hj, e1⟩, e2⟩
      · exact .inl e1
      · refine .inr (.inl ⟨j, hj, fun ejk => ?_, e1⟩)
        subst ejk
        have h3 := h.sof hk e1
        have h4 := h.own _ hk _ e1
        have h5 : 2 ≤ i := by omega
        simp [h3, h5] at e2
    · rintro (e1 | ⟨j, hj, hjk, e1⟩ | e1)
      · refine ⟨.inl e1, ?_⟩
        have : ¬ 2 ≤ i := by omega
        simp [this]
      · refine ⟨.inr ⟨j, hj, e1⟩, ?_⟩
        have h3 := h.sof hj e1
        have h4 : ¬ ((j : Int) + 1 = (k : Int) + 1) := by omega
        rw [h3]
        simp only [h4, decide_false, Bool.and_false, Bool.not_false]
      · cases e1
theorem MVol.ghost {S : Vol} {d m : Pg} {n : Nat} {P : Nat → Part} (h : MVol S d m n P) (k : Nat) (hk : k < 6) (ha : d.a k ≠ 0) (hsz : 0 < (d.d k).size) : MVol (S.put 0 (d.setA k 2)) (d.setA k 2) m n P := by
  have hv := (h.vol.setA k 2 hk (.inr rfl) hsz).2
  have hpk : (P k).Ok (S.put 0 (d.setA k 2)) (d.setA k 2) k := by
    have h1 := h.part k hk
    have h2 := h.own k hk
    have h3 : (P k).Ok (S.put 0 (d.setA k 2)) d k := h1.frame (fun id hid => by
      have := h2 id hid
      rw [stPg_put, stE_put, if_neg (by omega), if_neg (by omega)]
      exact ⟨rfl, rfl⟩) rfl rfl
    have ea : (d.setA k 2).a k = 2 := by rw [a_setA _ _ _ hk hk, if_pos rfl]
    cases hp : P k with
    | nil => rw [hp] at h3; exact absurd h3 ha
    | heap C => rw [hp] at h3; obtain ⟨a1, ⟨r, a2, a3⟩, a4⟩ := h3; exact ⟨.inr ea, ⟨r, a2, by rw [d_setA _ _ _ hk]; exact a3⟩, a4⟩
    | tree kd N T => rw [hp] at h3; obtain ⟨a1, a2, a3, a4, a5⟩ := h3; exact ⟨.inr ea, a2, by rw [d_setA _ _ _ hk]; exact a3, a4, a5⟩
  have hr := h.redo (S' := S.put 0 (d.setA k 2)) (d' := d.setA k 2) (m' := m) k hk (P k) hv hpk (h.nodup k hk) (h.own k hk) (fun j hj hjk => ⟨by rw [a_setA _ _ _ hk hj, if_neg hjk], d_setA _ _ _ hk _⟩) (fun i hi0 _ _ => by rw [stPg_put, if_neg (by omega)]) (fun j hj hjk => h.apart j hj k hk hjk) (fun i hi => by
    rw [h.bits i hi]
    constructor
    · rintro (e | ⟨j, hj, e⟩)
      · exact .inl e
      · by_cases ejk : j = k
        · subst ejk; exact .inr (.inr e)
        · exact .inr (.inl ⟨j, hj, ejk, e⟩)
    · rintro (e | ⟨j, hj, -, e⟩ | e)
      · exact .inl e
      · exact .inr ⟨j, hj, e⟩
      · exact .inr ⟨k, hk, e⟩)
  rw [setP_eq] at hr
  exact hr
section
variable {Q : Nat → Prop} {w0 w : World} {b hb : Nat} {S : Vol} {d m : Pg} {n : Nat} {P : Nat → Part}
theorem sMake (h : MVol S d m n P) (hf : S.Fit n) (kind : Int) (L : Lay Q w0 w b hb S) :
    Calls Tryz.prog 19 #[.pointer (some ⟨b, 0, none⟩), .int .i64 kind] w fun e w' => ∃ r er S', e = .returned (.tuple #[.int .i64 r, .int .i64 er]) ∧ Lay Q w0 w' b hb S' ∧ Out S n er S' := by
  by_cases hkind : 1 ≤ kind ∧ kind ≤ 3
  · by_cases hall : ∀ j, j < 6 → d.a j ≠ 0
    · refine (make_many L h.vol hall kind hkind).mono ?_
      rintro e w' ⟨rfl, L'⟩
      exact ⟨_, _, S, rfl, L', Out.same hf (by decide)⟩
    · obtain ⟨j0, hj0, ha0⟩ : ∃ j, j < 6 ∧ d.a j = 0 := by
        refine Classical.byContradiction fun hno => hall fun j hj ha => hno ⟨j, hj, ha⟩
      obtain ⟨k, hkj, hka, hkb⟩ := least (p := fun j => decide (d.a j ≠ 0)) j0 (by simp [ha0])
      have hk : k < 6 := by omega
      have ha : d.a k = 0 := by simpa using hka
      have hbef : ∀ j, j < k → d.a j ≠ 0 := fun j hj => by simpa using hkb j hj
      by_cases hfull : ∀ j, j < n → bitAt m j = true
      · refine (make_full22 L h.vol k hk ha hbef hfull kind hkind).mono ?_
        rintro e w' ⟨rfl, L'⟩
        exact ⟨_, _, S, rfl, L', Out.same hf (by decide)⟩
      · obtain ⟨i0, hi0, hb0⟩ : ∃ j, j < n ∧ bitAt m j = false := by
          refine Classical.byContradiction fun hno => hfull fun j hj => ?_
          cases hq : bitAt m j with
          | true => rfl
          | false => exact absurd ⟨j, hj, hq⟩ hno
        obtain ⟨id, hid0, hidb, hbelow⟩ := least (p := fun j => bitAt m j) i0 hb0
        have hid : id < n := by omega
        have hk3 : kind = 1 ∨ kind = 2 ∨ kind = 3 := by omega
        refine (make_lay L h.vol k hk ha hbef id hid hidb hbelow kind hk3 _ rfl).mono ?_
        rintro e w' ⟨rfl, L'⟩
        have h2 : 2 ≤ id := by
          by_cases e : 2 ≤ id
          · exact e
          · have := (h.bits id hid).2 (.inl (by omega))
            have hidb' : bitAt m id = false := hidb
            rw [hidb'] at this; cases this
        exact ⟨_, 0, _, rfl, L', made_fit h.vol hf (Nat.le_refl _) k id kind hk h2 hid, rfl, fun _ => ⟨_, _, _, h.made k hk ha id hid hidb kind hk3⟩⟩
  · refine (make_bad _ kind w (by omega)).mono ?_
    rintro e w' ⟨rfl, rfl⟩
    exact ⟨_, _, S, rfl, L, Out.same hf (by decide)⟩
theorem frees_base (st : Int) (l : List Nat) (S : Vol) (m : Pg) : (frees st l S m).1.base = S.base := by
  induction l generalizing S m with
  | nil => rfl
  | cons i r ih =>
    unfold frees
    split
    · rw [ih]; rfl
    · exact ih S m
theorem MVol.store (h : MVol S d m n P) (st : Int) : (st < 1 ∨ 6 < st ∨ ∃ k : Nat, k < 6 ∧ st = (k : Int) + 1 ∧ d.a k = 0) ∨ ∃ k : Nat, k < 6 ∧ st = (k : Int) + 1 ∧ d.a k ≠ 0 := by
  by_cases h1 : st < 1
  · exact .inl (.inl h1)
  · by_cases h6 : 6 < st
    · exact .inl (.inr (.inl h6))
    · by_cases ha : d.a (st.toNat - 1) = 0
      · exact .inl (.inr (.inr ⟨st.toNat - 1, by omega, by omega, ha⟩))
      · exact .inr ⟨st.toNat - 1, by omega, by omega, ha⟩
theorem sForget (h : MVol S d m n P) (hf : S.Fit n) (st : Int) (L : Lay Q w0 w b hb S) :
    Calls Tryz.prog 27 #[.pointer (some ⟨b, 0, none⟩), .int .i64 st] w fun e w' => ∃ er S', e = .returned (.int .i64 er) ∧ Lay Q w0 w' b hb S' ∧ Out S n er S' := by
  rcases h.store st with hbad | ⟨k, hk, hst, ha⟩
  · refine (forget_bad22 L h.vol st hbad).mono ?_
    rintro e w' ⟨rfl, L'⟩
    exact ⟨_, S, rfl, L', Out.same hf (by decide)⟩
  · refine (forget_lay L h.vol k hk ha st hst).mono ?_
    rintro e w' ⟨rfl, L'⟩
    exact ⟨0, _, rfl, L', forgot_fit h.vol hf (Nat.le_refl _) k hk, by rw [Vol.forgot]; exact frees_base _ _ _ _, fun _ => ⟨_, _, _, h.forgot k hk⟩⟩
theorem entry_pos (kd r : Int) : 0 < (entryD kd r).size := by
  have h1 : (le1 kd).size = 1 := rfl
  unfold entryD
  rw [ByteArray.size_append]
  omega
theorem sGhost (h : MVol S d m n P) (hf : S.Fit n) (st : Int) (L : Lay Q w0 w b hb S) :
    Calls Tryz.prog 28 #[.pointer (some ⟨b, 0, none⟩), .int .i64 st, .int .i64 2] w fun e w' => ∃ er S', e = .returned (.int .i64 er) ∧ Lay Q w0 w' b hb S' ∧ Out S n er S' := by
  rcases h.store st with hbad | ⟨k, hk, hst, ha⟩
  · refine (state_bad22 L h.vol st hbad).mono ?_
    rintro e w' ⟨rfl, L'⟩
    exact ⟨_, S, rfl, L', Out.same hf (by decide)⟩
  · obtain ⟨-, kd, r, hd⟩ := h.used hk ha
    have hsz : 0 < (d.d k).size := by rw [hd]; exact entry_pos kd r
    have h2 := h.vol.two
    have hhi := hf.hi
    refine (state_lay L h.vol k hk ha hsz st hst 2 (.inr rfl)).mono ?_
    rintro e w' ⟨rfl, L'⟩
    exact ⟨0, _, rfl, L', hf.put 0 _ (by omega) (by omega) (h.vol.setA k 2 hk (.inr rfl) hsz).1, rfl, fun _ => ⟨_, _, _, h.ghost k hk ha hsz⟩⟩
end
end
end Go.Proofs.YtljommhbhpappaaGreat
