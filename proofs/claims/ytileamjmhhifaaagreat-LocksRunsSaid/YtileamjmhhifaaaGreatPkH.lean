/-
  Several texts in one: Ld9c, Ld14.
-/
import Derived.Test.YtileamjmhhifaaaGreatLd9b
import Derived.Test.YtileamjmhhifaaaGreatLk25
import Derived.Test.YtileamjmhhifaaaGreatPkG
namespace Go.Proofs.YtileamjmhhifaaaGreat
/-!
  Layer 9 (locks): the document's Ask as a whole, and what it has to do with the table's.
-/
section
open Go.RowKit Go.Joins Go.Sort Go.Shelf
set_option linter.unusedVariables false
set_option linter.unusedSimpArgs false

/-- what Ask answers, and what it makes of the table -/
def badA (m : Int) : Prop := m ≤ 0 ∨ 6 < m
instance (m : Int) : Decidable (badA m) := by unfold badA; infer_instance
def askR (S : LS) (x : Int) (n : Nm) (m : Int) : Bool × Int := if badA m then (false, 1) else if S.wt x = true then (false, 211) else ((askQ (S.q n) x m S.turn).2.1, 0)
def askT (S : LS) (x : Int) (n : Nm) (m : Int) : LS := if badA m then S else if S.wt x = true then S else askS S x n m
theorem la_res {w0 w : World} {t : Nat} {O : Nat → Prop} {S : LS} {N : Nat} (h : LA w0 w t O S N) (hN : N ≤ 1000) (x m : Int) (n : Nm) : Calls Tryz.prog 8 #[.pointer (some ⟨t, 0, none⟩), .int .i64 x, .agg #[.int .i64 n.s, .string n.i], .int .i64 m] w fun e w' => e = .returned (.tuple #[.bool (askR S x n m).1, .int .i64 (askR S x n m).2]) ∧ ∃ O', LA w0 w' t O' (askT S x n m) (N + 1) ∧ Kept O O' w w' := by
  have hkb : ∀ {w' : World}, Below w.heap.size w w' → Kept O O w w' := fun hb => ⟨.of_below hb, fun i hi => .inl hi⟩
  by_cases hm : badA m
  · have e1 : askR S x n m = (false, 1) := if_pos hm
    have e2 : askT S x n m = S := if_pos hm
    rw [e1, e2]
    refine (ask_bad t x m n w hm).mono ?_
    rintro e w' ⟨rfl, hb⟩
    exact ⟨rfl, O, ⟨(h.below hb).lt.mono (by omega), (h.below hb).low⟩, hkb hb⟩
  · cases hx : S.wt x with
    | true =>
      have e1 : askR S x n m = (false, 211) := by unfold askR; rw [if_neg hm, if_pos hx]
      have e2 : askT S x n m = S := by unfold askT; rw [if_neg hm, if_pos hx]
      rw [e1, e2]
      unfold badA at hm
      refine (lt_busy h.lt x m n (by omega) (by omega) hx).mono ?_
      rintro e w' ⟨rfl, hb⟩
      exact ⟨rfl, O, ⟨(h.below hb).lt.mono (by omega), (h.below hb).low⟩, hkb hb⟩
    | false =>
      have hx2 : ¬ S.wt x = true := by rw [hx]; exact Bool.noConfusion
      have e1 : askR S x n m = ((askQ (S.q n) x m S.turn).2.1, 0) := by unfold askR; rw [if_neg hm, if_neg hx2]
      have e2 : askT S x n m = askS S x n m := by unfold askT; rw [if_neg hm, if_neg hx2]
      rw [e1, e2]
      unfold badA at hm
      exact la_ask h hN x m n (by omega) (by omega) hx
def hldR (R : List Dr) (x : Int) (n : Nm) (m T : Int) (b : Bool) (R' : List Dr) : Prop := ∃ i, ∃ hi : i < R.length, holdP x n R[i] = true ∧
  ((b = true ∧ (joinL R[i].m m = R[i].m ∨ freeD R x n (joinL R[i].m m)) ∧ R' = R.set i ⟨R[i].n, R[i].x, joinL R[i].m m, R[i].w, R[i].t⟩) ∨ (b = false ∧ ¬ (joinL R[i].m m = R[i].m ∨ freeD R x n (joinL R[i].m m)) ∧ R' = R.set i ⟨R[i].n, R[i].x, R[i].m, joinL R[i].m m, T + 1⟩))
/-- what the document's Ask answers, and what it makes of the rows -/
inductive AskD (R : List Dr) (T x : Int) (n : Nm) (m : Int) : Bool → Int → List Dr → Int → Prop
  | bad (h : m < 1 ∨ 6 < m) : AskD R T x n m false 1 R T
  | busy (h1 : 1 ≤ m) (h6 : m ≤ 6) (h : ∃ r ∈ R, r.x = x ∧ r.w ≠ 0) : AskD R T x n m false 211 R T
  | hold {b : Bool} {R' : List Dr} (h1 : 1 ≤ m) (h6 : m ≤ 6) (h : ¬ ∃ r ∈ R, r.x = x ∧ r.w ≠ 0) (hh : hldR R x n m T b R') : AskD R T x n m b 0 R' (T + 1)
  | new {b : Bool} {R' : List Dr} (h1 : 1 ≤ m) (h6 : m ≤ 6) (h : ¬ ∃ r ∈ R, r.x = x ∧ r.w ≠ 0) (hn : ∀ r ∈ R, ¬ holdP x n r = true) (hh : newR R x n m T b R') : AskD R T x n m b 0 R' (T + 1)
theorem AskD.len {R R' : List Dr} {T T' x m er : Int} {n : Nm} {b : Bool} (h : AskD R T x n m b er R' T') : R'.length ≤ R.length + 1 ∧ T ≤ T' ∧ T' ≤ T + 1 := by
  cases h with
  | bad _ => omega
  | busy _ _ _ => omega
  | hold _ _ _ hh =>
    obtain ⟨i, hi, -, ⟨-, -, rfl⟩ | ⟨-, -, rfl⟩⟩ := hh <;> (rw [List.length_set]; omega)
  | new _ _ _ _ hh =>
    rcases hh with ⟨-, -, rfl⟩ | ⟨-, -, rfl⟩ <;> (rw [List.length_append]; simp; omega)
theorem Kept.of_low {O : Nat → Prop} {w w' : World} (h : Gr w w') : Kept O O w w' := ⟨.of_below h.below, fun i hi => .inl hi⟩
theorem dask_any {w : World} {B tb : Nat} {rv : Value} {R : List Dr} {T : Int} (h : DAt w B tb rv R T) (hT : 0 ≤ T ∧ T ≤ 1000000) (hl : R.length ≤ 1000) (hB : B ≤ w.heap.size) (x m : Int) (n : Nm) :
    Calls Tryz.prog 9 #[.pointer (some ⟨tb, 0, none⟩), .int .i64 x, .agg #[.int .i64 n.s, .string n.i], .int .i64 m] w fun e w' => ∃ b er R' T' rv', e = .returned (.tuple #[.bool b, .int .i64 er]) ∧ AskD R T x n m b er R' T' ∧ DAt w' B tb rv' R' T' ∧ Kept (OD tb rv) (OD tb rv') w w' := by
  by_cases hm : m < 1 ∨ 6 < m
  · refine (dask_bad tb x m n w hm).mono ?_
    rintro e w' ⟨rfl, hg⟩
    exact ⟨_, _, _, _, _, rfl, .bad hm, h.below hg.below, .of_low hg⟩
  have h1 : 1 ≤ m := by omega
  have h6 : m ≤ 6 := by omega
  by_cases hx : ∃ r ∈ R, r.x = x ∧ r.w ≠ 0
  · refine (dask_busy h x m n h1 h6 hx).mono ?_
    rintro e w' ⟨rfl, hg⟩
    exact ⟨_, _, _, _, _, rfl, .busy h1 h6 hx, h.below hg.below, .of_low hg⟩
  rcases idxD_cases (holdP x n) R with ⟨e, hno⟩ | ⟨i, hi, e, hp⟩
  · refine (dask_new h hT hl hB x m n h1 h6 hx e).mono ?_
    rintro e w' ⟨b, R', rv', rfl, hn, hd, hk⟩
    exact ⟨_, _, _, _, _, rfl, .new h1 h6 hx hno hn, hd, hk⟩
  · refine (dask_hold h hT x m n h1 h6 hx i hi e).mono ?_
    rintro e w' ⟨b, R', rfl, hn, hd, hk⟩
    exact ⟨_, _, _, _, _, rfl, .hold h1 h6 hx ⟨i, hi, hp, hn⟩, hd, hk, fun i hi => .inl hi⟩
/-- the two tables stand for one another -/
structure Twins (S : LS) (R : List Dr) (T : Int) : Prop where
  ok : OkS S
  tb : TB S
  dok : DOk R T
  sim : ∀ n, SimD (S.q n) R n
theorem Twins.empty : Twins LS.empty [] 0 := ⟨.empty, .empty, ⟨List.Pairwise.nil, fun r h => (by cases h), fun a h => (by cases h), fun r h => (by cases h), fun r h => (by cases h)⟩, fun n => .empty n⟩
theorem Twins.wait {S : LS} {R : List Dr} {T : Int} (h : Twins S R T) (x : Int) : S.wt x = true ↔ ∃ r ∈ R, r.x = x ∧ r.w ≠ 0 := by
  rw [h.ok.wait x]
  constructor
  · rintro ⟨n, hn⟩
    obtain ⟨r, hr, -, rx, rw'⟩ := ((h.sim n).waits h.dok x).1 hn
    exact ⟨r, hr, rx, rw'⟩
  · rintro ⟨r, hr, rx, rw'⟩
    exact ⟨r.n, ((h.sim r.n).waits h.dok x).2 ⟨r, hr, rfl, rx, rw'⟩⟩
theorem Twins.release {S S' : LS} {R R' : List Dr} {T x : Int} (h : Twins S R T) (hr : RelS x S S') (hg : GivesAll (namesD x R) (remD x R) R') : Twins S' R' T := by
  obtain ⟨h1, h2⟩ := sim_release h.ok h.dok h.sim hr hg
  exact ⟨h.ok.rel hr, h.tb.rel hr, h1, h2⟩
theorem Twins.ask {S : LS} {R R' : List Dr} {T T' x m er : Int} {n : Nm} {b : Bool} (h : Twins S R T) (ha : AskD R T x n m b er R' T') : Twins (askT S x n m) R' T' ∧ askR S x n m = (b, er) := by
  have fin : ∀ {R1 : List Dr} {T1 : Int}, 1 ≤ m → m ≤ 6 → (¬ ∃ r ∈ R, r.x = x ∧ r.w ≠ 0) → DOk R1 T1 → SimD (askQ (S.q n) x m S.turn).1 R1 n → (∀ z : Dr, z.n ≠ n → (z ∈ R1 ↔ z ∈ R)) → Twins (askT S x n m) R1 T1 ∧ askR S x n m = ((askQ (S.q n) x m S.turn).2.1, 0) := fun {R1 T1} h1 h6 hx hd hs ho => by
    have hw : ¬ S.wt x = true := fun e => hx ((h.wait x).1 e)
    have hw2 : S.wt x = false := by simpa using hw
    have hb : ¬ badA m := by unfold badA; omega
    unfold askT askR
    rw [if_neg hb, if_neg hb, if_neg hw, if_neg hw]
    refine ⟨⟨h.ok.ask n hw2 ⟨h1, h6⟩, h.tb.ask x n m, hd, fun k => ?_⟩, rfl⟩
    show SimD (if k = n then (askQ (S.q n) x m S.turn).1 else S.q k) R1 k
    by_cases e : k = n
    · rw [if_pos e, e]; exact hs
    · rw [if_neg e]; exact (h.sim k).congr fun z hz => ho z fun e2 => e (hz.symm.trans e2)
  cases ha with
  | bad hm =>
    have hb : badA m := by unfold badA; omega
    unfold askT askR
    rw [if_pos hb, if_pos hb]
    exact ⟨h, rfl⟩
  | busy h1 h6 hx =>
    have hb : ¬ badA m := by unfold badA; omega
    have hw := (h.wait x).2 hx
    unfold askT askR
    rw [if_neg hb, if_neg hb, if_pos hw, if_pos hw]
    exact ⟨h, rfl⟩
  | hold h1 h6 hx hh =>
    obtain ⟨i, hi, hp, hc⟩ := hh
    obtain ⟨p1, p2, p3⟩ := holdP_iff.1 hp
    have hr := List.getElem_mem hi
    have hnw : ¬ waitsIn R[i].x (S.q n) := fun e => by
      obtain ⟨r, hr2, -, rx, rw'⟩ := ((h.sim n).waits h.dok _).1 e
      exact hx ⟨r, hr2, rx.trans p1, rw'⟩
    have hq := ask_hold (t := S.turn) (h.ok.ok n).pre h.dok (h.sim n) hr p2 p3 hnw (h.tb.2 n) (m := m) ⟨h1, h6⟩
    rw [p1] at hq
    have hoth : ∀ r' : Dr, r'.n = R[i].n → ∀ z : Dr, z.n ≠ n → (z ∈ R.set i r' ↔ z ∈ R) := fun r' hn z hz => by
      rw [updR_set h.dok hi]
      exact upd_other h.dok hr hn fun e => hz (e.trans p2)
    have hset : ∀ r' : Dr, R.set i r' = updR R R[i] r' := fun r' => updR_set h.dok hi r'
    rcases hc with ⟨rfl, hc, rfl⟩ | ⟨rfl, hc, rfl⟩
    · obtain ⟨q1, q2, q3⟩ := hq.1 hc
      have ho := hoth ⟨R[i].n, R[i].x, joinL R[i].m m, R[i].w, R[i].t⟩ rfl
      rw [hset] at ho ⊢
      rw [p1] at ho ⊢
      rw [← q1]
      exact fin h1 h6 hx q3 q2 ho
    · obtain ⟨q1, q2, q3⟩ := hq.2 hc
      have ho := hoth ⟨R[i].n, R[i].x, R[i].m, joinL R[i].m m, T + 1⟩ rfl
      rw [hset] at ho ⊢
      rw [p1] at ho ⊢
      rw [← q1]
      exact fin h1 h6 hx q3 q2 ho
  | new h1 h6 hx hn hh =>
    have hno : ∀ z ∈ R, ¬ (z.n = n ∧ z.x = x) := fun z hz e => by
      by_cases hm : z.m = 0
      · exact hx ⟨z, hz, e.2, h.dok.ww z hz hm⟩
      · exact hn z hz (holdP_iff.2 ⟨e.2, e.1, hm⟩)
    have hq := ask_none (t := S.turn) h.dok (h.sim n) (x := x) (m := m) ⟨h1, h6⟩ hno
    have hoth : ∀ r' : Dr, r'.n = n → ∀ z : Dr, z.n ≠ n → (z ∈ R ++ [r'] ↔ z ∈ R) := fun r' hr z hz => by
      rw [List.mem_append, List.mem_singleton]
      exact ⟨fun e => e.resolve_right fun e2 => hz (e2 ▸ hr), .inl⟩
    rcases hh with ⟨rfl, hc, rfl⟩ | ⟨rfl, hc, rfl⟩
    · obtain ⟨q1, q2, q3⟩ := hq.1 hc
      rw [← q1]
      exact fin h1 h6 hx q3 q2 (hoth _ rfl)
    · obtain ⟨q1, q2, q3⟩ := hq.2 hc
      rw [← q1]
      exact fin h1 h6 hx q3 q2 (hoth _ rfl)
end

/-!
  Layer 9 (locks): the table and the document's table beside one another in memory.
-/
section
open Go.RowKit Go.Joins Go.Sort Go.Shelf
set_option linter.unusedVariables false
set_option linter.unusedSimpArgs false

structure TA (w0 w : World) (t : Nat) (O : Nat → Prop) (S : LS) (N tb : Nat) (rv : Value) (R : List Dr) (T : Int) : Prop where
  la : LA w0 w t O S N
  da : DAt w w0.heap.size tb rv R T
  dis : ∀ i, O i → ¬ OD tb rv i
structure Bx (w : World) (O : Nat → Prop) (tb : Nat) (rv : Value) (bx : Nat) (o : Obj) : Prop where
  at' : w.heap[bx]? = some o
  o1 : ¬ O bx
  o2 : ¬ OD tb rv bx
section
variable {w0 w w' : World} {t : Nat} {O O' : Nat → Prop} {S S' : LS} {N N' tb : Nat} {rv rv' : Value} {R R' : List Dr} {T T' : Int} {bx : Nat} {o : Obj}
theorem OD.lo (h : DAt w w0.heap.size tb rv R T) {i : Nat} (hi : OD tb rv i) : w0.heap.size ≤ i ∧ i < w.heap.size := by
  rcases hi with rfl | hi
  · exact ⟨h.lo, (Array.getElem?_eq_some_iff.1 h.at_).1⟩
  · exact h.own.lt i hi
theorem TA.below (h : TA w0 w t O S N tb rv R T) (hb : Below w.heap.size w w') : TA w0 w' t O S N tb rv R T := ⟨h.la.below hb, h.da.below hb, h.dis⟩
theorem TA.keptA (h : TA w0 w t O S N tb rv R T) (la : LA w0 w' t O' S' N') (hk : Kept O O' w w') : TA w0 w' t O' S' N' tb rv R T := by
  have hs : ∀ i, OD tb rv i → w'.heap[i]? = w.heap[i]? := fun i hi => hk.block (OD.lo h.da hi).2 fun ho => h.dis i ho hi
  refine ⟨la, ⟨h.da.lo, (hs tb (.inl rfl)).trans h.da.at_, own_keep h.da.own fun g hg => hs g (.inr hg), h.da.len⟩, fun i hi hd => ?_⟩
  exact hk.not (OD.lo h.da hd).2 (fun ho => h.dis i ho hd) hi
theorem TA.keptD (h : TA w0 w t O S N tb rv R T) (da : DAt w' w0.heap.size tb rv' R' T') (hk : Kept (OD tb rv) (OD tb rv') w w') : TA w0 w' t O S N tb rv' R' T' := by
  refine ⟨⟨h.la.lt.keep fun i hi => hk.block (h.la.lt.lt hi).2 (h.dis i hi), h.la.low.trans (hk.1.toBelow h.la.low.size fun i hi => (OD.lo h.da hi).1)⟩, da, fun i hi hd => ?_⟩
  exact hk.not (h.la.lt.lt hi).2 (h.dis i hi) hd
theorem TA.box (h : TA w0 w t O S N tb rv R T) (o : Obj) : Bx (w.alloc o) O tb rv w.heap.size o :=
  ⟨heap_alloc_new w o, fun hi => absurd (h.la.lt.lt hi).2 (Nat.lt_irrefl _), fun hi => absurd (OD.lo h.da hi).2 (Nat.lt_irrefl _)⟩
theorem Bx.lt (h : Bx w O tb rv bx o) : bx < w.heap.size := (Array.getElem?_eq_some_iff.1 h.at').1
theorem Bx.below (h : Bx w O tb rv bx o) (hb : Below w.heap.size w w') : Bx w' O tb rv bx o := ⟨(hb.block bx h.lt).trans h.at', h.o1, h.o2⟩
theorem Bx.keptA (h : Bx w O tb rv bx o) (hk : Kept O O' w w') : Bx w' O' tb rv bx o := ⟨(hk.block h.lt h.o1).trans h.at', hk.not h.lt h.o1, h.o2⟩
theorem Bx.keptD (h : Bx w O tb rv bx o) (hk : Kept (OD tb rv) (OD tb rv') w w') : Bx w' O tb rv' bx o := ⟨(hk.block h.lt h.o2).trans h.at', h.o1, hk.not h.lt h.o2⟩
theorem TA.mono (h : TA w0 w t O S N tb rv R T) (hN : N ≤ N') : TA w0 w t O S N' tb rv R T := ⟨⟨h.la.lt.mono hN, h.la.low⟩, h.da, h.dis⟩

/-! ## what is asked of both -/
theorem ta_releaseD (h : TA w0 w t O S N tb rv R T) (ho : DOk R T) (x : Int) :
    Calls Tryz.prog 7 #[.pointer (some ⟨tb, 0, none⟩), .int .i64 x] w fun e w' => e = .returned (.tuple #[]) ∧ ∃ R' rv', GivesAll (namesD x R) (remD x R) R' ∧ R'.length ≤ R.length ∧ TA w0 w' t O S N tb rv' R' T ∧ Kept (OD tb rv) (OD tb rv') w w' :=
  (drelease_any h.da ho h.la.low.size x).mono fun e w' hh => by
    obtain ⟨rfl, R', rv', h1, h2, h3, h4⟩ := hh
    exact ⟨rfl, R', rv', h1, h2, h.keptD h3 h4, h4⟩
theorem ta_releaseA (h : TA w0 w t O S N tb rv R T) (hN : N ≤ 1000) (x : Int) :
    Calls Tryz.prog 6 #[.pointer (some ⟨t, 0, none⟩), .int .i64 x] w fun e w' => e = .returned (.tuple #[]) ∧ ∃ S' O', RelS x S S' ∧ TA w0 w' t O' S' N tb rv R T ∧ Kept O O' w w' :=
  (la_release h.la hN x).mono fun e w' hh => by
    obtain ⟨rfl, S', O', h1, h2, h3⟩ := hh
    exact ⟨rfl, S', O', h1, h.keptA h2 h3, h3⟩
theorem ta_askA (h : TA w0 w t O S N tb rv R T) (hN : N ≤ 1000) (x m : Int) (n : Nm) :
    Calls Tryz.prog 8 #[.pointer (some ⟨t, 0, none⟩), .int .i64 x, .agg #[.int .i64 n.s, .string n.i], .int .i64 m] w fun e w' => e = .returned (.tuple #[.bool (askR S x n m).1, .int .i64 (askR S x n m).2]) ∧ ∃ O', TA w0 w' t O' (askT S x n m) (N + 1) tb rv R T ∧ Kept O O' w w' :=
  (la_res h.la hN x m n).mono fun e w' hh => by
    obtain ⟨rfl, O', h2, h3⟩ := hh
    exact ⟨rfl, O', h.keptA h2 h3, h3⟩
theorem ta_askD (h : TA w0 w t O S N tb rv R T) (hT : 0 ≤ T ∧ T ≤ 1000000) (hl : R.length ≤ 1000) (x m : Int) (n : Nm) :
    Calls Tryz.prog 9 #[.pointer (some ⟨tb, 0, none⟩), .int .i64 x, .agg #[.int .i64 n.s, .string n.i], .int .i64 m] w fun e w' => ∃ b er R' T' rv', e = .returned (.tuple #[.bool b, .int .i64 er]) ∧ AskD R T x n m b er R' T' ∧ TA w0 w' t O S N tb rv' R' T' ∧ Kept (OD tb rv) (OD tb rv') w w' :=
  (dask_any h.da hT hl h.la.low.size x m n).mono fun e w' hh => by
    obtain ⟨b, er, R', T', rv', rfl, h1, h2, h3⟩ := hh
    exact ⟨b, er, R', T', rv', rfl, h1, h.keptD h2 h3, h3⟩
theorem ta_modeD (h : TA w0 w t O S N tb rv R T) (tw : Twins S R T) (x : Int) (n : Nm) :
    Calls Tryz.prog 11 #[.pointer (some ⟨tb, 0, none⟩), .int .i64 x, .agg #[.int .i64 n.s, .string n.i]] w fun e w' => e = .returned (.int .i64 (modeL x (S.q n).H)) ∧ Below w.heap.size w w' :=
  (dmode_any h.da x n).mono fun e w' hh => by
    obtain ⟨m, rfl, hg, hm⟩ := hh
    exact ⟨by rw [(tw.sim n).mode (tw.ok.ok n).pre hm], hg.below⟩
theorem ta_waitD (h : TA w0 w t O S N tb rv R T) (tw : Twins S R T) (x : Int) :
    Calls Tryz.prog 13 #[.pointer (some ⟨tb, 0, none⟩), .int .i64 x] w fun e w' => e = .returned (.bool (S.wt x)) ∧ Below w.heap.size w w' :=
  (dwait_any h.da x).mono fun e w' hh => by
    obtain ⟨b, rfl, hb, rfl⟩ := hh
    refine ⟨?_, Below.refl _ _⟩
    have : b = S.wt x := by
      have h1 := tw.wait x
      cases b with
      | true => exact (h1.2 (hb.1 rfl)).symm
      | false =>
        cases hw : S.wt x with
        | false => rfl
        | true => exact absurd (hb.2 (h1.1 hw)) (by simp)
    rw [this]
theorem ta_allA (h : TA w0 w t O S N tb rv R T) (hN : N ≤ 1000) (tw : Twins S R T) :
    Calls Tryz.prog 15 #[.pointer (some ⟨t, 0, none⟩)] w fun e w' => ∃ (v : Value) (A : List Ho), e = .returned v ∧ w'.ownsRow w.heap.size 80 5 v A.length (A.flatMap hoL) ∧ (∀ L, SortsB R R.length L → A = L.map hoD) ∧ Below w.heap.size w w' :=
  (lt_all h.la.lt hN).mono fun e w' hh => by
    obtain ⟨v, Ns, A, rfl, h1, h2, h3, h4, h5⟩ := hh
    exact ⟨v, A, rfl, h1, fun L hL => all_same tw.ok.ok tw.dok tw.sim h4 h2 h3 (hL.sorts tw.dok), h5⟩
theorem ta_arcsA (h : TA w0 w t O S N tb rv R T) (hN : N ≤ 1000) (tw : Twins S R T) :
    Calls Tryz.prog 18 #[.pointer (some ⟨t, 0, none⟩)] w fun e w' => ∃ (v : Value) (A : List Pr), e = .returned v ∧ w'.ownsRow w.heap.size 86 2 v A.length (A.flatMap prL) ∧ (∀ L : List Pr, L.Pairwise ltP → (∀ p, p ∈ L ↔ ArcIn R R.length 0 p) → A = L) ∧ Below w.heap.size w w' :=
  (lt_arcs h.la.lt hN).mono fun e w' hh => by
    obtain ⟨v, A, rfl, h1, h2, h3, h4⟩ := hh
    exact ⟨v, A, rfl, h1, fun L hL hm => rising_ext h2 hL fun p => by rw [h3 p, hm p, ArcIn.all, arcs_same tw.ok.ok tw.dok tw.sim p], h4⟩
end
end
end Go.Proofs.YtileamjmhhifaaaGreat
