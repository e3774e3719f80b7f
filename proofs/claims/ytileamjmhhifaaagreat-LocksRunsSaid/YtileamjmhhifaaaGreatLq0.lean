/-
  Layer 9 (locks), plain: the document's rows, as a set; giving, the document's way.
-/
import Derived.Test.YtileamjmhhifaaaGreatLd4
namespace Go.Proofs.YtileamjmhhifaaaGreat
set_option linter.unusedVariables false
set_option linter.unusedSimpArgs false

/-- rows of one place are one row; turns of those who want are unlike -/
structure DOk (R : List Dr) (T : Int) : Prop where
  once : R.Pairwise fun a b => ¬ (a.n = b.n ∧ a.x = b.x)
  turn : ∀ r ∈ R, r.t ≤ T
  tdis : ∀ a ∈ R, ∀ b ∈ R, a.w ≠ 0 → b.w ≠ 0 → a.t = b.t → a = b
  ww : ∀ r ∈ R, r.m = 0 → r.w ≠ 0
  ms : ∀ r ∈ R, (r.m = 0 ∨ (1 ≤ r.m ∧ r.m ≤ 6)) ∧ (r.w = 0 ∨ (1 ≤ r.w ∧ r.w ≤ 6))
theorem DOk.one {R : List Dr} {T : Int} (h : DOk R T) {a b : Dr} (ha : a ∈ R) (hb : b ∈ R) (hn : a.n = b.n) (hx : a.x = b.x) : a = b := by
  obtain ⟨i, hi, rfl⟩ := List.mem_iff_getElem.1 ha
  obtain ⟨j, hj, rfl⟩ := List.mem_iff_getElem.1 hb
  have hp := List.pairwise_iff_getElem.1 h.once
  rcases Nat.lt_trichotomy i j with e | e | e
  · exact absurd ⟨hn, hx⟩ (hp i j hi hj e)
  · subst e; rfl
  · exact absurd ⟨hn.symm, hx.symm⟩ (hp j i hj hi e)
/-- one row turns -/
def updR (R : List Dr) (r r' : Dr) : List Dr := R.map fun z => if z.n = r.n ∧ z.x = r.x then r' else z
theorem updR_mem {R : List Dr} {T : Int} (h : DOk R T) {r r' : Dr} (hr : r ∈ R) {z : Dr} : z ∈ updR R r r' ↔ z = r' ∨ (z ∈ R ∧ ¬ (z.n = r.n ∧ z.x = r.x)) := by
  unfold updR
  rw [List.mem_map]
  constructor
  · rintro ⟨y, hy, rfl⟩
    by_cases e : y.n = r.n ∧ y.x = r.x
    · rw [if_pos e]; exact .inl rfl
    · rw [if_neg e]; exact .inr ⟨hy, e⟩
  · rintro (rfl | ⟨hz, e⟩)
    · exact ⟨r, hr, by rw [if_pos ⟨rfl, rfl⟩]⟩
    · exact ⟨z, hz, if_neg e⟩
theorem updR_set {R : List Dr} {T : Int} (h : DOk R T) {i : Nat} (hi : i < R.length) (r' : Dr) : R.set i r' = updR R R[i] r' := by
  have hp := List.pairwise_iff_getElem.1 h.once
  apply List.ext_getElem (by simp [updR])
  intro j h1 h2
  have hj : j < R.length := by simpa using h1
  simp only [updR, List.getElem_map, List.getElem_set]
  by_cases e : i = j
  · subst e; simp
  · rw [if_neg e, if_neg]
    rintro ⟨e1, e2⟩
    rcases Nat.lt_or_gt_of_ne e with h3 | h3
    · exact hp i j hi hj h3 ⟨e1.symm, e2.symm⟩
    · exact hp j i hj hi h3 ⟨e1, e2⟩
def candD (R : List Dr) (n : Nm) (r : Dr) : Prop := r.n = n ∧ r.m ≠ 0 ∧ r.w ≠ 0 ∧ freeD R r.x n r.w
def gotR (r : Dr) : Dr := ⟨r.n, r.x, r.w, 0, r.t⟩
/-- one step of the first kind -/
def StepDA (n : Nm) (R R' : List Dr) : Prop := ∃ r ∈ R, candD R n r ∧ (∀ s ∈ R, candD R n s → r.t ≤ s.t) ∧ R' = updR R r (gotR r)
def StepDB (n : Nm) (R R' : List Dr) : Prop := ∃ r ∈ R, r.n = n ∧ r.m = 0 ∧ (∀ s ∈ R, s.n = n → s.m = 0 → r.t ≤ s.t) ∧ ¬ wantD R n ∧ freeD R r.x n r.w ∧ R' = updR R r (gotR r)
def DoneA (n : Nm) (R : List Dr) : Prop := ∀ s ∈ R, ¬ candD R n s
def DoneB (n : Nm) (R : List Dr) : Prop := ∀ r ∈ R, r.n = n → r.m = 0 → (∀ s ∈ R, s.n = n → s.m = 0 → r.t ≤ s.t) → wantD R n ∨ ¬ freeD R r.x n r.w
inductive RunsD (s : List Dr → List Dr → Prop) (d : List Dr → Prop) : List Dr → List Dr → Prop
  | stop {R : List Dr} (h : d R) : RunsD s d R R
  | step {R R1 R' : List Dr} (h : s R R1) (hr : RunsD s d R1 R') : RunsD s d R R'
def GivesD (n : Nm) (R R' : List Dr) : Prop := ∃ R1, RunsD (StepDA n) (DoneA n) R R1 ∧ RunsD (StepDB n) (DoneB n) R1 R'
theorem updR_once {R : List Dr} {T : Int} (h : DOk R T) {r r' : Dr} (hk : r'.n = r.n ∧ r'.x = r.x) : (updR R r r').Pairwise fun a b => ¬ (a.n = b.n ∧ a.x = b.x) := by
  unfold updR
  rw [List.pairwise_map]
  refine List.Pairwise.imp ?_ h.once
  intro a b hab
  have ka : (if a.n = r.n ∧ a.x = r.x then r' else a).n = a.n ∧ (if a.n = r.n ∧ a.x = r.x then r' else a).x = a.x := by
    split
    · rename_i e; exact ⟨hk.1.trans e.1.symm, hk.2.trans e.2.symm⟩
    · exact ⟨rfl, rfl⟩
  have kb : (if b.n = r.n ∧ b.x = r.x then r' else b).n = b.n ∧ (if b.n = r.n ∧ b.x = r.x then r' else b).x = b.x := by
    split
    · rename_i e; exact ⟨hk.1.trans e.1.symm, hk.2.trans e.2.symm⟩
    · exact ⟨rfl, rfl⟩
  rw [ka.1, ka.2, kb.1, kb.2]
  exact hab



section
variable {R : List Dr} {T : Int}
theorem DOk.upd (hd : DOk R T) {r r' : Dr} (hr : r ∈ R) (hk : r'.n = r.n ∧ r'.x = r.x) (ht : r'.t ≤ T) (hw : r'.w ≠ 0 → ∀ z ∈ R, ¬ (z.n = r.n ∧ z.x = r.x) → z.w ≠ 0 → r'.t ≠ z.t) (hww : r'.m = 0 → r'.w ≠ 0) (hms : (r'.m = 0 ∨ (1 ≤ r'.m ∧ r'.m ≤ 6)) ∧ (r'.w = 0 ∨ (1 ≤ r'.w ∧ r'.w ≤ 6))) : DOk (updR R r r') T := by
  refine ⟨updR_once hd hk, fun z hz => ?_, fun a ha b hb haw hbw hab => ?_, fun z hz hm => ?_, fun z hz => ?_⟩
  · rcases (updR_mem hd hr).1 hz with rfl | ⟨h1, -⟩
    · exact ht
    · exact hd.turn z h1
  · rcases (updR_mem hd hr).1 ha with rfl | ⟨h1, h2⟩
    · rcases (updR_mem hd hr).1 hb with rfl | ⟨h3, h4⟩
      · rfl
      · exact absurd hab (hw haw b h3 h4 hbw)
    · rcases (updR_mem hd hr).1 hb with rfl | ⟨h3, h4⟩
      · exact absurd hab.symm (hw hbw a h1 h2 haw)
      · exact hd.tdis a h1 b h3 haw hbw hab
  · rcases (updR_mem hd hr).1 hz with rfl | ⟨h1, -⟩
    · exact hww hm
    · exact hd.ww z h1 hm
  · rcases (updR_mem hd hr).1 hz with rfl | ⟨h1, -⟩
    · exact hms
    · exact hd.ms z h1
theorem DOk.got (hd : DOk R T) {r : Dr} (hr : r ∈ R) (hw : r.w ≠ 0) : DOk (updR R r (gotR r)) T :=
  hd.upd hr ⟨rfl, rfl⟩ (hd.turn r hr) (fun h => absurd rfl h) (fun h => absurd h hw) ⟨(hd.ms r hr).2, .inl rfl⟩
end
end Go.Proofs.YtileamjmhhifaaaGreat
