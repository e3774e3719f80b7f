/-
  Layer 16 (tree), plain law: changes taken back, the last first.
-/
import Derived.Test.YtljommhbhpappaaPkKept
import Derived.Test.YtljommhbhpappaaTreeN
namespace Go.Proofs.Ytljommhbhpappaa
open Go.RowKit Go.Joins
set_option linter.unusedVariables false
set_option linter.unusedSimpArgs false

def ukeys (us : List Un) : List ByteArray := us.map (·.key)
/-- a change that has left an undo: what was, what is -/
def StepU (K : List ByteArray) (F F' : List NC) (u : Un) (cx : NC → NC) : Prop :=
  ((∃ y ∈ F, y.key = u.key ∧ cx = fun _ => y) ∧ ∃ c : NC, c.key = u.key ∧ F' = setC c F) ∨
  (cx = cutOf u.key ∧ (∀ x ∈ F, x.key ≠ u.key) ∧ ∃ c : NC, c.key = u.key ∧ FlatPut F F' c (K ++ [u.key]))
/-- changes, one behind the other, each with what was changed before it kept -/
inductive Chain (F0 : List NC) : List Un → List NC → Prop
  | nil : Chain F0 [] F0
  | snoc {us : List Un} {F F' : List NC} {u : Un} (cx : NC → NC) (h : Chain F0 us F) (hr : Rising F) (hr' : Rising F') (hu : UnOk u cx) (hp : ∀ k ∈ ukeys us, ∃ x ∈ F, x.key = k) (hs : StepU (ukeys us) F F' u cx) : Chain F0 (us ++ [u]) F'
/-- the same, of what lives or was changed -/
def Sim (K : List ByteArray) (G F : List NC) : Prop := ∀ x : NC, x.st = 1 ∨ x.key ∈ K → (x ∈ G ↔ x ∈ F)
theorem Sim.refl (K : List ByteArray) (F : List NC) : Sim K F F := fun _ _ => Iff.rfl
theorem rising_one {F : List NC} (h : Rising F) {x y : NC} (hx : x ∈ F) (hy : y ∈ F) (hk : x.key = y.key) : x = y := by
  have e1 := seekL_there h hx
  have e2 := seekL_there h hy
  rw [hk, e2] at e1
  exact (Option.some.inj e1).symm
theorem setC_iff {c : NC} {F : List NC} {x z : NC} (hz : z ∈ F) (hzk : z.key = c.key) : x ∈ setC c F ↔ x = c ∨ (x ∈ F ∧ x.key ≠ c.key) := by
  constructor
  · exact setC_mem
  · rintro (rfl | ⟨h1, h2⟩)
    · exact List.mem_map.2 ⟨z, hz, if_pos hzk⟩
    · exact List.mem_map.2 ⟨x, h1, if_neg h2⟩
/-- a key that was changed is there -/
theorem StepU.there {K : List ByteArray} {F F' : List NC} {u : Un} {cx : NC → NC} (hp : ∀ k ∈ K, ∃ x ∈ F, x.key = k) (hs : StepU K F F' u cx) : ∀ k ∈ K ++ [u.key], ∃ x ∈ F', x.key = k := by
  intro k hk
  rcases hs with ⟨⟨y, hy, hyk, -⟩, c, hc, rfl⟩ | ⟨-, hno, c, hc, hf⟩
  · have hcm : c ∈ setC c F := (setC_iff hy (hyk.trans hc.symm)).2 (.inl rfl)
    by_cases e : k = c.key
    · exact ⟨c, hcm, e.symm⟩
    · rcases List.mem_append.1 hk with hk | hk
      · obtain ⟨x, hx, hxk⟩ := hp k hk
        exact ⟨x, (setC_iff hy (hyk.trans hc.symm)).2 (.inr ⟨hx, by rw [hxk]; exact e⟩), hxk⟩
      · have : k = u.key := by simpa using hk
        exact absurd (this.trans hc.symm) e
  · rcases List.mem_append.1 hk with hk | hk
    · obtain ⟨x, hx, hxk⟩ := hp k hk
      exact ⟨x, hf.kept x hx (.inr (List.mem_append_left _ (by rw [hxk]; exact hk))), hxk⟩
    · have : k = u.key := by simpa using hk
      exact ⟨c, hf.memc, hc.trans this.symm⟩
/-- what a restore does is the change taken back -/
theorem back_step {K : List ByteArray} {F F' G G' : List NC} {u : Un} {cx : NC → NC} {er : Int} (hr : Rising F) (hr' : Rising F') (hp : ∀ k ∈ K, ∃ x ∈ F, x.key = k) (hs : StepU K F F' u cx) (hsim : Sim (K ++ [u.key]) G F') (hd : ReDid G G' u.key cx er) : er = 0 ∧ Sim K G' F := by
  obtain ⟨z, hz, hzk⟩ := hs.there hp u.key (by simp)
  have hzG : z ∈ G := (hsim z (.inr (by rw [hzk]; simp))).2 hz
  rcases hd with ⟨rfl, x0, hx0, hx0k, rfl⟩ | ⟨-, -, hno⟩
  · refine ⟨rfl, fun x hx => ?_⟩
    have hx' : x.st = 1 ∨ x.key ∈ K ++ [u.key] := hx.imp_right fun h => List.mem_append_left _ h
    rcases hs with ⟨⟨y, hy, hyk, rfl⟩, c, hc, rfl⟩ | ⟨rfl, hno, c, hc, hf⟩
    · rw [setC_iff (c := y) hx0 (hx0k.trans hyk.symm)]
      by_cases e : x.key = y.key
      · constructor
        · rintro (rfl | ⟨-, h⟩)
          · exact hy
          · exact absurd e h
        · intro h
          exact .inl (rising_one hr h hy e)
      · have e' : x.key ≠ c.key := by rw [hc, ← hyk]; exact e
        rw [hsim x hx', setC_iff hy (hyk.trans hc.symm)]
        constructor
        · rintro (rfl | ⟨h, -⟩)
          · exact absurd rfl e
          · rcases h with rfl | h
            · exact absurd rfl e'
            · exact h.1
        · intro h
          exact .inr ⟨.inr ⟨h, e'⟩, e⟩
    · rw [setC_iff (c := cutOf u.key x0) hx0 hx0k]
      by_cases e : x.key = u.key
      · constructor
        · rintro (rfl | ⟨-, h⟩)
          · rcases hx with h | h
            · simp [cutOf] at h
            · obtain ⟨y, hy, hyk⟩ := hp _ h
              exact absurd hyk (hno y hy)
          · exact absurd e h
        · intro h
          exact absurd e (hno x h)
      · rw [hsim x hx']
        constructor
        · rintro (rfl | ⟨h, -⟩)
          · exact absurd rfl e
          · rcases hf.back x h with rfl | h
            · exact absurd hc e
            · exact h
        · intro h
          exact .inr ⟨hf.kept x h hx', e⟩
  · exact absurd hzk (hno z hzG)
theorem sim_live {G F : List NC} (hG : Rising G) (hF : Rising F) (h : Sim [] G F) : liveL G = liveL F := by
  refine rising_ext' (liveL_rising hG) (liveL_rising hF) fun x => ?_
  unfold liveL
  rw [List.mem_filter, List.mem_filter]
  constructor
  · rintro ⟨h1, h2⟩
    exact ⟨(h x (.inl (by simpa using h2))).1 h1, h2⟩
  · rintro ⟨h1, h2⟩
    exact ⟨(h x (.inl (by simpa using h2))).2 h1, h2⟩
/-- what a change leaves, as a link of the chain -/
theorem did_step {F F' : List NC} {c : Cl} {kp : List ByteArray} {u : Un} {er : Int} (h : DidDo F F' c kp u er) (hl : ∀ x ∈ F, x.leaf) : (F' = F ∧ (er ≠ 0 ∨ u.kind = 0)) ∨ (er = 0 ∧ u.kind = 2 ∧ ∃ cx, UnOk u cx ∧ StepU kp F F' u cx) := by
  have huc : ∀ (k : ByteArray) (y : NC), y ∈ F → y.key = k → UnOk (unC k y) (fun _ => y) := fun k y hy hk => ⟨rfl, rfl, by have := hl y hy; exact ⟨hk ▸ this.2.1, hk ▸ this.2.2.1⟩, .inr ⟨y, hl y hy, hk, rfl, rfl, rfl⟩⟩
  rcases h with ⟨-, ⟨he, hcl, ⟨y, hy, hyk, hys, rfl, rfl⟩ | ⟨hno, rfl, hf⟩⟩ | ⟨h0, -, rfl⟩⟩ | ⟨-, ⟨he, y, hy, hyk, hys, rfl, rfl⟩ | ⟨h0, -, rfl, -⟩⟩ | ⟨-, ⟨he, y, hy, hyk, hys, rfl, rfl⟩ | ⟨h0, -, rfl, -⟩⟩ | ⟨-, -, -, rfl, -, rfl⟩
  · exact .inr ⟨he, rfl, _, huc _ y hy hyk, .inl ⟨⟨y, hy, hyk, rfl⟩, ⟨c.key, 1, c.val⟩, rfl, rfl⟩⟩
  · exact .inr ⟨he, rfl, _, ⟨rfl, rfl, ⟨hcl.2.1, hcl.2.2.1⟩, .inl ⟨rfl, rfl⟩⟩, .inr ⟨rfl, hno, ⟨c.key, 1, c.val⟩, rfl, hf⟩⟩
  · exact .inl ⟨rfl, .inl h0⟩
  · exact .inr ⟨he, rfl, _, huc _ y hy hyk, .inl ⟨⟨y, hy, hyk, rfl⟩, setOf c.key c.val y, rfl, rfl⟩⟩
  · exact .inl ⟨rfl, .inl h0⟩
  · exact .inr ⟨he, rfl, _, huc _ y hy hyk, .inl ⟨⟨y, hy, hyk, rfl⟩, cutOf c.key y, rfl, rfl⟩⟩
  · exact .inl ⟨rfl, .inl h0⟩
  · exact .inl ⟨rfl, .inr rfl⟩
end Go.Proofs.Ytljommhbhpappaa
