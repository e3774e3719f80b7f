/-
  Layer 22 (audit): the walk of AuditOrder: keys are laid.
-/
import Derived.Test.YtljommhbhpappaaAu18
import Derived.Test.YtljommhbhpappaaPkCh
import Derived.Test.YtljommhbhpappaaFrame17c
namespace Go.Proofs.Ytljommhbhpappaa
open Go.RowKit Go.Joins
set_option linter.unusedVariables false
set_option linter.unusedSimpArgs false

/-- the law's volume: a heap, and the tree T as store 2 -/
structure OrdVol (S : Vol) (d m : Pg) (P : Nat → Part) (N : Nat) (T : Tr N) : Prop where
  mv : MVol S d m 80 P
  fit : S.Fit 80
  live : d.a 1 = 1
  tree : P 1 = .tree 2 N T
  lone : ∀ j, j < 6 → j ≠ 1 → ∀ kd N T, P j ≠ .tree kd N T
  full : N = 0 ∨ Full (Tr.leaves N T)
def OrdAt (w wr : World) (b hb : Nat) : Prop := ∃ S d m P N, ∃ T : Tr N, Lay (· < w.heap.size) w wr b hb S ∧ OrdVol S d m P N T ∧ S.M = []
theorem ordPut {S : Vol} {d m : Pg} {P : Nat → Part} {N : Nat} {T : Tr N} (h : OrdVol S d m P N T) (key : ByteArray) {Q : Nat → Prop} {w0 w : World} {b hb : Nat} (L : Lay Q w0 w b hb S) :
    Calls Try.prog 47 #[.pointer (some ⟨b, 0, none⟩), .int .i64 2, .string key, .string ⟨#[]⟩, .slice none 0 0] w fun e w' => ∃ u er S', e = .returned (.tuple #[Un.v u, .int .i64 er]) ∧ Lay Q w0 w' b hb S' ∧ S'.Fit 80 ∧ S'.base = S.base ∧
      (er = 0 → ∃ m' P' N', ∃ T' : Tr N', OrdVol S' d m' P' N' T') := by
  by_cases hk : KeyOk key
  · obtain ⟨mb, pb, hs, h4⟩ := L.at'
    have hg := h.mv.gx (k := 1) (by omega) h.tree h.live
    have e2 : (((1 : Nat) : Int) + 1) = 2 := rfl
    rw [e2] at hg
    refine (gput_any hg key ⟨#[]⟩ hk (Nat.zero_le _) none 0 [] b mb hb pb w hs ⟨by simp, .inl rfl⟩).mono ?_
    rintro e w' ⟨u, er, S', rfl, hgr, hs', ho⟩
    obtain ⟨h1, h2, h3⟩ := gput_step hg h.fit (c := ⟨key, 1, ⟨#[]⟩⟩) ⟨.inl rfl, hk.1, hk.2, Nat.zero_le _⟩ ho
    refine ⟨u, er, S', rfl, Lay.write L.keep L.dom h4 hgr hs', h1, h2, fun e0 => ?_⟩
    obtain ⟨m', N', T', h5, h6, h7⟩ := h3 e0
    have h8 := h.mv.treeTo (k := 1) (by omega) h.tree h.live h5 h6
    exact ⟨m', _, N', T', h8, h1, h.live, setP_same _ _ _, fun j hj hj1 kd N T => by rw [setP_other _ _ _ hj1]; exact h.lone j hj hj1 kd N T, h7 h.full⟩
  · refine (tput_bad (.pointer (some ⟨b, 0, none⟩)) 2 key ⟨#[]⟩ (fun hh => hk hh.1) (.slice none 0 0) w).mono ?_
    rintro e w' ⟨rfl, hb'⟩
    refine ⟨Un.zero, _, S, rfl, L.step hb', h.fit, rfl, fun e0 => ?_⟩
    rw [if_neg hk] at e0; cases e0
theorem V2_ord (n : Nat) (hn : n = 80) : OrdVol (V2 n).landed dV2 (mV2 n) (newParts [1, 2]) 0 (mkLeaf 3 []) := by
  subst hn
  have h1 := (V2_ok 80 (by omega) (by omega))
  have hf := V2_fit 80 (by omega) (by omega)
  have h2 : NewVol (V2 80) dV2 (mV2 80) 80 [1, 2] (2 + [1, 2].length) := h1
  have hm := h2.mvol.landed hf (Nat.le_refl _)
  refine ⟨hm, landed_fit hf, (h1.dir 1 (by simp)).1, rfl, fun j hj hj1 kd N T e => ?_, .inl rfl⟩
  unfold newParts at e
  have h5 : j = 0 ∨ j = 2 ∨ j = 3 ∨ j = 4 ∨ j = 5 := by omega
  rcases h5 with rfl | rfl | rfl | rfl | rfl <;> simp at e

/-- pages that look like leaves -/
def isLf (S : Vol) (u : Nat) : Bool := decide ((stPg S u).k = 4) && decide ((stPg S u).l = 0)
theorem OrdVol.leaf {S : Vol} {d m : Pg} {P : Nat → Part} {N : Nat} {T : Tr N} (h : OrdVol S d m P N T) {u : Nat} (hu : u ∈ usedTo m 80) (hl : isLf S u = true) : ∃ y ∈ Tr.leaves N T, y.1 = (u : Int) := by
  have hr := (h.mv.reach_mem u).1 ((h.mv.used_mem u).1 hu)
  simp only [isLf, Bool.and_eq_true, decide_eq_true_eq] at hl
  rcases hr with h2 | ⟨k, hk, hm⟩
  · have : u = 0 ∨ u = 1 := by omega
    rcases this with rfl | rfl
    · have h1 : stPg S ((0 : Nat) : Int) = d := h.mv.vol.dir.p
      rw [h1, h.mv.vol.dir.k] at hl
      exact absurd hl.1 (by decide)
    · have h1 : stPg S ((1 : Nat) : Int) = m := h.mv.vol.map.p
      have h2 := h.mv.vol.map.map
      rw [h1, h2.1] at hl
      exact absurd hl.1 (by decide)
  · by_cases h1 : k = 1
    · subst h1
      rw [h.tree] at hm
      have ha := h.mv.part 1 hk
      rw [h.tree] at ha
      exact leaf_of_level ha.2.2.2.1.tin hm hl.2
    · have hp := h.mv.part k hk
      cases e : P k with
      | nil => rw [e] at hm; cases hm
      | heap C =>
        rw [e] at hm hp
        obtain ⟨i, hi, hie⟩ := List.mem_iff_getElem.1 hm
        have hie' : C[i] = (u : Int) := hie
        have := (hp.2.2.ok i hi).2.1
        rw [hie', hl.1] at this
        exact absurd this (by decide)
      | tree kd N2 T2 => exact absurd e (h.lone k hk h1 kd N2 T2)
end Go.Proofs.Ytljommhbhpappaa
