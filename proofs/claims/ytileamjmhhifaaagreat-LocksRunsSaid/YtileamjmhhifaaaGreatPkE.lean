/-
  Several texts in one: Lq1, Lq2, Lq3, Lq4.
-/
import Derived.Test.YtileamjmhhifaaaGreatPkD
import Derived.Test.YtileamjmhhifaaaGreatLq0
import Derived.Test.YtileamjmhhifaaaGreatLd4
namespace Go.Proofs.YtileamjmhhifaaaGreat
/-!
  Layer 9 (locks), plain: the document's rows, as a set; a queue and the rows of its name stand for one another.
-/
section
set_option linter.unusedVariables false
set_option linter.unusedSimpArgs false

/-- a queue stands for the rows of its name -/
structure SimD (Q : Qu) (R : List Dr) (n : Nm) : Prop where
  held : ∀ x m w, (∃ h ∈ Q.H, h.x = x ∧ h.m = m ∧ h.w = w) ↔ ∃ r ∈ R, r.n = n ∧ r.m ≠ 0 ∧ r.x = x ∧ r.m = m ∧ r.w = w
  ord : ∀ g ∈ Q.H, ∀ h ∈ Q.H, g.w ≠ 0 → h.w ≠ 0 → ∀ a ∈ R, ∀ b ∈ R, a.n = n → b.n = n → a.m ≠ 0 → b.m ≠ 0 → a.x = g.x → b.x = h.x → (g.t < h.t ↔ a.t < b.t)
  wish : ∀ x m, (∃ y ∈ Q.W, y.x = x ∧ y.m = m) ↔ ∃ r ∈ R, r.n = n ∧ r.m = 0 ∧ r.x = x ∧ r.w = m
  word : Q.W.Pairwise fun y z => ∀ a ∈ R, ∀ b ∈ R, a.n = n → b.n = n → a.m = 0 → b.m = 0 → a.x = y.x → b.x = z.x → a.t < b.t
theorem SimD.free {Q : Qu} {R : List Dr} {n : Nm} (h : SimD Q R n) (x m : Int) : freeL x m Q.H = true ↔ freeD R x n m := by
  rw [free_iff]
  constructor
  · intro hf r hr hn hm hx
    obtain ⟨g, hg, e1, e2, e3⟩ := (h.held r.x r.m r.w).2 ⟨r, hr, hn, hm, rfl, rfl, rfl⟩
    rcases hf g hg with e | e
    · exact absurd (e1.symm.trans e) hx
    · rw [e2] at e; exact e
  · intro hf g hg
    obtain ⟨r, hr, hn, hm, e1, e2, e3⟩ := (h.held g.x g.m g.w).1 ⟨g, hg, rfl, rfl, rfl⟩
    by_cases e : g.x = x
    · exact .inl e
    · right
      rw [← e2]
      exact hf r hr hn hm (by rw [e1]; exact e)
theorem SimD.want {Q : Qu} {R : List Dr} {n : Nm} (h : SimD Q R n) : wantL Q.H = true ↔ wantD R n := by
  rw [want_iff]
  constructor
  · rintro ⟨g, hg, hw⟩
    obtain ⟨r, hr, hn, hm, e1, e2, e3⟩ := (h.held g.x g.m g.w).1 ⟨g, hg, rfl, rfl, rfl⟩
    exact ⟨r, hr, hn, hm, by rw [e3]; exact hw⟩
  · rintro ⟨r, hr, hn, hm, hw⟩
    obtain ⟨g, hg, e1, e2, e3⟩ := (h.held r.x r.m r.w).2 ⟨r, hr, hn, hm, rfl, rfl, rfl⟩
    exact ⟨g, hg, by rw [e3]; exact hw⟩
theorem SimD.empty (n : Nm) : SimD ⟨[], []⟩ [] n := ⟨fun x m w => by simp, fun g hg => by simp at hg, fun x m => by simp, List.Pairwise.nil⟩
/-- the row of a hold -/
theorem SimD.row {Q : Qu} {R : List Dr} {n : Nm} (h : SimD Q R n) {g : Hd} (hg : g ∈ Q.H) : ∃ r ∈ R, r.n = n ∧ r.m ≠ 0 ∧ r.x = g.x ∧ r.m = g.m ∧ r.w = g.w := (h.held g.x g.m g.w).1 ⟨g, hg, rfl, rfl, rfl⟩
theorem SimD.hold {Q : Qu} {R : List Dr} {n : Nm} (h : SimD Q R n) {r : Dr} (hr : r ∈ R) (hn : r.n = n) (hm : r.m ≠ 0) : ∃ g ∈ Q.H, g.x = r.x ∧ g.m = r.m ∧ g.w = r.w := (h.held r.x r.m r.w).2 ⟨r, hr, hn, hm, rfl, rfl, rfl⟩

/-! ## giving, the document's way -/
theorem bestTo_min (H : List Hd) : ∀ k b, k ≤ H.length → bestTo H k = some b → ∀ i, ∀ hi : i < H.length, i < k → candB H H[i] = true → (H.getD b default).t ≤ H[i].t
  | 0, b, _, h => by cases h
  | k + 1, b, hk, h => by
    have ih := bestTo_min H k
    rw [bestTo_succ H k (by omega)] at h
    intro i hi hik hc
    have hgk : ∀ j, ∀ hj : j < H.length, H.getD j default = H[j] := fun j hj => by rw [List.getD_eq_getElem?_getD, List.getElem?_eq_getElem hj]; rfl
    cases hb : bestTo H k with
    | none =>
      rw [hb] at h
      simp only at h
      split at h
      · cases h
        rw [hgk k (by omega)]
        by_cases e : i = k
        · subst e; omega
        · have := (bestTo_none H k (by omega)).1 hb i (by omega) hi
          rw [hc] at this; cases this
      · cases h
    | some b' =>
      rw [hb] at h
      simp only at h
      obtain ⟨hb1, y, hy, hyc⟩ := bestTo_lt H k b' hb
      split at h
      · rename_i hcc
        cases h
        simp only [Bool.and_eq_true, decide_eq_true_eq] at hcc
        rw [hgk k (by omega)]
        by_cases e : i = k
        · subst e; omega
        · have := ih _ (by omega) hb i hi (by omega) hc
          omega
      · rename_i hcc
        cases h
        by_cases e : i = k
        · subst e
          simp only [hc, Bool.true_and, decide_eq_true_eq] at hcc
          omega
        · exact ih _ (by omega) hb i hi (by omega) hc
end

/-!
  Layer 9 (locks), plain: giving, the document's way, is giving.
-/
section
set_option linter.unusedVariables false
set_option linter.unusedSimpArgs false

section
variable {Q : Qu} {R R1 : List Dr} {T : Int} {n : Nm}
theorem isM_ne {m : Int} (h : IsM m) : m ≠ 0 := by have := h.1; omega
/-- rows of other names stay -/
theorem upd_other (hd : DOk R T) {r r' : Dr} (hr : r ∈ R) (hk : r'.n = r.n) {z : Dr} (hz : z.n ≠ r.n) : z ∈ updR R r r' ↔ z ∈ R := by
  rw [updR_mem hd hr]
  constructor
  · rintro (rfl | ⟨h, -⟩)
    · exact absurd hk hz
    · exact h
  · exact fun h => .inr ⟨h, fun e => hz e.1⟩
theorem simA (hp : Pre Q) (hd : DOk R T) (h : SimD Q R n) (hs : StepDA n R R1) : ∃ Q1 x, stepA Q = some (Q1, x) ∧ SimD Q1 R1 n ∧ DOk R1 T ∧ Pre Q1 := by
  obtain ⟨r, hr, ⟨hrn, hrm, hrw, hrf⟩, hmin, rfl⟩ := hs
  obtain ⟨g, hg, gx, gm, gw⟩ := h.hold hr hrn hrm
  have hgf : freeL g.x g.w Q.H = true := by rw [gx, gw]; exact (h.free _ _).2 hrf
  obtain ⟨Q1, x, hst⟩ : ∃ Q1 x, stepA Q = some (Q1, x) := by
    cases hq : stepA Q with
    | none =>
      have := stepA_none hq g hg (by rw [gw]; exact hrw)
      rw [hgf] at this; cases this
    | some p => exact ⟨p.1, p.2, rfl⟩
  have hpre := (stepA_ok hp hst).1
  refine ⟨Q1, x, hst, ?_, hd.got hr hrw, hpre⟩
  -- the best hold is r's
  obtain ⟨k, hk, hkw, hkf, hkb, rfl⟩ : ∃ k, ∃ hk : k < Q.H.length, Q.H[k].w ≠ 0 ∧ freeL Q.H[k].x Q.H[k].w Q.H = true ∧ (∀ i, ∀ hi : i < Q.H.length, candB Q.H Q.H[i] = true → Q.H[k].t ≤ Q.H[i].t) ∧ Q1 = ⟨Q.H.set k ⟨Q.H[k].x, Q.H[k].w, 0, Q.H[k].t⟩, Q.W⟩ := by
    unfold stepA at hst
    cases hb : bestQ Q.H with
    | none => rw [hb] at hst; cases hst
    | some k =>
      rw [hb] at hst
      obtain ⟨hk, y, hy, hc⟩ := bestTo_lt Q.H Q.H.length k hb
      rw [List.getElem?_eq_getElem hk] at hy
      cases hy
      simp only [candB, Bool.and_eq_true, bne_iff_ne, ne_eq] at hc
      have e : Q.H.getD k default = Q.H[k] := by rw [List.getD_eq_getElem?_getD, List.getElem?_eq_getElem hk]; rfl
      simp only [e, Option.some.injEq, Prod.mk.injEq] at hst
      refine ⟨k, hk, hc.1, hc.2, fun i hi hci => ?_, hst.1.symm⟩
      have := bestTo_min Q.H Q.H.length k (Nat.le_refl _) hb i hi hi hci
      rw [e] at this; exact this
  obtain ⟨a, ha, han, ham, hax, ham2, haw⟩ := h.row (List.getElem_mem hk)
  have hcand : candD R n a := ⟨han, ham, by rw [haw]; exact hkw, by rw [hax, haw]; exact (h.free _ _).1 hkf⟩
  have hra : r = a := by
    obtain ⟨i, hi, rfl⟩ := List.mem_iff_getElem.1 hg
    have h1 := hmin a ha hcand
    have h2 := hkb i hi (by simp only [candB, Bool.and_eq_true, bne_iff_ne, ne_eq]; exact ⟨by rw [gw]; exact hrw, hgf⟩)
    have o1 := h.ord _ (List.getElem_mem hk) _ (List.getElem_mem hi) hkw (by rw [gw]; exact hrw) a ha r hr han hrn ham hrm hax gx.symm
    have o2 := h.ord _ (List.getElem_mem hi) _ (List.getElem_mem hk) (by rw [gw]; exact hrw) hkw r hr a ha hrn han hrm ham gx.symm hax
    exact hd.tdis r hr a ha hrw hcand.2.2.1 (by omega)
  subst hra
  have hid := hp.hnd
  have hold : ∀ g' ∈ Q.H.set k ⟨Q.H[k].x, Q.H[k].w, 0, Q.H[k].t⟩, g' = ⟨Q.H[k].x, Q.H[k].w, 0, Q.H[k].t⟩ ∨ (g' ∈ Q.H ∧ g'.x ≠ r.x) := fun g' hg' => by
    rcases mem_set hk hg' with e | ⟨i, hi, hne, rfl⟩
    · exact .inl e
    · exact .inr ⟨List.getElem_mem hi, by rw [hax]; exact ids_ne hid hi hk hne⟩
  have hold2 : ∀ g' ∈ Q.H, g'.x ≠ r.x → g' ∈ Q.H.set k ⟨Q.H[k].x, Q.H[k].w, 0, Q.H[k].t⟩ := fun g' hg' hne => by
    obtain ⟨i, hi, rfl⟩ := List.mem_iff_getElem.1 hg'
    exact set_far hi (fun e => hne (by subst e; exact hax.symm)) _
  have hmem := fun z => updR_mem hd hr (r' := gotR r) (z := z)
  refine ⟨fun x m w => ?_, fun g1 hg1 g2 hg2 hw1 hw2 a1 ha1 b1 hb1 n1 n2 m1 m2 x1 x2 => ?_, fun x m => ?_, ?_⟩
  · constructor
    · rintro ⟨g', hg', rfl, rfl, rfl⟩
      rcases hold g' hg' with rfl | ⟨h1, h2⟩
      · exact ⟨gotR r, (hmem _).2 (.inl rfl), hrn, hrw, hax, haw, rfl⟩
      · obtain ⟨z, hz, zn, zm, zx, zm2, zw⟩ := h.row h1
        exact ⟨z, (hmem _).2 (.inr ⟨hz, fun e => h2 (zx ▸ e.2)⟩), zn, zm, zx, zm2, zw⟩
    · rintro ⟨z, hz, zn, zm, rfl, rfl, rfl⟩
      rcases (hmem z).1 hz with rfl | ⟨h1, h2⟩
      · exact ⟨_, set_at hk _, hax.symm, haw.symm, rfl⟩
      · obtain ⟨g', hg', e1, e2, e3⟩ := h.hold h1 zn zm
        exact ⟨g', hold2 g' hg' (by rw [e1]; exact fun e => h2 ⟨zn.trans hrn.symm, e⟩), e1, e2, e3⟩
  · rcases hold g1 hg1 with rfl | ⟨h1, h2⟩
    · exact absurd rfl hw1
    rcases hold g2 hg2 with rfl | ⟨h3, h4⟩
    · exact absurd rfl hw2
    rcases (hmem a1).1 ha1 with rfl | ⟨h5, -⟩
    · exact absurd x1.symm h2
    rcases (hmem b1).1 hb1 with rfl | ⟨h6, -⟩
    · exact absurd x2.symm h4
    exact h.ord g1 h1 g2 h3 hw1 hw2 a1 h5 b1 h6 n1 n2 m1 m2 x1 x2
  · rw [h.wish]
    constructor
    · rintro ⟨z, hz, zn, zm, zx, zw⟩
      exact ⟨z, (hmem z).2 (.inr ⟨hz, fun e => hrm (by have := hd.one hz hr e.1 e.2; rw [← this]; exact zm)⟩), zn, zm, zx, zw⟩
    · rintro ⟨z, hz, zn, zm, zx, zw⟩
      rcases (hmem z).1 hz with rfl | ⟨h1, -⟩
      · exact absurd zm hrw
      · exact ⟨z, h1, zn, zm, zx, zw⟩
  · refine List.Pairwise.imp ?_ h.word
    intro y z hyz a1 ha1 b1 hb1 n1 n2 m1 m2 x1 x2
    rcases (hmem a1).1 ha1 with rfl | ⟨h5, -⟩
    · exact absurd m1 hrw
    rcases (hmem b1).1 hb1 with rfl | ⟨h6, -⟩
    · exact absurd m2 hrw
    exact hyz a1 h5 b1 h6 n1 n2 m1 m2 x1 x2
theorem doneA (h : SimD Q R n) (hp : Pre Q) (hd : DoneA n R) : stepA Q = none := by
  cases hq : stepA Q with
  | none => rfl
  | some p =>
    obtain ⟨k, hk, h1, h2, -, -⟩ := stepA_some (Q1 := p.1) (x := p.2) hq
    obtain ⟨a, ha, han, ham, hax, ham2, haw⟩ := h.row (List.getElem_mem hk)
    exact absurd ⟨han, ham, by rw [haw]; exact h1, by rw [hax, haw]; exact (h.free _ _).1 h2⟩ (hd a ha)
/-- the head's row is the wish that came first -/
theorem head_row (hd : DOk R T) (h : SimD Q R n) {y : Ws} {W : List Ws} (hW : Q.W = y :: W) : ∃ a ∈ R, a.n = n ∧ a.m = 0 ∧ a.x = y.x ∧ a.w = y.m ∧ ∀ s ∈ R, s.n = n → s.m = 0 → a.t ≤ s.t := by
  obtain ⟨a, ha, han, ham, hax, haw⟩ := (h.wish y.x y.m).1 ⟨y, by rw [hW]; exact List.mem_cons_self .., rfl, rfl⟩
  refine ⟨a, ha, han, ham, hax, haw, fun s hs hsn hsm => ?_⟩
  obtain ⟨z, hz, zx, zm⟩ := (h.wish s.x s.w).2 ⟨s, hs, hsn, hsm, rfl, rfl⟩
  rw [hW] at hz
  rcases List.mem_cons.1 hz with rfl | hz
  · have := hd.one ha hs (han.trans hsn.symm) (hax.trans zx)
    rw [this]; exact Int.le_refl _
  · have hw := h.word
    rw [hW] at hw
    have := (List.pairwise_cons.1 hw).1 z hz a ha s hs han hsn ham hsm hax zx.symm
    omega
theorem simB (hp : Pre Q) (hd : DOk R T) (h : SimD Q R n) (hs : StepDB n R R1) : ∃ Q1 x, stepB Q = some (Q1, x) ∧ SimD Q1 R1 n ∧ DOk R1 T ∧ Pre Q1 := by
  obtain ⟨r, hr, hrn, hrm, hmin, hnw, hrf, rfl⟩ := hs
  obtain ⟨y, W, hW⟩ : ∃ y W, Q.W = y :: W := by
    obtain ⟨z, hz, -, -⟩ := (h.wish r.x r.w).2 ⟨r, hr, hrn, hrm, rfl, rfl⟩
    cases hq : Q.W with
    | nil => rw [hq] at hz; cases hz
    | cons y W => exact ⟨y, W, rfl⟩
  have hrw := hd.ww r hr hrm
  obtain ⟨a, ha, han, ham, hax, haw, hamin⟩ := head_row hd h hW
  have hra : r = a := hd.tdis r hr a ha hrw (hd.ww a ha ham) (Int.le_antisymm (hmin a ha han ham) (hamin r hr hrn hrm))
  subst hra
  have hwf : wantL Q.H = false := by
    cases e : wantL Q.H with
    | false => rfl
    | true => exact absurd (h.want.1 e) hnw
  have hfr : freeL y.x y.m Q.H = true := by rw [← hax, ← haw]; exact (h.free _ _).2 hrf
  have hst : stepB Q = some (⟨Q.H ++ [⟨y.x, y.m, 0, 0⟩], W⟩, y.x) := by
    unfold stepB
    rw [hW]
    simp only
    rw [hwf, hfr]
    rfl
  have hpre := (stepB_ok hp hst).1
  refine ⟨_, _, hst, ?_, hd.got hr hrw, hpre⟩
  have hmem := fun z => updR_mem hd hr (r' := gotR r) (z := z)
  have hnot : ∀ g ∈ Q.H, g.x ≠ r.x := fun g hg => by rw [hax]; exact hp.hw hg (by rw [hW]; exact List.mem_cons_self ..)
  have hnotW : ∀ z ∈ W, z.x ≠ r.x := fun z hz => by
    have h1 := (List.nodup_append.1 hp.ids).2.1
    rw [hW, List.map_cons, List.nodup_cons] at h1
    rw [hax]
    exact fun e => h1.1 (List.mem_map.2 ⟨z, hz, e⟩)
  refine ⟨fun x m w => ?_, fun g1 hg1 g2 hg2 hw1 hw2 a1 ha1 b1 hb1 n1 n2 m1 m2 x1 x2 => ?_, fun x m => ?_, ?_⟩
  · constructor
    · rintro ⟨g', hg', rfl, rfl, rfl⟩
      rcases List.mem_append.1 hg' with h1 | h1
      · obtain ⟨z, hz, zn, zm, zx, zm2, zw⟩ := h.row h1
        exact ⟨z, (hmem _).2 (.inr ⟨hz, fun e => hnot g' h1 (zx ▸ e.2)⟩), zn, zm, zx, zm2, zw⟩
      · obtain rfl := List.mem_singleton.1 h1
        exact ⟨gotR r, (hmem _).2 (.inl rfl), hrn, hrw, hax, haw, rfl⟩
    · rintro ⟨z, hz, zn, zm, rfl, rfl, rfl⟩
      rcases (hmem z).1 hz with rfl | ⟨h1, h2⟩
      · exact ⟨⟨y.x, y.m, 0, 0⟩, List.mem_append.2 (.inr (List.mem_singleton.2 rfl)), hax.symm, haw.symm, rfl⟩
      · obtain ⟨g', hg', e1, e2, e3⟩ := h.hold h1 zn zm
        exact ⟨g', List.mem_append.2 (.inl hg'), e1, e2, e3⟩
  · have old : ∀ g ∈ Q.H ++ [(⟨y.x, y.m, 0, 0⟩ : Hd)], g.w ≠ 0 → g ∈ Q.H := fun g hg hw => by
      rcases List.mem_append.1 hg with h1 | h1
      · exact h1
      · obtain rfl := List.mem_singleton.1 h1
        exact absurd rfl hw
    have h1 := old g1 hg1 hw1
    have h3 := old g2 hg2 hw2
    rcases (hmem a1).1 ha1 with rfl | ⟨h5, -⟩
    · exact absurd x1.symm (hnot g1 h1)
    rcases (hmem b1).1 hb1 with rfl | ⟨h6, -⟩
    · exact absurd x2.symm (hnot g2 h3)
    exact h.ord g1 h1 g2 h3 hw1 hw2 a1 h5 b1 h6 n1 n2 m1 m2 x1 x2
  · have hw := h.wish x m
    rw [hW] at hw
    constructor
    · rintro ⟨z, hz, rfl, rfl⟩
      obtain ⟨s, hs, sn, sm, sx, sw⟩ := hw.1 ⟨z, List.mem_cons_of_mem _ hz, rfl, rfl⟩
      exact ⟨s, (hmem s).2 (.inr ⟨hs, fun e => hnotW z hz (sx ▸ e.2)⟩), sn, sm, sx, sw⟩
    · rintro ⟨s, hs, sn, sm, sx, sw⟩
      rcases (hmem s).1 hs with rfl | ⟨h1, h2⟩
      · exact absurd sm hrw
      · obtain ⟨z, hz, zx, zm⟩ := hw.2 ⟨s, h1, sn, sm, sx, sw⟩
        rcases List.mem_cons.1 hz with rfl | hz
        · exact absurd ⟨sn.trans hrn.symm, by rw [sx, ← zx, hax]⟩ h2
        · exact ⟨z, hz, zx, zm⟩
  · have hw := h.word
    rw [hW] at hw
    refine List.Pairwise.imp ?_ (List.pairwise_cons.1 hw).2
    intro u z hyz a1 ha1 b1 hb1 n1 n2 m1 m2 x1 x2
    rcases (hmem a1).1 ha1 with rfl | ⟨h5, -⟩
    · exact absurd m1 hrw
    rcases (hmem b1).1 hb1 with rfl | ⟨h6, -⟩
    · exact absurd m2 hrw
    exact hyz a1 h5 b1 h6 n1 n2 m1 m2 x1 x2
theorem doneB (hd0 : DOk R T) (h : SimD Q R n) (hd : DoneB n R) : stepB Q = none := by
  cases hW : Q.W with
  | nil => unfold stepB; rw [hW]
  | cons y W =>
    obtain ⟨a, ha, han, ham, hax, haw, hamin⟩ := head_row hd0 h hW
    unfold stepB
    rw [hW]
    simp only
    rw [if_neg]
    rintro hc
    simp only [Bool.and_eq_true, Bool.not_eq_true'] at hc
    rcases hd a ha han ham hamin with e | e
    · have := h.want.2 e; rw [hc.1] at this; cases this
    · exact e (by rw [hax, haw]; exact (h.free _ _).1 hc.2)
theorem runsA {R' : List Dr} (hr : RunsD (StepDA n) (DoneA n) R R') : ∀ {Q : Qu}, Pre Q → DOk R T → SimD Q R n → ∃ xs Q', Runs stepA Q xs Q' ∧ SimD Q' R' n ∧ DOk R' T ∧ Pre Q' := by
  induction hr with
  | stop hd => exact fun hp ho h => ⟨[], _, .stop (doneA h hp hd), h, ho, hp⟩
  | step hs _ ih =>
    intro Q hp ho h
    obtain ⟨Q1, x, h1, h2, h3, h4⟩ := simA hp ho h hs
    obtain ⟨xs, Q', k1, k2, k3, k4⟩ := ih h4 h3 h2
    exact ⟨x :: xs, Q', .step h1 k1, k2, k3, k4⟩
theorem runsB {R' : List Dr} (hr : RunsD (StepDB n) (DoneB n) R R') : ∀ {Q : Qu}, Pre Q → DOk R T → SimD Q R n → ∃ xs Q', Runs stepB Q xs Q' ∧ SimD Q' R' n ∧ DOk R' T ∧ Pre Q' := by
  induction hr with
  | stop hd => exact fun hp ho h => ⟨[], _, .stop (doneB ho h hd), h, ho, hp⟩
  | step hs _ ih =>
    intro Q hp ho h
    obtain ⟨Q1, x, h1, h2, h3, h4⟩ := simB hp ho h hs
    obtain ⟨xs, Q', k1, k2, k3, k4⟩ := ih h4 h3 h2
    exact ⟨x :: xs, Q', .step h1 k1, k2, k3, k4⟩
theorem gives_sim {R' : List Dr} (hg : GivesD n R R') (hp : Pre Q) (ho : DOk R T) (h : SimD Q R n) : ∃ xs Q', Gives Q xs Q' ∧ SimD Q' R' n ∧ DOk R' T := by
  obtain ⟨R1, h1, h2⟩ := hg
  obtain ⟨xs, Q1, k1, k2, k3, k4⟩ := runsA h1 hp ho h
  obtain ⟨ys, Q', l1, l2, l3, -⟩ := runsB h2 k4 k3 k2
  exact ⟨xs ++ ys, Q', ⟨xs, ys, Q1, k1, l1, rfl⟩, l2, l3⟩
/-- rows of other names stay as they are -/
theorem gives_other {R' : List Dr} (hg : GivesD n R R') (ho : DOk R T) : DOk R' T ∧ ∀ z : Dr, z.n ≠ n → (z ∈ R' ↔ z ∈ R) := by
  have hA : ∀ {R R' : List Dr}, RunsD (StepDA n) (DoneA n) R R' → DOk R T → DOk R' T ∧ ∀ z : Dr, z.n ≠ n → (z ∈ R' ↔ z ∈ R) := fun hr => by
    induction hr with
    | stop hd => exact fun ho => ⟨ho, fun z _ => Iff.rfl⟩
    | step hs _ ih =>
      intro ho
      obtain ⟨r, hr, ⟨hrn, hrm, hrw, hrf⟩, hmin, rfl⟩ := hs
      obtain ⟨i1, i2⟩ := ih (ho.got hr hrw)
      exact ⟨i1, fun z hz => (i2 z hz).trans (upd_other (r' := gotR r) ho hr rfl (fun e => hz (e.trans hrn)))⟩
  have hB : ∀ {R R' : List Dr}, RunsD (StepDB n) (DoneB n) R R' → DOk R T → DOk R' T ∧ ∀ z : Dr, z.n ≠ n → (z ∈ R' ↔ z ∈ R) := fun hr => by
    induction hr with
    | stop hd => exact fun ho => ⟨ho, fun z _ => Iff.rfl⟩
    | step hs _ ih =>
      intro ho
      obtain ⟨r, hr, hrn, hrm, hmin, hnw, hrf, rfl⟩ := hs
      obtain ⟨i1, i2⟩ := ih (ho.got hr (ho.ww r hr hrm))
      exact ⟨i1, fun z hz => (i2 z hz).trans (upd_other (r' := gotR r) ho hr rfl (fun e => hz (e.trans hrn)))⟩
  obtain ⟨R1, h1, h2⟩ := hg
  obtain ⟨a1, a2⟩ := hA h1 ho
  obtain ⟨b1, b2⟩ := hB h2 a1
  exact ⟨b1, fun z hz => (b2 z hz).trans (a2 z hz)⟩
end
end

/-!
  Layer 9 (locks), plain: a call of Ask, the document's way, is a call of Ask.
-/
section
set_option linter.unusedVariables false
set_option linter.unusedSimpArgs false

section
variable {Q : Qu} {R R1 : List Dr} {T t : Int} {n : Nm}
/-- rows of a name alone count -/
theorem SimD.congr (h : SimD Q R n) (hr : ∀ z : Dr, z.n = n → (z ∈ R1 ↔ z ∈ R)) : SimD Q R1 n := by
  refine ⟨fun x m w => ?_, fun g1 hg1 g2 hg2 w1 w2 a ha b hb an bn => h.ord g1 hg1 g2 hg2 w1 w2 a ((hr a an).1 ha) b ((hr b bn).1 hb) an bn, fun x m => ?_, h.word.imp fun hyz a ha b hb an bn => hyz a ((hr a an).1 ha) b ((hr b bn).1 hb) an bn⟩
  · rw [h.held x m w]
    constructor
    · rintro ⟨r, hr1, hn, hrest⟩; exact ⟨r, (hr r hn).2 hr1, hn, hrest⟩
    · rintro ⟨r, hr1, hn, hrest⟩; exact ⟨r, (hr r hn).1 hr1, hn, hrest⟩
  · rw [h.wish x m]
    constructor
    · rintro ⟨r, hr1, hn, hrest⟩; exact ⟨r, (hr r hn).2 hr1, hn, hrest⟩
    · rintro ⟨r, hr1, hn, hrest⟩; exact ⟨r, (hr r hn).1 hr1, hn, hrest⟩
/-- who waits at a name -/
theorem SimD.waits (h : SimD Q R n) (ho : DOk R T) (x : Int) : waitsIn x Q ↔ ∃ r ∈ R, r.n = n ∧ r.x = x ∧ r.w ≠ 0 := by
  constructor
  · rintro (⟨g, hg, rfl, hw⟩ | ⟨y, hy, rfl⟩)
    · obtain ⟨r, hr, rn, rm, rx, rm2, rw'⟩ := h.row hg
      exact ⟨r, hr, rn, rx, by rw [rw']; exact hw⟩
    · obtain ⟨r, hr, rn, rm, rx, rw'⟩ := (h.wish y.x y.m).1 ⟨y, hy, rfl, rfl⟩
      exact ⟨r, hr, rn, rx, ho.ww r hr rm⟩
  · rintro ⟨r, hr, rn, rfl, hw⟩
    by_cases hm : r.m = 0
    · obtain ⟨y, hy, yx, -⟩ := (h.wish r.x r.w).2 ⟨r, hr, rn, hm, rfl, rfl⟩
      exact .inr ⟨y, hy, yx⟩
    · obtain ⟨g, hg, gx, gm, gw⟩ := h.hold hr rn hm
      exact .inl ⟨g, hg, gx, by rw [gw]; exact hw⟩
/-- a hold turns, and its row -/
theorem sim_upd (hp : Pre Q) (ho : DOk R T) (h : SimD Q R n) {k : Nat} (hk : k < Q.H.length) {r r' : Dr} (hr : r ∈ R) (hrn : r.n = n) (hrm : r.m ≠ 0) (hrx : r.x = Q.H[k].x) (g' : Hd) (hgx : g'.x = Q.H[k].x) (hn' : r'.n = n) (hx' : r'.x = r.x) (hm' : r'.m = g'.m) (hw' : r'.w = g'.w) (hmz : r'.m ≠ 0)
    (hord : g'.w ≠ 0 → (∀ g ∈ Q.H, g.t < g'.t) ∧ ∀ b ∈ R, b.t < r'.t) : SimD ⟨Q.H.set k g', Q.W⟩ (updR R r r') n := by
  have hmem := fun z => updR_mem ho hr (r' := r') (z := z)
  have new : ∀ a ∈ updR R r r', a.n = n → a.x = Q.H[k].x → a = r' := fun a ha an ax => by
    rcases (hmem a).1 ha with e | ⟨h1, h2⟩
    · exact e
    · exact absurd ⟨an.trans hrn.symm, ax.trans hrx.symm⟩ h2
  have old : ∀ a ∈ updR R r r', a.x ≠ Q.H[k].x → a ∈ R := fun a ha ax => by
    rcases (hmem a).1 ha with e | ⟨h1, h2⟩
    · rw [e] at ax; exact absurd (hx'.trans hrx) ax
    · exact h1
  have wis : ∀ a : Dr, a.m = 0 → (a ∈ updR R r r' ↔ a ∈ R) := fun a am => by
    rw [hmem a]
    constructor
    · rintro (e | ⟨h1, -⟩)
      · rw [e] at am; exact absurd am hmz
      · exact h1
    · refine fun h1 => .inr ⟨h1, fun e => ?_⟩
      have := ho.one h1 hr e.1 e.2
      rw [this] at am; exact hrm am
  refine ⟨fun x m w => ⟨?_, ?_⟩, fun g1 hg1 g2 hg2 w1 w2 a ha b hb an bn am bm ax bx => ?_, fun x m => ?_, ?_⟩
  · rintro ⟨g1, hg1, rfl, rfl, rfl⟩
    rcases mem_set hk hg1 with rfl | ⟨i, hi, hik, rfl⟩
    · exact ⟨r', (hmem _).2 (.inl rfl), hn', hmz, hx'.trans (hrx.trans hgx.symm), hm', hw'⟩
    · obtain ⟨z, hz, zn, zm, zx, zm2, zw⟩ := h.row (List.getElem_mem hi)
      exact ⟨z, (hmem _).2 (.inr ⟨hz, fun e => ids_ne hp.hnd hi hk hik (by rw [← zx, e.2, hrx])⟩), zn, zm, zx, zm2, zw⟩
  · rintro ⟨z, hz, zn, zm, rfl, rfl, rfl⟩
    rcases (hmem z).1 hz with rfl | ⟨h1, h2⟩
    · exact ⟨g', set_at hk g', hgx.trans (hrx.symm.trans hx'.symm), hm'.symm, hw'.symm⟩
    · obtain ⟨g1, hg1, e1, e2, e3⟩ := h.hold h1 zn zm
      obtain ⟨i, hi, rfl⟩ := List.mem_iff_getElem.1 hg1
      by_cases e : i = k
      · subst e
        exact absurd ⟨zn.trans hrn.symm, e1.symm.trans hrx.symm⟩ h2
      · exact ⟨Q.H[i], set_far hi e g', e1, e2, e3⟩
  · rcases mem_set hk hg1 with rfl | ⟨i, hi, hik, rfl⟩
    · have ea := new a ha an (ax.trans hgx)
      subst ea
      rcases mem_set hk hg2 with rfl | ⟨j, hj, hjk, rfl⟩
      · have eb := new b hb bn (bx.trans hgx)
        subst eb
        exact ⟨fun h => absurd h (Int.lt_irrefl _), fun h => absurd h (Int.lt_irrefl _)⟩
      · have hb2 := old b hb (by rw [bx]; exact ids_ne hp.hnd hj hk hjk)
        have h1 := (hord w1).1 _ (List.getElem_mem hj)
        have h2 := (hord w1).2 b hb2
        constructor <;> intro h3 <;> omega
    · have ha2 := old a ha (by rw [ax]; exact ids_ne hp.hnd hi hk hik)
      rcases mem_set hk hg2 with rfl | ⟨j, hj, hjk, rfl⟩
      · have eb := new b hb bn (bx.trans hgx)
        subst eb
        have h1 := (hord w2).1 _ (List.getElem_mem hi)
        have h2 := (hord w2).2 a ha2
        exact ⟨fun _ => h2, fun _ => h1⟩
      · have hb2 := old b hb (by rw [bx]; exact ids_ne hp.hnd hj hk hjk)
        exact h.ord _ (List.getElem_mem hi) _ (List.getElem_mem hj) w1 w2 a ha2 b hb2 an bn am bm ax bx
  · rw [show (∃ y ∈ (⟨Q.H.set k g', Q.W⟩ : Qu).W, y.x = x ∧ y.m = m) ↔ ∃ y ∈ Q.W, y.x = x ∧ y.m = m from Iff.rfl, h.wish x m]
    constructor
    · rintro ⟨s, hs, sn, sm, hrest⟩; exact ⟨s, (wis s sm).2 hs, sn, sm, hrest⟩
    · rintro ⟨s, hs, sn, sm, hrest⟩; exact ⟨s, (wis s sm).1 hs, sn, sm, hrest⟩
  · exact h.word.imp fun hyz a ha b hb an bn am bm => hyz a ((wis a am).1 ha) b ((wis b bm).1 hb) an bn am bm
theorem DOk.snoc (ho : DOk R T) {r : Dr} (hno : ∀ z ∈ R, ¬ (z.n = r.n ∧ z.x = r.x)) (ht : r.t = T + 1) (hww : r.m = 0 → r.w ≠ 0) (hms : (r.m = 0 ∨ IsM r.m) ∧ (r.w = 0 ∨ IsM r.w)) : DOk (R ++ [r]) (T + 1) := by
  have hm : ∀ z, z ∈ R ++ [r] → z ∈ R ∨ z = r := fun z hz => by
    rcases List.mem_append.1 hz with h | h
    · exact .inl h
    · exact .inr (List.mem_singleton.1 h)
  refine ⟨?_, fun z hz => ?_, fun a ha b hb aw bw hab => ?_, fun z hz => ?_, fun z hz => ?_⟩
  · rw [List.pairwise_append]
    exact ⟨ho.once, List.pairwise_singleton _ _, fun a ha b hb => by obtain rfl := List.mem_singleton.1 hb; exact hno a ha⟩
  · rcases hm z hz with h | rfl
    · have := ho.turn z h; omega
    · omega
  · rcases hm a ha with h1 | rfl
    · rcases hm b hb with h2 | rfl
      · exact ho.tdis a h1 b h2 aw bw hab
      · have := ho.turn a h1; omega
    · rcases hm b hb with h2 | rfl
      · have := ho.turn b h2; omega
      · rfl
  · rcases hm z hz with h | rfl
    · exact ho.ww z h
    · exact hww
  · rcases hm z hz with h | rfl
    · exact ho.ms z h
    · exact hms
theorem DOk.up (ho : DOk R T) {T' : Int} (h : T ≤ T') : DOk R T' := ⟨ho.once, fun r hr => Int.le_trans (ho.turn r hr) h, ho.tdis, ho.ww, ho.ms⟩
/-- a new hold, and its row -/
theorem sim_hold (ho : DOk R T) (h : SimD Q R n) {x m : Int} (hno : ∀ z ∈ R, ¬ (z.n = n ∧ z.x = x)) (hm : m ≠ 0) (u : Int) : SimD ⟨Q.H ++ [⟨x, m, 0, 0⟩], Q.W⟩ (R ++ [⟨n, x, m, 0, u⟩]) n := by
  have old : ∀ g ∈ Q.H ++ [(⟨x, m, 0, 0⟩ : Hd)], g.w ≠ 0 → g ∈ Q.H := fun g hg hw => by
    rcases List.mem_append.1 hg with h1 | h1
    · exact h1
    · obtain rfl := List.mem_singleton.1 h1
      exact absurd rfl hw
  have wis : ∀ a : Dr, a.m = 0 → (a ∈ R ++ [(⟨n, x, m, 0, u⟩ : Dr)] ↔ a ∈ R) := fun a am => by
    rw [List.mem_append, List.mem_singleton]
    exact ⟨fun h1 => h1.resolve_right fun e => hm (by rw [e] at am; exact am), .inl⟩
  have oldR : ∀ g ∈ Q.H, ∀ a ∈ R ++ [(⟨n, x, m, 0, u⟩ : Dr)], a.x = g.x → a ∈ R := fun g hg a ha ax => by
    rcases List.mem_append.1 ha with h1 | h1
    · exact h1
    · obtain rfl := List.mem_singleton.1 h1
      obtain ⟨z, hz, zn, zm, zx, -⟩ := h.row hg
      exact absurd ⟨zn, zx.trans ax.symm⟩ (hno z hz)
  refine ⟨fun y m' w => ⟨?_, ?_⟩, fun g1 hg1 g2 hg2 w1 w2 a ha b hb an bn am bm ax bx => ?_, fun y m' => ?_, ?_⟩
  · rintro ⟨g1, hg1, rfl, rfl, rfl⟩
    rcases List.mem_append.1 hg1 with h1 | h1
    · obtain ⟨z, hz, hrest⟩ := h.row h1
      exact ⟨z, List.mem_append.2 (.inl hz), hrest⟩
    · obtain rfl := List.mem_singleton.1 h1
      exact ⟨_, List.mem_append.2 (.inr (List.mem_singleton.2 rfl)), rfl, hm, rfl, rfl, rfl⟩
  · rintro ⟨z, hz, zn, zm, rfl, rfl, rfl⟩
    rcases List.mem_append.1 hz with h1 | h1
    · obtain ⟨g1, hg1, e⟩ := h.hold h1 zn zm
      exact ⟨g1, List.mem_append.2 (.inl hg1), e⟩
    · obtain rfl := List.mem_singleton.1 h1
      exact ⟨_, List.mem_append.2 (.inr (List.mem_singleton.2 rfl)), rfl, rfl, rfl⟩
  · have h1 := old g1 hg1 w1
    have h2 := old g2 hg2 w2
    exact h.ord g1 h1 g2 h2 w1 w2 a (oldR g1 h1 a ha ax) b (oldR g2 h2 b hb bx) an bn am bm ax bx
  · rw [show (∃ y' ∈ (⟨Q.H ++ [⟨x, m, 0, 0⟩], Q.W⟩ : Qu).W, y'.x = y ∧ y'.m = m') ↔ ∃ y' ∈ Q.W, y'.x = y ∧ y'.m = m' from Iff.rfl, h.wish y m']
    constructor
    · rintro ⟨s, hs, sn, sm, hrest⟩; exact ⟨s, (wis s sm).2 hs, sn, sm, hrest⟩
    · rintro ⟨s, hs, sn, sm, hrest⟩; exact ⟨s, (wis s sm).1 hs, sn, sm, hrest⟩
  · exact h.word.imp fun hyz a ha b hb an bn am bm => hyz a ((wis a am).1 ha) b ((wis b bm).1 hb) an bn am bm
/-- a new wish, and its row -/
theorem sim_wish (ho : DOk R T) (h : SimD Q R n) {x m : Int} (hno : ∀ z ∈ R, ¬ (z.n = n ∧ z.x = x)) {u : Int} (hu : T < u) : SimD ⟨Q.H, Q.W ++ [⟨x, m⟩]⟩ (R ++ [⟨n, x, 0, m, u⟩]) n := by
  have hol : ∀ a : Dr, a.m ≠ 0 → (a ∈ R ++ [(⟨n, x, 0, m, u⟩ : Dr)] ↔ a ∈ R) := fun a am => by
    rw [List.mem_append, List.mem_singleton]
    exact ⟨fun h1 => h1.resolve_right fun e => am (by rw [e]), .inl⟩
  have oldR : ∀ y ∈ Q.W, ∀ a ∈ R ++ [(⟨n, x, 0, m, u⟩ : Dr)], a.x = y.x → a ∈ R := fun y hy a ha ax => by
    rcases List.mem_append.1 ha with h1 | h1
    · exact h1
    · obtain rfl := List.mem_singleton.1 h1
      obtain ⟨z, hz, zn, zm, zx, -⟩ := (h.wish y.x y.m).1 ⟨y, hy, rfl, rfl⟩
      exact absurd ⟨zn, zx.trans ax.symm⟩ (hno z hz)
  have newR : ∀ a ∈ R ++ [(⟨n, x, 0, m, u⟩ : Dr)], a.n = n → a.x = x → a = ⟨n, x, 0, m, u⟩ := fun a ha an ax => by
    rcases List.mem_append.1 ha with h1 | h1
    · exact absurd ⟨an, ax⟩ (hno a h1)
    · exact List.mem_singleton.1 h1
  refine ⟨fun y m' w => ?_, fun g1 hg1 g2 hg2 w1 w2 a ha b hb an bn am bm ax bx => h.ord g1 hg1 g2 hg2 w1 w2 a ((hol a am).1 ha) b ((hol b bm).1 hb) an bn am bm ax bx, fun y m' => ⟨?_, ?_⟩, ?_⟩
  · rw [show (∃ g ∈ (⟨Q.H, Q.W ++ [⟨x, m⟩]⟩ : Qu).H, g.x = y ∧ g.m = m' ∧ g.w = w) ↔ ∃ g ∈ Q.H, g.x = y ∧ g.m = m' ∧ g.w = w from Iff.rfl, h.held y m' w]
    constructor
    · rintro ⟨s, hs, sn, sm, hrest⟩; exact ⟨s, (hol s sm).2 hs, sn, sm, hrest⟩
    · rintro ⟨s, hs, sn, sm, hrest⟩; exact ⟨s, (hol s sm).1 hs, sn, sm, hrest⟩
  · rintro ⟨z, hz, rfl, rfl⟩
    rcases List.mem_append.1 hz with h1 | h1
    · obtain ⟨s, hs, hrest⟩ := (h.wish z.x z.m).1 ⟨z, h1, rfl, rfl⟩
      exact ⟨s, List.mem_append.2 (.inl hs), hrest⟩
    · obtain rfl := List.mem_singleton.1 h1
      exact ⟨_, List.mem_append.2 (.inr (List.mem_singleton.2 rfl)), rfl, rfl, rfl, rfl⟩
  · rintro ⟨s, hs, sn, sm, rfl, rfl⟩
    rcases List.mem_append.1 hs with h1 | h1
    · obtain ⟨z, hz, e⟩ := (h.wish s.x s.w).2 ⟨s, h1, sn, sm, rfl, rfl⟩
      exact ⟨z, List.mem_append.2 (.inl hz), e⟩
    · obtain rfl := List.mem_singleton.1 h1
      exact ⟨⟨x, m⟩, List.mem_append.2 (.inr (List.mem_singleton.2 rfl)), rfl, rfl⟩
  · show (Q.W ++ [(⟨x, m⟩ : Ws)]).Pairwise _
    rw [List.pairwise_append]
    refine ⟨?_, List.pairwise_singleton _ _, ?_⟩
    · refine List.Pairwise.imp_of_mem ?_ h.word
      intro y z hy hz hyz a ha b hb an bn am bm ax bx
      exact hyz a (oldR y hy a ha ax) b (oldR z hz b hb bx) an bn am bm ax bx
    · intro y hy z hz a ha b hb an bn am bm ax bx
      obtain rfl := List.mem_singleton.1 hz
      have h1 := oldR y hy a ha ax
      have h2 := newR b hb bn bx
      have := ho.turn a h1
      rw [h2]
      show a.t < u
      omega
/-- the hold of a row's place -/
theorem SimD.at_ (h : SimD Q R n) {r : Dr} (hr : r ∈ R) (hn : r.n = n) (hm : r.m ≠ 0) (hp : Pre Q) : ∃ k, ∃ hk : k < Q.H.length, atL r.x Q.H 0 = (k : Int) ∧ Q.H[k].x = r.x ∧ Q.H[k].m = r.m ∧ Q.H[k].w = r.w := by
  obtain ⟨g, hg, gx, gm, gw⟩ := h.hold hr hn hm
  obtain ⟨i, hi, rfl⟩ := List.mem_iff_getElem.1 hg
  rcases atL_cases r.x Q.H with ⟨-, e2⟩ | ⟨k, hk, e1, e2, e3⟩
  · exact absurd gx (e2 _ (List.getElem_mem hi))
  · by_cases e : i = k
    · subst e
      exact ⟨i, hi, e1, e2, gm, gw⟩
    · exact absurd (gx.trans e2.symm) (ids_ne hp.hnd hi hk e)
theorem SimD.atn (h : SimD Q R n) {x : Int} (hno : ∀ z ∈ R, ¬ (z.n = n ∧ z.x = x ∧ z.m ≠ 0)) : atL x Q.H 0 = -1 := by
  rcases atL_cases x Q.H with ⟨e, -⟩ | ⟨k, hk, e1, e2, e3⟩
  · exact e
  · obtain ⟨r, hr, rn, rm, rx, -⟩ := h.row (List.getElem_mem hk)
    exact absurd ⟨rn, rx.trans e2, rm⟩ (hno r hr)
theorem SimD.mode (h : SimD Q R n) (hp : Pre Q) {x m : Int} (hm : (m = 0 ∧ ∀ r ∈ R, ¬ (r.x = x ∧ r.n = n ∧ r.m ≠ 0)) ∨ ∃ r ∈ R, r.x = x ∧ r.n = n ∧ r.m ≠ 0 ∧ m = r.m) : modeL x Q.H = m := by
  rcases hm with ⟨rfl, hno⟩ | ⟨r, hr, rfl, rn, rm, rfl⟩
  · exact modeL_none (h.atn fun z hz e => hno z hz ⟨e.2.1, e.1, e.2.2⟩)
  · obtain ⟨k, hk, e1, e2, e3, e4⟩ := h.at_ hr rn rm hp
    rw [modeL_some e1 hk, e3]
/-- who holds asks again -/
theorem ask_hold (hp : Pre Q) (ho : DOk R T) (h : SimD Q R n) {r : Dr} (hr : r ∈ R) (hn : r.n = n) (hm : r.m ≠ 0) (hx : ¬ waitsIn r.x Q) (ht : ∀ g ∈ Q.H, g.t ≤ t) {m : Int} (him : IsM m) :
    ((joinL r.m m = r.m ∨ freeD R r.x n (joinL r.m m)) → (askQ Q r.x m t).2.1 = true ∧ SimD (askQ Q r.x m t).1 (updR R r ⟨r.n, r.x, joinL r.m m, r.w, r.t⟩) n ∧ DOk (updR R r ⟨r.n, r.x, joinL r.m m, r.w, r.t⟩) (T + 1)) ∧
    (¬ (joinL r.m m = r.m ∨ freeD R r.x n (joinL r.m m)) → (askQ Q r.x m t).2.1 = false ∧ SimD (askQ Q r.x m t).1 (updR R r ⟨r.n, r.x, r.m, joinL r.m m, T + 1⟩) n ∧ DOk (updR R r ⟨r.n, r.x, r.m, joinL r.m m, T + 1⟩) (T + 1)) := by
  obtain ⟨k, hk, e1, e2, e3, e4⟩ := h.at_ hr hn hm hp
  have hrm : IsM r.m := (ho.ms r hr).1.resolve_left hm
  have hj : IsM (joinL r.m m) := join_isM hrm him
  have hrw : r.w = 0 := by
    by_cases e : r.w = 0
    · exact e
    · exact absurd ((h.waits ho r.x).2 ⟨r, hr, hn, rfl, e⟩) hx
  have hkw : Q.H[k].w = 0 := e4.trans hrw
  have ho1 := ho.up (T' := T + 1) (by omega)
  rw [askQ_at e1 hk, e3]
  refine ⟨fun hc => ?_, fun hc => ?_⟩
  · have hd : DOk (updR R r ⟨r.n, r.x, joinL r.m m, r.w, r.t⟩) (T + 1) := ho1.upd hr ⟨rfl, rfl⟩ (ho1.turn r hr) (fun e => absurd hrw e) (fun e => absurd e (isM_ne hj)) ⟨.inr hj, (ho.ms r hr).2⟩
    by_cases c1 : joinL r.m m = r.m
    · rw [if_pos c1]
      refine ⟨rfl, ?_, hd⟩
      rw [c1]
      refine h.congr fun z hz => ?_
      rw [updR_mem ho hr]
      constructor
      · rintro (rfl | ⟨h1, -⟩)
        · exact hr
        · exact h1
      · intro h1
        by_cases e : z.n = r.n ∧ z.x = r.x
        · left; exact ho.one h1 hr e.1 e.2
        · exact .inr ⟨h1, e⟩
    · rw [if_neg c1, if_pos ((h.free _ _).2 (hc.resolve_left c1))]
      exact ⟨rfl, sim_upd hp ho h hk hr hn hm e2.symm _ rfl hn rfl rfl e4.symm (isM_ne hj) (fun e => absurd hkw e), hd⟩
  · have c1 : ¬ joinL r.m m = r.m := fun e => hc (.inl e)
    have c2 : ¬ freeL r.x (joinL r.m m) Q.H = true := fun e => hc (.inr ((h.free _ _).1 e))
    rw [if_neg c1, if_neg c2]
    refine ⟨rfl, sim_upd hp ho h hk hr hn hm e2.symm _ rfl hn rfl rfl rfl hm (fun _ => ⟨fun g hg => ?_, fun b hb => ?_⟩), ho1.upd hr ⟨rfl, rfl⟩ (Int.le_refl _) (fun _ z hz _ _ => ?_) (fun e => absurd e hm) ⟨(ho.ms r hr).1, .inr hj⟩⟩
    · have := ht g hg
      show g.t < t + 1
      omega
    · have := ho.turn b hb
      show b.t < T + 1
      omega
    · have := ho.turn z hz
      show T + 1 ≠ z.t
      omega
/-- who doesn't hold asks -/
theorem ask_none (ho : DOk R T) (h : SimD Q R n) {x m : Int} (him : IsM m) (hno : ∀ z ∈ R, ¬ (z.n = n ∧ z.x = x)) :
    (((∀ r ∈ R, ¬ wishP n r) ∧ ¬ wantD R n ∧ freeD R x n m) → (askQ Q x m t).2.1 = true ∧ SimD (askQ Q x m t).1 (R ++ [⟨n, x, m, 0, T + 1⟩]) n ∧ DOk (R ++ [⟨n, x, m, 0, T + 1⟩]) (T + 1)) ∧
    (¬ ((∀ r ∈ R, ¬ wishP n r) ∧ ¬ wantD R n ∧ freeD R x n m) → (askQ Q x m t).2.1 = false ∧ SimD (askQ Q x m t).1 (R ++ [⟨n, x, 0, m, T + 1⟩]) n ∧ DOk (R ++ [⟨n, x, 0, m, T + 1⟩]) (T + 1)) := by
  have e1 := h.atn (x := x) fun z hz e => hno z hz ⟨e.1, e.2.1⟩
  have hiff : (Q.W.isEmpty && !wantL Q.H && freeL x m Q.H) = true ↔ (∀ r ∈ R, ¬ wishP n r) ∧ ¬ wantD R n ∧ freeD R x n m := by
    rw [Bool.and_eq_true, Bool.and_eq_true, h.free, Bool.not_eq_true', List.isEmpty_iff, and_assoc]
    refine and_congr ?_ (and_congr ?_ Iff.rfl)
    · constructor
      · intro e r hr hw
        obtain ⟨y, hy, -⟩ := (h.wish r.x r.w).2 ⟨r, hr, hw.1, hw.2, rfl, rfl⟩
        rw [e] at hy; cases hy
      · intro e
        cases hW : Q.W with
        | nil => rfl
        | cons y W =>
          obtain ⟨r, hr, rn, rm, -⟩ := (h.wish y.x y.m).1 ⟨y, by rw [hW]; exact List.mem_cons_self .., rfl, rfl⟩
          exact absurd ⟨rn, rm⟩ (e r hr)
    · rw [← h.want]; simp
  unfold askQ
  rw [e1, if_neg (by decide)]
  refine ⟨fun hc => ?_, fun hc => ?_⟩
  · rw [if_pos (hiff.2 hc)]
    exact ⟨rfl, sim_hold ho h hno (isM_ne him) _, ho.snoc (by exact hno) rfl (fun e => absurd e (isM_ne him)) ⟨.inr him, .inl rfl⟩⟩
  · rw [if_neg fun e => hc (hiff.1 e)]
    exact ⟨rfl, sim_wish ho h hno (by omega), ho.snoc (by exact hno) rfl (fun _ => isM_ne him) ⟨.inl rfl, .inr him⟩⟩
end
end

/-!
  Layer 9 (locks), plain: a call of Release, the document's way, is a call of Release; turns stay below the table's.
-/
section
set_option linter.unusedVariables false
set_option linter.unusedSimpArgs false

def remD (x : Int) (R : List Dr) : List Dr := R.filter fun r => !(r.x == x)
def namesD (x : Int) (R : List Dr) : List Nm := (R.filter fun r => r.x == x).map (·.n)
/-- name by name what can be given is given -/
inductive GivesAll : List Nm → List Dr → List Dr → Prop
  | nil (R : List Dr) : GivesAll [] R R
  | snoc {L : List Nm} {R R1 R2 : List Dr} {n : Nm} (h : GivesAll L R R1) (hg : GivesD n R1 R2) : GivesAll (L ++ [n]) R R2
section
variable {Q : Qu} {R R1 : List Dr} {T t x : Int} {n : Nm}
theorem remD_mem {z : Dr} : z ∈ remD x R ↔ z ∈ R ∧ z.x ≠ x := by
  unfold remD; rw [List.mem_filter]; simp
theorem namesD_mem {k : Nm} : k ∈ namesD x R ↔ ∃ r ∈ R, r.x = x ∧ r.n = k := by
  unfold namesD
  rw [List.mem_map]
  constructor
  · rintro ⟨r, hr, rfl⟩
    rw [List.mem_filter] at hr
    exact ⟨r, hr.1, by simpa using hr.2, rfl⟩
  · rintro ⟨r, hr, e, rfl⟩
    exact ⟨r, List.mem_filter.2 ⟨hr, by simpa using e⟩, rfl⟩
theorem DOk.rem (ho : DOk R T) (x : Int) : DOk (remD x R) T :=
  ⟨ho.once.sublist List.filter_sublist, fun r hr => ho.turn r (remD_mem.1 hr).1, fun a ha b hb => ho.tdis a (remD_mem.1 ha).1 b (remD_mem.1 hb).1, fun r hr => ho.ww r (remD_mem.1 hr).1, fun r hr => ho.ms r (remD_mem.1 hr).1⟩
theorem names_nodup (ho : DOk R T) (x : Int) : (namesD x R).Nodup := by
  unfold namesD List.Nodup
  rw [List.pairwise_map]
  refine List.Pairwise.imp_of_mem ?_ (ho.once.sublist (List.filter_sublist (p := fun r : Dr => r.x == x)))
  intro a b ha hb hab e
  have h1 := (List.mem_filter.1 ha).2
  have h2 := (List.mem_filter.1 hb).2
  simp only [beq_iff_eq] at h1 h2
  exact hab ⟨e, h1.trans h2.symm⟩
theorem sim_rem (h : SimD Q R n) (x : Int) : SimD (remQ x Q) (remD x R) n := by
  have hH : ∀ g, g ∈ (remQ x Q).H ↔ g ∈ Q.H ∧ g.x ≠ x := fun g => by unfold remQ; simp only [List.mem_filter]; simp
  have hW : ∀ g, g ∈ (remQ x Q).W ↔ g ∈ Q.W ∧ g.x ≠ x := fun g => by unfold remQ; simp only [List.mem_filter]; simp
  refine ⟨fun y m w => ⟨?_, ?_⟩, fun g1 hg1 g2 hg2 w1 w2 a ha b hb => h.ord g1 ((hH _).1 hg1).1 g2 ((hH _).1 hg2).1 w1 w2 a (remD_mem.1 ha).1 b (remD_mem.1 hb).1, fun y m => ⟨?_, ?_⟩, ?_⟩
  · rintro ⟨g, hg, rfl, rfl, rfl⟩
    obtain ⟨h1, h2⟩ := (hH g).1 hg
    obtain ⟨r, hr, rn, rm, rx, hrest⟩ := h.row h1
    exact ⟨r, remD_mem.2 ⟨hr, by rw [rx]; exact h2⟩, rn, rm, rx, hrest⟩
  · rintro ⟨r, hr, rn, rm, rfl, rfl, rfl⟩
    obtain ⟨h1, h2⟩ := remD_mem.1 hr
    obtain ⟨g, hg, gx, hrest⟩ := h.hold h1 rn rm
    exact ⟨g, (hH g).2 ⟨hg, by rw [gx]; exact h2⟩, gx, hrest⟩
  · rintro ⟨z, hz, rfl, rfl⟩
    obtain ⟨h1, h2⟩ := (hW z).1 hz
    obtain ⟨r, hr, rn, rm, rx, hrest⟩ := (h.wish z.x z.m).1 ⟨z, h1, rfl, rfl⟩
    exact ⟨r, remD_mem.2 ⟨hr, by rw [rx]; exact h2⟩, rn, rm, rx, hrest⟩
  · rintro ⟨r, hr, rn, rm, rfl, rfl⟩
    obtain ⟨h1, h2⟩ := remD_mem.1 hr
    obtain ⟨z, hz, zx, hrest⟩ := (h.wish r.x r.w).2 ⟨r, h1, rn, rm, rfl, rfl⟩
    exact ⟨z, (hW z).2 ⟨hz, by rw [zx]; exact h2⟩, zx, hrest⟩
  · have hw := h.word.filter (fun h => !(h.x == x))
    exact hw.imp fun hyz a ha b hb => hyz a (remD_mem.1 ha).1 b (remD_mem.1 hb).1
theorem gives_all {q : Nm → Qu} (hp : ∀ n, Pre (q n)) {L : List Nm} {R R' : List Dr} (h : GivesAll L R R') : DOk R T → (∀ n, SimD (q n) R n) → L.Nodup → DOk R' T ∧ ∀ n, (n ∈ L → ∃ xs Q', Gives (q n) xs Q' ∧ SimD Q' R' n) ∧ (n ∉ L → SimD (q n) R' n) := by
  induction h with
  | nil R => exact fun ho hs _ => ⟨ho, fun n => ⟨fun h => (by cases h), fun _ => hs n⟩⟩
  | @snoc L R R1 R2 m h hg ih =>
    intro ho hs hn
    rw [List.nodup_append] at hn
    obtain ⟨o1, i1⟩ := ih ho hs hn.1
    have hm : m ∉ L := fun e => hn.2.2 m e m (List.mem_singleton.2 rfl) rfl
    obtain ⟨xs, Q', k1, k2, k3⟩ := gives_sim hg (hp m) o1 ((i1 m).2 hm)
    obtain ⟨o2, k4⟩ := gives_other hg o1
    refine ⟨o2, fun n => ⟨fun hin => ?_, fun hin => ?_⟩⟩
    · by_cases e : n = m
      · subst e; exact ⟨xs, Q', k1, k2⟩
      · rcases List.mem_append.1 hin with h1 | h1
        · obtain ⟨ys, Q2, l1, l2⟩ := (i1 n).1 h1
          exact ⟨ys, Q2, l1, l2.congr fun z hz => k4 z fun e2 => e (hz.symm.trans e2)⟩
        · exact absurd (List.mem_singleton.1 h1) e
    · have e : n ≠ m := fun e => hin (List.mem_append.2 (.inr (List.mem_singleton.2 e)))
      exact ((i1 n).2 fun h1 => hin (List.mem_append.2 (.inl h1))).congr fun z hz => k4 z fun e2 => e (hz.symm.trans e2)
theorem has_iff (h : SimD Q R n) : hasQ x Q = true ↔ n ∈ namesD x R := by
  rw [namesD_mem]
  unfold hasQ
  rw [Bool.or_eq_true, List.any_eq_true, List.any_eq_true]
  constructor
  · rintro (⟨g, hg, e⟩ | ⟨g, hg, e⟩)
    · obtain ⟨r, hr, rn, rm, rx, -⟩ := h.row hg
      exact ⟨r, hr, rx.trans (by simpa using e), rn⟩
    · obtain ⟨r, hr, rn, rm, rx, -⟩ := (h.wish g.x g.m).1 ⟨g, hg, rfl, rfl⟩
      exact ⟨r, hr, rx.trans (by simpa using e), rn⟩
  · rintro ⟨r, hr, rx, rn⟩
    by_cases hm : r.m = 0
    · obtain ⟨y, hy, yx, -⟩ := (h.wish r.x r.w).2 ⟨r, hr, rn, hm, rfl, rfl⟩
      exact .inr ⟨y, hy, by simpa using yx.trans rx⟩
    · obtain ⟨g, hg, gx, -⟩ := h.hold hr rn hm
      exact .inl ⟨g, hg, by simpa using gx.trans rx⟩
theorem rem_same (h : hasQ x Q = false) : remQ x Q = Q := by
  unfold hasQ at h
  rw [Bool.or_eq_false_iff] at h
  unfold remQ
  rw [filt_eq _ _ h.1, filt_eq _ _ h.2]
/-- a call of Release -/
theorem sim_release {S S' : LS} {R' : List Dr} (hok : OkS S) (ho : DOk R T) (hs : ∀ n, SimD (S.q n) R n) (hr : RelS x S S') (hg : GivesAll (namesD x R) (remD x R) R') : DOk R' T ∧ ∀ n, SimD (S'.q n) R' n := by
  obtain ⟨o1, hall⟩ := gives_all (q := fun n => remQ x (S.q n)) (fun n => (hok.ok n).pre.rem x) hg (ho.rem x) (fun n => sim_rem (hs n) x) (names_nodup ho x)
  refine ⟨o1, fun n => ?_⟩
  obtain ⟨-, ys, h1, -, -⟩ := hr
  obtain ⟨xs, h2, -⟩ := h1 n
  rcases h2 with ⟨h3, h4⟩ | ⟨h3, h4, -⟩
  · obtain ⟨zs, Q', k1, k2⟩ := (hall n).1 ((has_iff (hs n)).1 h3)
    rw [(h4.det k1).2]
    exact k2
  · have := (hall n).2 fun e => by rw [(has_iff (hs n)).2 e] at h3; cases h3
    rw [rem_same h3] at this
    rw [h4]; exact this

/-! ## turns -/
def TB (S : LS) : Prop := 0 ≤ S.turn ∧ ∀ n, ∀ g ∈ (S.q n).H, g.t ≤ S.turn
theorem TB.empty : TB LS.empty := ⟨Int.le_refl _, fun n g hg => by cases hg⟩
theorem askQ_tb {Q : Qu} {x m t : Int} (h0 : 0 ≤ t) (h : ∀ g ∈ Q.H, g.t ≤ t) : ∀ g ∈ (askQ Q x m t).1.H, g.t ≤ (askQ Q x m t).2.2 := by
  rcases atL_cases x Q.H with ⟨e, -⟩ | ⟨k, hk, e1, -, -⟩
  · unfold askQ
    rw [e, if_neg (by decide)]
    split
    · intro g hg
      rcases List.mem_append.1 hg with h1 | h1
      · exact h g h1
      · obtain rfl := List.mem_singleton.1 h1
        exact h0
    · exact h
  · rw [askQ_at e1 hk]
    split
    · exact h
    · split
      · intro g hg
        rcases mem_set hk hg with rfl | ⟨i, hi, -, rfl⟩
        · have := h _ (List.getElem_mem hk); exact this
        · exact h _ (List.getElem_mem hi)
      · intro g hg
        show g.t ≤ t + 1
        rcases mem_set hk hg with rfl | ⟨i, hi, -, rfl⟩
        · exact Int.le_refl _
        · have := h _ (List.getElem_mem hi)
          omega
theorem TB.ask {S : LS} (h : TB S) (x : Int) (n : Nm) (m : Int) : TB (askS S x n m) := by
  have h1 := askQ_turn (S.q n) x m S.turn
  have h0 := h.1
  refine ⟨by show 0 ≤ (askQ (S.q n) x m S.turn).2.2; omega, fun k g hg => ?_⟩
  show g.t ≤ (askQ (S.q n) x m S.turn).2.2
  have hg2 : g ∈ (if k = n then (askQ (S.q n) x m S.turn).1 else S.q k).H := hg
  by_cases e : k = n
  · rw [if_pos e] at hg2
    exact askQ_tb h.1 (h.2 n) g hg2
  · rw [if_neg e] at hg2
    have := h.2 k g hg2
    omega
theorem runsA_tb {Q Q' : Qu} {xs : List Int} (h : Runs stepA Q xs Q') : (∀ g ∈ Q.H, g.t ≤ t) → ∀ g ∈ Q'.H, g.t ≤ t := by
  induction h with
  | stop _ => exact fun h => h
  | step hs _ ih =>
    intro h
    apply ih
    obtain ⟨k, hk, -, -, rfl, -⟩ := stepA_some hs
    intro g hg
    rcases mem_set hk hg with rfl | ⟨i, hi, -, rfl⟩
    · have := h _ (List.getElem_mem hk); exact this
    · exact h _ (List.getElem_mem hi)
theorem runsB_tb {Q Q' : Qu} {xs : List Int} (h : Runs stepB Q xs Q') (h0 : 0 ≤ t) : (∀ g ∈ Q.H, g.t ≤ t) → ∀ g ∈ Q'.H, g.t ≤ t := by
  induction h with
  | stop _ => exact fun h => h
  | step hs _ ih =>
    intro h
    apply ih
    obtain ⟨y, r, -, -, -, rfl, -⟩ := stepB_some hs
    intro g hg
    rcases List.mem_append.1 hg with h1 | h1
    · exact h g h1
    · obtain rfl := List.mem_singleton.1 h1
      exact h0
theorem TB.rel {S S' : LS} (h : TB S) (hr : RelS x S S') : TB S' := by
  obtain ⟨e, ys, h1, -, -⟩ := hr
  refine ⟨by rw [e]; exact h.1, fun n => ?_⟩
  rw [e]
  obtain ⟨xs, h2, -⟩ := h1 n
  rcases h2 with ⟨-, xs1, xs2, Q1, k1, k2, -⟩ | ⟨-, h4, -⟩
  · exact runsB_tb k2 h.1 (runsA_tb k1 fun g hg => h.2 n g (List.mem_filter.1 hg).1)
  · rw [h4]; exact h.2 n
end
end
end Go.Proofs.YtileamjmhhifaaaGreat
