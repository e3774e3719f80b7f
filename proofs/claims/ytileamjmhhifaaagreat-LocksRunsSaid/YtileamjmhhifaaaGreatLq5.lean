/-
  Layer 9 (locks), plain: All and Arcs, the document's way.
-/
import Derived.Test.YtileamjmhhifaaaGreatPkE
namespace Go.Proofs.YtileamjmhhifaaaGreat
set_option linter.unusedVariables false
set_option linter.unusedSimpArgs false

def hoD (r : Dr) : Ho := ⟨r.n, r.x, r.m, r.w⟩
/-- does one row stand ahead of another? -/
def befP (a b : Dr) : Prop := ltN a.n b.n ∨ a.n = b.n ∧ ((a.m ≠ 0 ∧ b.m = 0) ∨ (a.m ≠ 0 ∧ b.m ≠ 0 ∧ a.x < b.x) ∨ (a.m = 0 ∧ b.m = 0 ∧ a.t < b.t))
theorem befP.irrefl (a : Dr) : ¬ befP a a := by
  rintro (h | ⟨-, ⟨h1, h2⟩ | ⟨-, -, h⟩ | ⟨-, -, h⟩⟩)
  · exact ltN.irrefl _ h
  · exact h1 h2
  · omega
  · omega
theorem befP.trans {a b c : Dr} (h : befP a b) (k : befP b c) : befP a c := by
  unfold befP at *
  rcases h with h | ⟨e, h⟩
  · rcases k with k | ⟨e2, k⟩
    · exact .inl (h.trans k)
    · rw [← e2]; exact .inl h
  · rcases k with k | ⟨e2, k⟩
    · rw [e]; exact .inl k
    · refine .inr ⟨e.trans e2, ?_⟩
      rcases h with ⟨h1, h2⟩ | ⟨h1, h2, h3⟩ | ⟨h1, h2, h3⟩
      · rcases k with ⟨k1, k2⟩ | ⟨k1, k2, k3⟩ | ⟨k1, k2, k3⟩
        · exact absurd h2 k1
        · exact absurd h2 k1
        · exact .inl ⟨h1, k2⟩
      · rcases k with ⟨k1, k2⟩ | ⟨k1, k2, k3⟩ | ⟨k1, k2, k3⟩
        · exact .inl ⟨h1, k2⟩
        · exact .inr (.inl ⟨h1, k2, by omega⟩)
        · exact absurd k1 h2
      · rcases k with ⟨k1, k2⟩ | ⟨k1, k2, k3⟩ | ⟨k1, k2, k3⟩
        · exact absurd h2 k1
        · exact absurd h2 k1
        · exact .inr (.inr ⟨h1, k2, by omega⟩)
theorem befP.tri {R : List Dr} {T : Int} (ho : DOk R T) {a b : Dr} (ha : a ∈ R) (hb : b ∈ R) (hne : a ≠ b) : befP a b ∨ befP b a := by
  unfold befP
  rcases ltN.tri a.n b.n with h | h | h
  · exact .inl (.inl h)
  · by_cases am : a.m = 0
    · by_cases bm : b.m = 0
      · have : a.t ≠ b.t := fun e => hne (ho.tdis a ha b hb (ho.ww a ha am) (ho.ww b hb bm) e)
        rcases Int.lt_or_gt_of_ne this with h1 | h1
        · exact .inl (.inr ⟨h, .inr (.inr ⟨am, bm, h1⟩)⟩)
        · exact .inr (.inr ⟨h.symm, .inr (.inr ⟨bm, am, h1⟩)⟩)
      · exact .inr (.inr ⟨h.symm, .inl ⟨bm, am⟩⟩)
    · by_cases bm : b.m = 0
      · exact .inl (.inr ⟨h, .inl ⟨am, bm⟩⟩)
      · have : a.x ≠ b.x := fun e => hne (ho.one ha hb h e)
        rcases Int.lt_or_gt_of_ne this with h1 | h1
        · exact .inl (.inr ⟨h, .inr (.inl ⟨am, bm, h1⟩)⟩)
        · exact .inr (.inr ⟨h.symm, .inr (.inl ⟨bm, am, h1⟩)⟩)
  · exact .inr (.inl h)
/-- two rising lists with the same members, in any strict order -/
theorem strict_ext {α : Type} {lt : α → α → Prop} (irr : ∀ a, ¬ lt a a) (tr : ∀ {a b c}, lt a b → lt b c → lt a c) : ∀ {A C : List α}, A.Pairwise lt → C.Pairwise lt → (∀ p, p ∈ A ↔ p ∈ C) → A = C
  | [], [], _, _, _ => rfl
  | [], y :: s, _, _, h => by have := (h y).2 (List.mem_cons_self ..); cases this
  | x :: r, [], _, _, h => by have := (h x).1 (List.mem_cons_self ..); cases this
  | x :: r, y :: s, ha, hc, h => by
    obtain ⟨a1, a2⟩ := List.pairwise_cons.1 ha
    obtain ⟨c1, c2⟩ := List.pairwise_cons.1 hc
    have hxy : x = y := by
      rcases List.mem_cons.1 ((h x).1 (List.mem_cons_self ..)) with e | e
      · exact e
      rcases List.mem_cons.1 ((h y).2 (List.mem_cons_self ..)) with e' | e'
      · exact e'.symm
      exact absurd (tr (c1 x e) (a1 y e')) (irr _)
    subst hxy
    rw [strict_ext irr tr a2 c2 fun p => ?_]
    constructor
    · intro hp
      rcases List.mem_cons.1 ((h p).1 (List.mem_cons_of_mem _ hp)) with e | e
      · subst e; exact absurd (a1 p hp) (irr p)
      · exact e
    · intro hp
      rcases List.mem_cons.1 ((h p).2 (List.mem_cons_of_mem _ hp)) with e | e
      · subst e; exact absurd (c1 p hp) (irr p)
      · exact e
/-- an element at its place -/
def insAt {α : Type} (L : List α) (k : Nat) (r : α) : List α := L.take k ++ [r] ++ L.drop k
theorem insAt_mem {α : Type} {L : List α} {k : Nat} {r z : α} : z ∈ insAt L k r ↔ z = r ∨ z ∈ L := by
  have : z ∈ L ↔ z ∈ L.take k ∨ z ∈ L.drop k := by rw [← List.mem_append, List.take_append_drop]
  unfold insAt
  rw [List.mem_append, List.mem_append, List.mem_singleton, this]
  constructor
  · rintro ((h | h) | h)
    · exact .inr (.inl h)
    · exact .inl h
    · exact .inr (.inr h)
  · rintro (h | h | h)
    · exact .inl (.inr h)
    · exact .inl (.inl h)
    · exact .inr h
theorem insAt_len {α : Type} {L : List α} {k : Nat} (r : α) (hk : k ≤ L.length) : (insAt L k r).length = L.length + 1 := by
  unfold insAt; simp; omega
theorem insAt_pw {α : Type} {lt : α → α → Prop} (tr : ∀ {a b c}, lt a b → lt b c → lt a c) {L : List α} {k : Nat} {r : α} (hs : L.Pairwise lt) (h1 : ∀ j, j < k → ∀ h : j < L.length, lt L[j] r) (h2 : ∀ h : k < L.length, lt r L[k]) : (insAt L k r).Pairwise lt := by
  have hp := List.pairwise_iff_getElem.1 hs
  have hT : ∀ a ∈ L.take k, lt a r := fun a ha => by
    obtain ⟨j, hj, rfl⟩ := List.mem_take_iff_getElem.1 ha
    exact h1 j (by omega) (by omega)
  have hD : ∀ a ∈ L.drop k, lt r a := fun a ha => by
    obtain ⟨j, hj, rfl⟩ := List.mem_drop_iff_getElem.1 ha
    by_cases e : j = 0
    · subst e; simpa using h2 (by omega)
    · exact tr (h2 (by omega)) (hp k (k + j) (by omega) (by omega) (by omega))
  unfold insAt
  rw [List.pairwise_append, List.pairwise_append]
  refine ⟨⟨hs.sublist (List.take_sublist ..), List.pairwise_singleton .., fun a ha b hb => ?_⟩, hs.sublist (List.drop_sublist ..), fun a ha b hb => ?_⟩
  · obtain rfl := List.mem_singleton.1 hb
    exact hT a ha
  · rcases List.mem_append.1 ha with h | h
    · exact tr (hT a h) (hD b hb)
    · obtain rfl := List.mem_singleton.1 h
      exact hD b hb
/-- rows laid one by one at their places -/
def SortsD (R : List Dr) (i : Nat) (L : List Dr) : Prop := L.length = i ∧ (∀ z, z ∈ L ↔ z ∈ R.take i) ∧ L.Pairwise befP
theorem SortsD.nil (R : List Dr) : SortsD R 0 [] := ⟨rfl, fun z => by simp, List.Pairwise.nil⟩
theorem SortsD.ins {R : List Dr} {T : Int} (ho : DOk R T) {i k : Nat} {L : List Dr} (h : SortsD R i L) (hi : i < R.length) (hk : k ≤ L.length) (h1 : ∀ j, j < k → ∀ h : j < L.length, befP L[j] R[i]) (h2 : ∀ h : k < L.length, ¬ befP L[k] R[i]) : SortsD R (i + 1) (insAt L k R[i]) := by
  obtain ⟨e1, e2, e3⟩ := h
  have hin : ∀ z ∈ L, z ∈ R ∧ z ≠ R[i] := fun z hz => by
    obtain ⟨j, hj, rfl⟩ := List.mem_take_iff_getElem.1 ((e2 z).1 hz)
    refine ⟨List.getElem_mem _, fun e => ?_⟩
    have := List.pairwise_iff_getElem.1 ho.once j i (by omega) hi (by omega)
    rw [e] at this
    exact this ⟨rfl, rfl⟩
  refine ⟨by rw [insAt_len _ hk, e1], fun z => ?_, insAt_pw (lt := befP) befP.trans e3 h1 fun hkl => ?_⟩
  · rw [insAt_mem, List.take_succ_eq_append_getElem hi, List.mem_append, List.mem_singleton, e2]
    constructor
    · rintro (h | h)
      · exact .inr h
      · exact .inl h
    · rintro (h | h)
      · exact .inr h
      · exact .inl h
  · obtain ⟨h3, h4⟩ := hin _ (List.getElem_mem hkl)
    exact (befP.tri ho h3 (List.getElem_mem hi) h4).resolve_left (h2 hkl)
section
variable {q : Nm → Qu} {R : List Dr} {T : Int}
theorem hoD_one (ho : DOk R T) {a b : Dr} (ha : a ∈ R) (hb : b ∈ R) (h : hoD a = hoD b) : a = b := by
  unfold hoD at h
  simp only [Ho.mk.injEq] at h
  exact ho.one ha hb h.1 h.2.1
theorem hoQ_lift (hs : ∀ n, SimD (q n) R n) {n : Nm} {a : Ho} (h : a ∈ hoQ n (q n).H) : ∃ r ∈ R, hoD r = a ∧ r.n = n ∧ r.m ≠ 0 := by
  obtain ⟨g, hg, rfl⟩ := List.mem_map.1 h
  obtain ⟨r, hr, rn, rm, rx, rm2, rw'⟩ := (hs n).row hg
  exact ⟨r, hr, by unfold hoD; rw [rn, rx, rm2, rw'], rn, rm⟩
theorem wsQ_lift (hs : ∀ n, SimD (q n) R n) {n : Nm} {a : Ho} (h : a ∈ wsQ n (q n).W) : ∃ r ∈ R, hoD r = a ∧ r.n = n ∧ r.m = 0 := by
  obtain ⟨y, hy, rfl⟩ := List.mem_map.1 h
  obtain ⟨r, hr, rn, rm, rx, rw'⟩ := ((hs n).wish y.x y.m).1 ⟨y, hy, rfl, rfl⟩
  exact ⟨r, hr, by unfold hoD; rw [rn, rx, rm, rw'], rn, rm⟩
def befR (R : List Dr) (a b : Ho) : Prop := ∀ r ∈ R, ∀ s ∈ R, hoD r = a → hoD s = b → befP r s
theorem AllOf.bef (hok : ∀ n, Ok (q n)) (ho : DOk R T) (hs : ∀ n, SimD (q n) R n) {Ns : List Nm} {A : List Ho} (h : AllOf q Ns A) (hN : Ns.Pairwise ltN) : A.Pairwise (befR R) := by
  induction h with
  | nil => exact List.Pairwise.nil
  | @snoc Ns L X n h hp hsx ih =>
    obtain ⟨hN1, -, hN2⟩ := List.pairwise_append.1 hN
    have hL : ∀ r ∈ L, ltN r.n n := fun r hr => hN2 _ ((h.mem r).1 hr).1 n (List.mem_singleton.2 rfl)
    have hX : ∀ a ∈ X, ∃ r ∈ R, hoD r = a ∧ r.n = n ∧ r.m ≠ 0 := fun a ha => hoQ_lift hs (hp.mem_iff.1 ha)
    have hW : ∀ a ∈ wsQ n (q n).W, ∃ r ∈ R, hoD r = a ∧ r.n = n ∧ r.m = 0 := fun a ha => wsQ_lift hs ha
    refine List.pairwise_append.2 ⟨List.pairwise_append.2 ⟨ih hN1, ?_, fun a ha b hb r hr s hs' e1 e2 => ?_⟩, ?_, fun a ha b hb r hr s hs' e1 e2 => ?_⟩
    · have hnd : (X.map (·.x)).Nodup := by
        have h1 : (X.map (·.x)).Perm ((hoQ n (q n).H).map (·.x)) := hp.map _
        rw [h1.nodup_iff]
        have h2 : (hoQ n (q n).H).map (·.x) = (q n).H.map (·.x) := by simp [hoQ]
        rw [h2]; exact (hok n).pre.hnd
      have h3 : X.Pairwise (fun a b => a.x ≠ b.x) := List.pairwise_map.1 hnd
      refine List.Pairwise.imp_of_mem ?_ (h3.and hsx)
      intro a b ha hb hab r hr s hs' e1 e2
      obtain ⟨r1, hr1, f1, n1, m1⟩ := hX a ha
      obtain ⟨s1, hs1, f2, n2, m2⟩ := hX b hb
      obtain rfl := hoD_one ho hr hr1 (e1.trans f1.symm)
      obtain rfl := hoD_one ho hs' hs1 (e2.trans f2.symm)
      have x1 : r.x = a.x := by rw [← e1]; rfl
      have x2 : s.x = b.x := by rw [← e2]; rfl
      have := hab.1
      have := hab.2
      exact .inr ⟨n1.trans n2.symm, .inr (.inl ⟨m1, m2, by omega⟩)⟩
    · obtain ⟨s1, hs1, f2, n2, -⟩ := hX b hb
      obtain rfl := hoD_one ho hs' hs1 (e2.trans f2.symm)
      left
      have : r.n = a.n := by rw [← e1]; rfl
      rw [this, n2]; exact hL a ha
    · unfold wsQ
      rw [List.pairwise_map]
      refine List.Pairwise.imp_of_mem ?_ (hs n).word
      intro y z hy hz hyz r hr s hs' e1 e2
      obtain ⟨r1, hr1, f1, n1, m1⟩ := hW _ (List.mem_map.2 ⟨y, hy, rfl⟩)
      obtain ⟨s1, hs1, f2, n2, m2⟩ := hW _ (List.mem_map.2 ⟨z, hz, rfl⟩)
      obtain rfl := hoD_one ho hr hr1 (e1.trans f1.symm)
      obtain rfl := hoD_one ho hs' hs1 (e2.trans f2.symm)
      have x1 : r.x = y.x := congrArg Ho.x e1
      have x2 : s.x = z.x := congrArg Ho.x e2
      exact .inr ⟨n1.trans n2.symm, .inr (.inr ⟨m1, m2, hyz r hr s hs' n1 n2 m1 m2 x1 x2⟩)⟩
    · obtain ⟨s1, hs1, f2, n2, m2⟩ := hW b hb
      obtain rfl := hoD_one ho hs' hs1 (e2.trans f2.symm)
      rcases List.mem_append.1 ha with h1 | h1
      · left
        have : r.n = a.n := by rw [← e1]; rfl
        rw [this, n2]; exact hL a h1
      · obtain ⟨r1, hr1, f1, n1, m1⟩ := hX a h1
        obtain rfl := hoD_one ho hr hr1 (e1.trans f1.symm)
        exact .inr ⟨n1.trans n2.symm, .inl ⟨m1, m2⟩⟩
open Classical in
/-- All tells the same -/
theorem all_same (hok : ∀ n, Ok (q n)) (ho : DOk R T) (hs : ∀ n, SimD (q n) R n) {Ns : List Nm} {A : List Ho} (h : AllOf q Ns A) (hN : Ns.Pairwise ltN) (hall : ∀ n, sizeQ (q n) ≠ 0 → n ∈ Ns) {L : List Dr} (hL : SortsD R R.length L) : A = L.map hoD := by
  obtain ⟨-, e2, e3⟩ := hL
  rw [List.take_length] at e2
  have hup : ∀ a ∈ A, ∃ r ∈ R, hoD r = a := fun a ha => by
    rcases ((h.mem a).1 ha).2 with h1 | h1
    · obtain ⟨r, hr, e, -⟩ := hoQ_lift hs h1; exact ⟨r, hr, e⟩
    · obtain ⟨r, hr, e, -⟩ := wsQ_lift hs h1; exact ⟨r, hr, e⟩
  have hdn : ∀ r ∈ R, hoD r ∈ A := fun r hr => by
    rw [h.mem]
    by_cases hm : r.m = 0
    · obtain ⟨y, hy, yx, ym⟩ := ((hs r.n).wish r.x r.w).2 ⟨r, hr, rfl, hm, rfl, rfl⟩
      refine ⟨hall r.n fun e => ?_, .inr (List.mem_map.2 ⟨y, hy, by unfold hoD; rw [yx, ym, hm]⟩)⟩
      have := List.length_pos_of_mem hy
      unfold sizeQ at e; omega
    · obtain ⟨g, hg, gx, gm, gw⟩ := (hs r.n).hold hr rfl hm
      refine ⟨hall r.n fun e => ?_, .inl (List.mem_map.2 ⟨g, hg, by unfold hoD; rw [gx, gm, gw]⟩)⟩
      have := List.length_pos_of_mem hg
      unfold sizeQ at e; omega
  let up : Ho → Dr := fun a => if h : ∃ r ∈ R, hoD r = a then Classical.choose h else default
  have hupR : ∀ a ∈ A, up a ∈ R ∧ hoD (up a) = a := fun a ha => by
    have hh := hup a ha
    have : up a = Classical.choose hh := dif_pos hh
    rw [this]; exact Classical.choose_spec hh
  have hmap : (A.map up).map hoD = A := by
    rw [List.map_map]
    conv => rhs; rw [← List.map_id A]
    exact List.map_congr_left fun a ha => (hupR a ha).2
  have hAL : A.map up = L := by
    refine strict_ext befP.irrefl befP.trans ?_ e3 fun p => ?_
    · rw [List.pairwise_map]
      refine List.Pairwise.imp_of_mem ?_ (h.bef hok ho hs hN)
      intro a b ha hb hab
      exact hab _ (hupR a ha).1 _ (hupR b hb).1 (hupR a ha).2 (hupR b hb).2
    · rw [e2, List.mem_map]
      constructor
      · rintro ⟨a, ha, rfl⟩
        exact (hupR a ha).1
      · intro hp
        exact ⟨hoD p, hdn p hp, hoD_one ho (hupR _ (hdn p hp)).1 hp (hupR _ (hdn p hp)).2⟩
  rw [← hAL, hmap]

/-! ## arcs -/
def waitsP (a b : Dr) : Prop := a.n = b.n ∧ a.w ≠ 0 ∧ a.x ≠ b.x ∧ ((b.m ≠ 0 ∧ compatL a.w b.m = false) ∨ (a.m = 0 ∧ ((b.m ≠ 0 ∧ b.w ≠ 0) ∨ (b.m = 0 ∧ b.t < a.t))))
theorem hArcs_mem (Q : Qu) (p : Pr) : ∀ k, k ≤ Q.H.length → (p ∈ hArcs Q k ↔ ∃ i, ∃ hi : i < Q.H.length, i < k ∧ Q.H[i].w ≠ 0 ∧ p ∈ agL Q.H[i].x Q.H[i].w Q.H)
  | 0, _ => by simp [hArcs]
  | k + 1, hk => by
    rw [hArcs_succ Q k (by omega), List.mem_append, hArcs_mem Q p k (by omega)]
    constructor
    · rintro (⟨i, hi, h1, h2⟩ | h1)
      · exact ⟨i, hi, by omega, h2⟩
      · split at h1
        · rename_i hw
          exact ⟨k, by omega, by omega, by simpa using hw, h1⟩
        · cases h1
    · rintro ⟨i, hi, h1, h2, h3⟩
      by_cases e : i = k
      · subst e
        right
        rw [if_pos (by simpa using h2)]
        exact h3
      · exact .inl ⟨i, hi, by omega, h2, h3⟩
theorem wArcs_mem (Q : Qu) (p : Pr) : ∀ k, k ≤ Q.W.length → (p ∈ wArcs Q k ↔ ∃ i, ∃ hi : i < Q.W.length, i < k ∧ (p ∈ agL Q.W[i].x Q.W[i].m Q.H ∨ p ∈ wantX Q.W[i].x Q.H ∨ p ∈ prevX Q.W[i].x (Q.W.take i)))
  | 0, _ => by simp [wArcs]
  | k + 1, hk => by
    rw [wArcs_succ Q k (by omega), List.mem_append, wArcs_mem Q p k (by omega), List.mem_append, List.mem_append, or_assoc]
    constructor
    · rintro (⟨i, hi, h1, h2⟩ | h1)
      · exact ⟨i, hi, by omega, h2⟩
      · exact ⟨k, by omega, by omega, h1⟩
    · rintro ⟨i, hi, h1, h2⟩
      by_cases e : i = k
      · subst e; exact .inr h2
      · exact .inl ⟨i, hi, by omega, h2⟩
theorem agL_mem {x m : Int} {H : List Hd} {p : Pr} : p ∈ agL x m H ↔ ∃ g ∈ H, g.x ≠ x ∧ compatL m g.m = false ∧ p = (x, g.x) := by
  unfold agL
  rw [List.mem_map]
  constructor
  · rintro ⟨g, hg, rfl⟩
    rw [List.mem_filter] at hg
    simp only [Bool.and_eq_true, Bool.not_eq_true', beq_eq_false_iff_ne] at hg
    exact ⟨g, hg.1, hg.2.1, hg.2.2, rfl⟩
  · rintro ⟨g, hg, h1, h2, rfl⟩
    exact ⟨g, List.mem_filter.2 ⟨hg, by simp [h1, h2]⟩, rfl⟩
theorem arcs_same (hok : ∀ n, Ok (q n)) (ho : DOk R T) (hs : ∀ n, SimD (q n) R n) (p : Pr) : (∃ n, p ∈ arcsQ (q n)) ↔ ∃ a ∈ R, ∃ b ∈ R, waitsP a b ∧ p = (a.x, b.x) := by
  constructor
  · rintro ⟨n, hp⟩
    rcases List.mem_append.1 hp with h1 | h1
    · obtain ⟨i, hi, -, hw, h2⟩ := (hArcs_mem _ p _ (Nat.le_refl _)).1 h1
      obtain ⟨g, hg, g1, g2, rfl⟩ := agL_mem.1 h2
      obtain ⟨a, ha, an, am, ax, am2, aw⟩ := (hs n).row (List.getElem_mem hi)
      obtain ⟨b, hb, bn, bm, bx, bm2, bw⟩ := (hs n).row hg
      exact ⟨a, ha, b, hb, ⟨an.trans bn.symm, by rw [aw]; exact hw, by rw [ax, bx]; exact fun e => g1 e.symm, .inl ⟨bm, by rw [aw, bm2]; exact g2⟩⟩, by rw [ax, bx]⟩
    · obtain ⟨i, hi, -, h2⟩ := (wArcs_mem _ p _ (Nat.le_refl _)).1 h1
      obtain ⟨a, ha, an, am, ax, aw⟩ := ((hs n).wish _ _).1 ⟨_, List.getElem_mem hi, rfl, rfl⟩
      have hww := ho.ww a ha am
      rcases h2 with h2 | h2 | h2
      · obtain ⟨g, hg, g1, g2, rfl⟩ := agL_mem.1 h2
        obtain ⟨b, hb, bn, bm, bx, bm2, bw⟩ := (hs n).row hg
        exact ⟨a, ha, b, hb, ⟨an.trans bn.symm, hww, by rw [ax, bx]; exact fun e => g1 e.symm, .inl ⟨bm, by rw [aw, bm2]; exact g2⟩⟩, by rw [ax, bx]⟩
      · obtain ⟨g, hg, rfl⟩ := List.mem_map.1 h2
        rw [List.mem_filter] at hg
        obtain ⟨b, hb, bn, bm, bx, bm2, bw⟩ := (hs n).row hg.1
        refine ⟨a, ha, b, hb, ⟨an.trans bn.symm, hww, ?_, .inr ⟨am, .inl ⟨bm, ?_⟩⟩⟩, by rw [ax, bx]⟩
        · rw [ax, bx]; exact fun e => (hok n).pre.hw hg.1 (List.getElem_mem hi) e.symm
        · rw [bw]; simpa using hg.2
      · obtain ⟨z, hz, rfl⟩ := List.mem_map.1 h2
        obtain ⟨j, hj, rfl⟩ := List.mem_take_iff_getElem.1 hz
        have hji : j < i := by omega
        obtain ⟨b, hb, bn, bm, bx, bw⟩ := ((hs n).wish _ _).1 ⟨_, List.getElem_mem (show j < (q n).W.length by omega), rfl, rfl⟩
        have := List.pairwise_iff_getElem.1 (hs n).word j i (by omega) hi hji b hb a ha bn an bm am bx ax
        refine ⟨a, ha, b, hb, ⟨an.trans bn.symm, hww, fun e => ?_, .inr ⟨am, .inr ⟨bm, this⟩⟩⟩, by rw [ax, bx]⟩
        have := ho.one ha hb (an.trans bn.symm) e
        subst this; omega
  · rintro ⟨a, ha, b, hb, ⟨hn, hw, hx, hc⟩, rfl⟩
    refine ⟨a.n, ?_⟩
    unfold arcsQ
    rw [List.mem_append]
    by_cases am : a.m = 0
    · right
      obtain ⟨y, hy, yx, ym⟩ := ((hs a.n).wish a.x a.w).2 ⟨a, ha, rfl, am, rfl, rfl⟩
      obtain ⟨i, hi, rfl⟩ := List.mem_iff_getElem.1 hy
      rw [wArcs_mem _ _ _ (Nat.le_refl _)]
      refine ⟨i, hi, hi, ?_⟩
      have wd : ∀ g ∈ (q a.n).H, g.x = b.x → g.w ≠ 0 → (a.x, b.x) ∈ wantX (q a.n).W[i].x (q a.n).H := fun g hg gx gw => by
        refine List.mem_map.2 ⟨g, List.mem_filter.2 ⟨hg, by simpa using gw⟩, by rw [yx, gx]⟩
      rcases hc with ⟨bm, bc⟩ | ⟨-, ⟨bm, bw⟩ | ⟨bm, bt⟩⟩
      · obtain ⟨g, hg, gx, gm, gw⟩ := (hs a.n).hold hb hn.symm bm
        exact .inl (agL_mem.2 ⟨g, hg, by rw [gx, yx]; exact fun e => hx e.symm, by rw [ym, gm]; exact bc, by rw [yx, gx]⟩)
      · obtain ⟨g, hg, gx, gm, gw⟩ := (hs a.n).hold hb hn.symm bm
        exact .inr (.inl (wd g hg gx (by rw [gw]; exact bw)))
      · obtain ⟨z, hz, zx, zm⟩ := ((hs a.n).wish b.x b.w).2 ⟨b, hb, hn.symm, bm, rfl, rfl⟩
        obtain ⟨j, hj, rfl⟩ := List.mem_iff_getElem.1 hz
        refine .inr (.inr (List.mem_map.2 ⟨(q a.n).W[j], List.mem_take_iff_getElem.2 ⟨j, ?_, rfl⟩, by rw [yx, zx]⟩))
        by_cases e : j < i
        · omega
        · exfalso
          by_cases e2 : j = i
          · subst e2
            exact hx (yx.symm.trans zx)
          · have := List.pairwise_iff_getElem.1 (hs a.n).word i j hi hj (by omega) a ha b hb rfl hn.symm am bm yx.symm zx.symm
            omega
    · left
      rcases hc with ⟨bm, bc⟩ | ⟨h1, -⟩
      · obtain ⟨g, hg, gx, gm, gw⟩ := (hs a.n).hold ha rfl am
        obtain ⟨i, hi, rfl⟩ := List.mem_iff_getElem.1 hg
        obtain ⟨g2, hg2, g2x, g2m, g2w⟩ := (hs a.n).hold hb hn.symm bm
        rw [hArcs_mem _ _ _ (Nat.le_refl _)]
        exact ⟨i, hi, hi, by rw [gw]; exact hw, agL_mem.2 ⟨g2, hg2, by rw [gx, g2x]; exact fun e => hx e.symm, by rw [gw, g2m]; exact bc, by rw [gx, g2x]⟩⟩
      · exact absurd h1 am
end
end Go.Proofs.YtileamjmhhifaaaGreat
