/-
  Layer 16 (tree): lists of pairs are the same; Range on a law's own stage; a volume behind land, with its weight.
-/
import Derived.Test.YtljommhbhpappaaTreeR
import Derived.Test.YtljommhbhpappaaPkOps
import Derived.BigRegion
namespace Go.Proofs.Ytljommhbhpappaa
open Go.RowKit Go.Joins
set_option linter.unusedVariables false
set_option linter.unusedSimpArgs false

set_option maxRecDepth 100000 in
theorem run_eq_pair (d : Nat) (i : Int) (s x : ByteArray) (w : World) : (Op.equalIn (d + 2) 105 (.agg #[.string s, .int .i64 i, .string x]) (.agg #[.string s, .int .i64 i, .string x])).run Try.prog w = .ok true w := by
  rw [run_equalIn_agg w (d + 1) 105 _ _ (by kernel_rfl) (by kernel_rfl)]
  simp only [Program.fieldsOf, Try.underlying105]
  have p0 : ∀ (a b c : Value), (part 9 #[a, b, c] 0).run Try.prog w = .ok a w := fun a b c => by kernel_rfl
  have p1 : ∀ (a b c : Value), (part 3 #[a, b, c] 1).run Try.prog w = .ok b w := fun a b c => by kernel_rfl
  have p2 : ∀ (a b c : Value), (part 9 #[a, b, c] 2).run Try.prog w = .ok c w := fun a b c => by kernel_rfl
  have e0 := run_equalIn_string (P := Try.prog) w d 9 s s Try.underlying9
  have e1 := run_equalIn_int (P := Try.prog) w d 3 .i64 .i64 i i Try.underlying3
  have e2 := run_equalIn_string (P := Try.prog) w d 9 x x Try.underlying9
  have hh : true = ((s.toList == s.toList) && ((i == i) && ((x.toList == x.toList) && true))) := by simp
  rw [hh]
  exact eqF_cons (by decide) (p0 _ _ _) (p0 _ _ _) e0 (eqF_cons (by decide) (p1 _ _ _) (p1 _ _ _) e1 (eqF_cons (by decide) (p2 _ _ _) (p2 _ _ _) e2 eqF_nil))
set_option maxRecDepth 100000 in
@[go_sem] theorem run_eq_pair10 (i : Int) (s x : ByteArray) (w : World) : (Op.equalIn 10000 105 (.agg #[.string s, .int .i64 i, .string x]) (.agg #[.string s, .int .i64 i, .string x])).run Try.prog w = .ok true w := run_eq_pair 9998 i s x w


/-- pairs that lie in memory -/
def PairsAt (w : World) (a : Option Addr) (L : List NC) : Prop :=
  L.length = 0 ∨ ∃ n, a = some ⟨n, 0, none⟩ ∧ n < w.heap.size ∧ ∀ (i : Nat) (h : i < L.length), w.rangeAt n (i * 3) (pairCs L[i]).toList
theorem PairsAt.below {w w' : World} {a : Option Addr} {L : List NC} (h : PairsAt w a L) (hb : Below w.heap.size w w') : PairsAt w' a L := by
  rcases h with h0 | ⟨n, rfl, h1, h2⟩
  · exact .inl h0
  · exact .inr ⟨n, rfl, Nat.lt_of_lt_of_le h1 hb.size, fun i hi j v hv => (hb.cell (p := ⟨n, i * 3 + j, none⟩) h1).trans (h2 i hi j v hv)⟩
theorem pair_row : ∀ (L : List NC) (i : Nat) (h : i < L.length) (j : Nat) (v : Value), (pairCs L[i]).toList[j]? = some v → (pairRow L)[i * 3 + j]? = some v
  | [], i, h, j, v, hv => by cases h
  | x :: r, 0, h, j, v, hv => by
    have hj : j < 3 := (List.getElem?_eq_some_iff.1 hv).1
    show ((pairCs x).toList ++ pairRow r)[0 * 3 + j]? = _
    rw [Nat.zero_mul, Nat.zero_add, List.getElem?_append_left (by have : (pairCs x).toList.length = 3 := rfl; omega)]
    exact hv
  | x :: r, i + 1, h, j, v, hv => by
    have ih := pair_row r i (by simpa using h) j v hv
    show ((pairCs x).toList ++ pairRow r)[(i + 1) * 3 + j]? = _
    rw [List.getElem?_append_right (by simp [pairCs]; omega), show (i + 1) * 3 + j - (pairCs x).toList.length = i * 3 + j from by simp [pairCs]; omega]
    exact ih
theorem pairsAt_own {w : World} {g0 : Nat} {v : Value} {L : List NC} (h : w.ownsRow g0 105 3 v L.length (pairRow L)) : ∃ a cp, v = .slice a L.length cp ∧ PairsAt w a L := by
  rcases ownsRow_forms h with ⟨rfl, h0⟩ | ⟨g, cap, rfl⟩
  · exact ⟨none, 0, by rw [h0], .inl h0⟩
  · have hg := h.lt g rfl
    refine ⟨_, _, rfl, .inr ⟨g, rfl, hg.2, fun i hi j v hv => ?_⟩⟩
    have := h.cells (g := g) rfl (i * 3 + j) v (pair_row L i hi j v hv)
    rw [Addr.add_lit] at this
    simpa using this
set_option maxHeartbeats 4000000 in
set_option maxRecDepth 100000 in
theorem same16 (a1 a2 : Option Addr) (p1 p2 : Nat) (I : List NC) (w : World) (h1 : PairsAt w a1 I) (h2 : PairsAt w a2 I) (hn : I.length ≤ 100000) :
    Calls Try.prog 55 #[.slice a1 I.length p1, .slice a2 I.length p2] w fun e w' => e = .returned (.bool true) ∧ Below w.heap.size w w' := by
  have H1 := Lib.hid h1
  have H2 := Lib.hid h2
  clear h1 h2
  go_enter Try.func55, Try.ntmps55
  go_wp2_with fail
  go_loopw [5] (fun i wr => ∃ k : Nat, k ≤ I.length ∧ i = .int .i64 k ∧ Below w.heap.size w wr) (fun i _ => I.length - (intOf i).toNat)
  case atStart => exact ⟨0, by omega, rfl, Below.refl _ _⟩
  case round =>
    obtain ⟨k, hk, rfl, hbl⟩ := hrel
    have HB := Lib.hid hbl
    by_cases hlt : k < I.length
    · obtain ⟨g, hg, -, hr⟩ := (H1.out.below hbl).resolve_left (by omega)
      obtain ⟨g2, hg2, -, hr2⟩ := (H2.out.below hbl).resolve_left (by omega)
      subst hg hg2
      have hkI : (k : Int) < (I.length : Int) := by omega
      have q := hr k hlt
      have q2 := hr2 k hlt
      generalize I[k] = x at *
      obtain ⟨ck, cs, cr⟩ := x
      have a0 := q 0 (.string ck) rfl
      have a1 := q 1 (.int .i64 0) rfl
      have a2 := q 2 (.string cr) rfl
      have c0 := q2 0 (.string ck) rfl
      have c1 := q2 1 (.int .i64 0) rfl
      have c2 := q2 2 (.string cr) rfl
      have b0 : wr.drew.cell? _ = _ := a0
      have b1 : wr.drew.cell? _ = _ := a1
      have b2 : wr.drew.cell? _ = _ := a2
      have d0 : wr.drew.cell? _ = _ := c0
      have d1 : wr.drew.cell? _ = _ := c1
      have d2 : wr.drew.cell? _ = _ := c2
      simp only [Nat.add_zero] at a0 b0 c0 d0
      clear hbl q q2 hr hr2
      go_wp2_with fail
      go_region
      all_goals
        go_wp2_with fail
        go_roundw
        case rel => exact ⟨k + 1, by omega, by go_num, HB.out.drew⟩
        case measure => simp [intOf]; omega
    · clear hbl
      go_wp2_with fail
      go_ret
      exact ⟨rfl, HB.out⟩

theorem op_range {S : Vol} {nn : Nat} {kd : Int} {F : List NC} (h : Has S nn kd F) (key : ByteArray) (most : Nat) (hk : key.size ≤ 8) (hm : most ≤ 64) (b mb hb pb : Nat) (w0 w : World) (hs : One w0 w b mb hb pb S) :
    Calls Try.prog 54 #[.pointer (some ⟨b, 0, none⟩), .int .i64 1, .string key, .int .i64 most] w fun e w' => ∃ v, e = .returned (.tuple #[v, .int .i64 0]) ∧ One w0 w' b mb hb pb S ∧ Below w.heap.size w w' ∧ w'.ownsRow w.heap.size 105 3 v (rangeL key most F).length (pairRow (rangeL key most F)) := by
  obtain ⟨hf, d, m, N, T, hi, rfl⟩ := h
  refine (range_any hi.tree b mb hb pb kd hi.kind (fun w2 hs2 => hi.find b mb hb pb w2 hs2) key most hk hm w hs.st).mono ?_
  rintro e w' ⟨v, rfl, hb', ho⟩
  exact ⟨v, rfl, hs.below hb', hb', ho⟩

/-- a volume behind land, and its weight -/
structure AtN (S : Vol) (nn : Nat) (kd : Int) (F : List NC) (q : Nat) : Prop where
  at_ : IdxAt S nn kd F
  has : HasN S nn kd F q
theorem atN_land {S S' : Vol} {nn : Nat} {kd : Int} {F F' : List NC} {q : Nat} {er : Int} (h : AtN S nn kd F q) (hn : HasN S' nn kd F' (q + 1)) (hb : S'.base = S.base) (hF : er ≠ 0 → F' = F) : AtN (S'.then16 er) nn kd F' (q + 1) := by
  unfold Vol.then16
  by_cases e : er = 0
  · rw [if_pos e]
    obtain ⟨hf, d, m, N, T, hi, rfl, hl⟩ := hn
    exact ⟨laid_at hi hf, laid_fit hf, d, m, N, T, hi.moved (Nat.le_refl _) (fun i hi => ⟨laid_pg hf i hi, stE_in (laid_fit hf).len hi⟩), rfl, hl⟩
  · rw [if_neg e, hF e]
    refine ⟨drop_at h.at_ hb, ?_⟩
    have e2 : S'.drop = S.drop := by unfold Vol.drop; rw [hb]
    rw [e2]
    obtain ⟨hf, d, m, N, T, hi, h2, hl⟩ := h.has
    exact ⟨dropped_fit hf, d, m, N, T, hi.moved (Nat.le_refl _) (fun i hi => ⟨h.at_.low i hi, stE_in (by rw [show S.drop.base = S.base from rfl]; exact hf.len) hi⟩), h2, by omega⟩
theorem I0_atN (n : Nat) (h4 : 4 ≤ n) (hn : n ≤ 1024) : AtN (I0 n n 2).laid n 2 [] 3 := ⟨I0_at n h4 hn, I0_hasN n h4 hn⟩
end Go.Proofs.Ytljommhbhpappaa
