/-
  Layer 16 (tree): TreeBack: rows beside a stage; what stays behind land and Restore.
-/
import Derived.Test.YtljommhbhpappaaTreeB
import Derived.Test.YtljommhbhpappaaTreeN2
namespace Go.Proofs.Ytljommhbhpappaa
open Go.RowKit Go.Joins
set_option linter.unusedVariables false
set_option linter.unusedSimpArgs false

/-- all blocks but the stage's map and the shelf's pages stay -/
structure Kp (mb pb : Nat) (w w' : World) : Prop where
  size : w.heap.size ≤ w'.heap.size
  blk : ∀ n, n < w.heap.size → n ≠ mb → n ≠ pb → w'.heap[n]? = w.heap[n]?
theorem Kp.of_grown {mb pb : Nat} {w w' : World} (h : w.grownBy w' (some mb)) : Kp mb pb w w' := ⟨h.size, fun n h1 h2 _ => h.block n h1 (fun e => h2 (by cases e; rfl))⟩
/-- a row of something else than pages lies apart from a stage -/
theorem own_st {w : World} {B n s : Nat} {e : TypeId} {v : Value} {xs : List Value} {b mb hb pb : Nat} {S : Vol} (h : w.ownsRow B e s v n xs) (he : e ≠ 112) (hs : StageAt w b mb hb pb S) : ∀ q ∈ [mb, pb], v.ownBlock ≠ some q := by
  intro q hq e'
  obtain ⟨-, ⟨es, c, hm, -⟩, hsh, -⟩ := hs
  rcases h.2 with ⟨rfl, _⟩ | ⟨g, cap, cur, rfl, _, hg, _⟩
  · cases e'
  · simp only [Value.ownBlock, Option.some.injEq] at e'
    subst e'
    simp only [List.mem_cons, List.not_mem_nil, or_false] at hq
    rcases hq with rfl | rfl
    · rw [hg] at hm; cases hm
    · have := hsh.2.1
      rw [hg] at this
      simp only [Option.some.injEq, Obj.cells.injEq] at this
      exact he this.2.1
theorem own_kp {w w' : World} {B n s : Nat} {e : TypeId} {v : Value} {xs : List Value} {b mb hb pb : Nat} {S : Vol} (h : w.ownsRow B e s v n xs) (he : e ≠ 112) (hs : StageAt w b mb hb pb S) (hk : Kp mb pb w w') : w'.ownsRow B e s v n xs := by
  have ha := own_st h he hs
  refine ⟨h.1, ?_⟩
  rcases h.2 with h0 | ⟨g, cap, cur, rfl, h1, h2, h3⟩
  · exact .inl h0
  · exact .inr ⟨g, cap, cur, rfl, h1, (hk.blk g (Array.getElem?_eq_some_iff.1 h2).1 (fun e => ha mb (by simp) (by rw [e]; rfl)) (fun e => ha pb (by simp) (by rw [e]; rfl))).trans h2, h3⟩
theorem own_zero {w : World} {B n s : Nat} {e : TypeId} {v : Value} {xs : List Value} (h : w.ownsRow B e s v n xs) : w.ownsRow 0 e s v n xs := by
  refine ⟨h.1, ?_⟩
  rcases h.2 with h0 | ⟨g, cap, cur, h1, -, h2⟩
  · exact .inl h0
  · exact .inr ⟨g, cap, cur, h1, Nat.zero_le _, h2⟩
theorem own_not {w : World} {B n s q : Nat} {e t : TypeId} {v : Value} {xs : List Value} {c : Array Value} (h : w.ownsRow B e s v n xs) (hq : w.heap[q]? = some (.cells c t)) (he : e ≠ t) : some q ≠ v.ownBlock := by
  rcases h.2 with ⟨rfl, _⟩ | ⟨g', cap, cur, rfl, _, hg', _⟩
  · simp [Value.ownBlock]
  · intro e'
    simp only [Value.ownBlock, Option.some.injEq] at e'
    subst e'
    rw [hq] at hg'
    simp at hg'
    exact he hg'.2.symm
/-- a row of another type grows beside a stage -/
theorem One.grew {w0 w w' : World} {b mb hb pb n s : Nat} {S : Vol} {v : Value} {e : TypeId} {xs : List Value} (he : e ≠ 112 ∧ e ≠ 139 ∧ e ≠ 126) (h : One w0 w b mb hb pb S) (hg : w.grownBy w' v.ownBlock) (ho : w.ownsRow w0.heap.size e s v n xs) : One w0 w' b mb hb pb S := by
  have hm : some mb ≠ v.ownBlock := fun e' => own_st ho he.1 h.st mb (by simp) e'.symm
  have hl := h.st.lt
  obtain ⟨t1, ⟨es, c, t2, t3⟩, ⟨t4, t5, t6⟩, t7⟩ := h.st
  exact ⟨h.low.grown hg h.low.size (fun q hq => (ho.lt q hq).1), ⟨(hg.block b hl.1 (own_not ho t1 he.2.1)).trans t1, ⟨es, c, (hg.block mb hl.2.1 hm).trans t2, t3⟩, ⟨(hg.block hb hl.2.2.1 (own_not ho t4 he.2.2)).trans t4, (hg.block pb hl.2.2.2 (own_not ho t5 he.1)).trans t5, t6⟩, t7⟩, h.hi⟩

/-! undos in a row -/
def unRow (l : List Un) : List Value := l.flatMap fun u => u.cs.toList
theorem unRow_len (l : List Un) : (unRow l).length = l.length * 7 := by
  induction l with
  | nil => rfl
  | cons x r ih =>
    have e : unRow (x :: r) = x.cs.toList ++ unRow r := rfl
    rw [e, List.length_append, ih, List.length_cons]
    have : x.cs.toList.length = 7 := rfl
    omega
theorem unRow_snoc (l : List Un) (x : Un) : unRow (l ++ [x]) = unRow l ++ x.cs.toList := by simp [unRow]
theorem unRow_get (I : List Un) (j k : Nat) (hj : j < I.length) (hk : k < 7) : (unRow I)[j * 7 + k]? = I[j].cs.toList[k]? := by
  induction I generalizing j with
  | nil => simp at hj
  | cons x r ih =>
    have e : unRow (x :: r) = x.cs.toList ++ unRow r := rfl
    have el : x.cs.toList.length = 7 := rfl
    cases j with
    | zero =>
      rw [e, List.getElem?_append_left (by rw [el]; omega)]
      simp
    | succ j =>
      rw [e, List.getElem?_append_right (by rw [el]; omega), el, show (j + 1) * 7 + k - 7 = j * 7 + k from by omega]
      exact ih j (by simpa using hj)
theorem load_un {w : World} {B g n c : Nat} {I : List Un} (h : w.ownsRow B 86 7 (.slice (some ⟨g, 0, none⟩) n c) n (unRow I)) (j : Nat) (hj : j < I.length) :
    (loadUn (.pointer (some ⟨g, j * 7, none⟩))).run Try.prog w = .ok I[j].v w := by
  have hl := h.1
  rw [unRow_len] at hl
  exact run_loadAt_mid w g (j * 7) 86 I[j].cs.toList _ (fun k v hv => by
    have hk : k < 7 := (List.getElem?_eq_some_iff.1 hv).1
    rw [h.cellAt (j * 7 + k) (by omega), unRow_get I j k hj hk]
    exact hv) Try.underlying86 rfl sizeUn
def rowUn (parts : Array (Nat × Value)) : Sem Value := Instr.buildSlice 102 1 parts
@[go_sem ↓] theorem rowUn_eq (parts : Array (Nat × Value)) : Instr.buildSlice 102 1 parts = rowUn parts := rfl
@[go_sem] theorem run_rowUn (w : World) (u : Un) : (rowUn #[(0, u.v)]).run Try.prog w = .ok (.slice (some ⟨w.heap.size, 0, none⟩) 1 1) (w.alloc (.cells u.cs 86)) := by kernel_rfl
theorem infoUn : (Try.prog.info? 86).map (fun i => (i.zero, i.size, i.bytes)) = some (some Un.zero.v, 7, 72) := by kernel_rfl


/-- strings that are owned -/
theorem strIn_own {w : World} {B : Nat} {v : Value} {kp : List ByteArray} (h : w.ownsRow B 9 1 v kp.length (kp.map .string)) (hl : kp.length ≤ 1999000) : ∃ a cap, v = .slice a kp.length cap ∧ StrIn w a kp := by
  have hc := @World.ownsRow.cells _ _ _ _ _ _ _ h
  rcases h.2 with ⟨rfl, h0⟩ | ⟨g, cap, cur, rfl, hb, hg, -⟩
  · exact ⟨none, 0, by rw [h0], hl, .inl h0⟩
  · refine ⟨_, cap, rfl, hl, .inr ⟨g, 0, rfl, (Array.getElem?_eq_some_iff.1 hg).1, fun i hi => ?_⟩⟩
    have := hc (g := g) rfl i (.string kp[i]) (by simp [hi])
    rwa [Addr.add_lit] at this
theorem Chain.inv {F0 : List NC} {us : List Un} {u : Un} {F' : List NC} (h : Chain F0 (us ++ [u]) F') :
    ∃ F cx, Chain F0 us F ∧ Rising F ∧ Rising F' ∧ UnOk u cx ∧ (∀ k ∈ ukeys us, ∃ x ∈ F, x.key = k) ∧ StepU (ukeys us) F F' u cx := by
  generalize hl : us ++ [u] = l at h
  cases h with
  | nil => simp at hl
  | snoc cx h1 h2 h3 h4 h5 h6 =>
    obtain ⟨e1, e2⟩ := List.append_inj' hl rfl
    cases e2
    subst e1
    exact ⟨_, cx, h1, h2, h3, h4, h5, h6⟩
theorem Chain.done {F0 F : List NC} (h : Chain F0 [] F) : F = F0 := by
  generalize hl : ([] : List Un) = l at h
  cases h with
  | nil => rfl
  | snoc cx h1 h2 h3 h4 h5 h6 => simp at hl

set_option maxHeartbeats 2000000 in
set_option maxRecDepth 100000 in
theorem land16b {S : Vol} {N : Nat} (hf : S.Fit N) (e : Int) (b mb hb pb : Nat) (w0 w : World) (hs : One w0 w b mb hb pb S) :
    Calls Try.prog 49 #[.pointer (some ⟨hb, 0, none⟩), .pointer (some ⟨b, 0, none⟩), .int .i64 e] w fun r w' => r = .returned (.bool true) ∧ One w0 w' b mb hb pb (S.then16 e) ∧ Kp mb pb w w' := by
  have hbase : ∀ x ∈ S.M, shelfE S.base x.1 = 0 := fun x hx => by
    have hx' := hf.fit x hx
    exact if_pos ⟨hx'.1, by rw [hf.len]; exact hx'.2.1⟩
  have HI := Lib.hid (images_ok S b mb hb pb w hs.st hf.ok hbase)
  have hll : (imgs S S.keys).length ≤ 2000 := by
    have h1 := imgs_len S S.keys
    have h2 := Vol.keys_len S
    have h3 := hf.ok.len
    omega
  have HA := Lib.hid (fun w' v B (h : StageAt w' b mb hb pb S) hv => apply_ok hb pb S.base (imgs S S.keys) v B w' h.2.2.1 (imgs_fit hf) hv hll)
  have HD := Lib.hid (fun w' S' (h : StageAt w' b mb hb pb S') => drop_ok S' b mb hb pb w' h)
  have HS := Lib.hid hs
  clear hf hbase hll hs
  unfold Vol.then16
  by_cases h0 : e = 0
  · subst h0
    rw [if_pos rfl]
    go_enter Try.func49, Try.ntmps49
    go_wp2_with fail
    refine HI.out.mono ?_; rintro e w1 ⟨v, rfl, hb1, ho⟩
    have K1 := Lib.hid (HS.out.below hb1)
    have K2 := Lib.hid ho
    have B1 := Lib.hid hb1
    have hz1 := hb1.size
    clear hb1 ho
    go_wp2_with fail
    refine (HA.out _ _ _ K1.out.st K2.out).mono ?_; rintro e w2 ⟨rfl, hg2, hs2⟩
    have K3 : Hid (One w0 w2 b mb hb pb S.laid) := Lib.hid ⟨K1.out.low.grown hg2 K1.out.low.size (fun q hq => by cases hq; exact K1.out.hi.2), K1.out.st.shelf16 hg2 hs2, K1.out.hi⟩
    have FR : Kp mb pb w w2 := ⟨Nat.le_trans hz1 hg2.size, fun n h1 h2 h3 => (hg2.block n (by omega) (fun e => h3 (by cases e; rfl))).trans (B1.out.block n h1)⟩
    have HFR := Lib.hid FR
    have hz2 := hg2.size
    clear hg2 hs2 FR
    go_wp2_with fail
    go_ret
    exact ⟨rfl, K3.out, HFR.out⟩
  · rw [if_neg h0]
    have h1 : (e == 0) = false := by simp [h0]
    have h2 : (e != 0) = true := by simp [h0]
    have h3 : decide (e = 0) = false := by simp [h0]
    go_enter Try.func49, Try.ntmps49
    go_wp2_with fail
    refine (HD.out _ _ HS.out.st).mono ?_; rintro e w3 ⟨rfl, hg3, hs3⟩
    have K4 : Hid (One w0 w3 b mb hb pb S.drop) := Lib.hid (HS.out.grow hg3 hs3)
    have FR : Kp mb pb w w3 := ⟨hg3.size, fun n h1 h2 h3 => hg3.block n h1 (fun e => h2 (by cases e; rfl))⟩
    have HFR := Lib.hid FR
    have hz3 := hg3.size
    clear hg3 hs3 FR
    go_wp2_with fail
    go_ret
    exact ⟨rfl, K4.out, HFR.out⟩


theorem op_restoreb {S : Vol} {nn : Nat} {kd : Int} {F : List NC} (h : Has S nn kd F) (u : Un) (cx : NC → NC) (hu : UnOk u cx) (b mb hb pb : Nat) (w0 w : World) (hs : One w0 w b mb hb pb S) :
    Calls Try.prog 52 #[.pointer (some ⟨b, 0, none⟩), u.v] w fun e w' => ∃ er S' F', e = .returned (.int .i64 er) ∧ One w0 w' b mb hb pb S' ∧ ReDid F F' u.key cx er ∧ Has S' nn kd F' ∧ Kp mb pb w w' := by
  obtain ⟨hf, d, m, N, T, hi, rfl⟩ := h
  refine (trestore_any hi u cx hu b mb hb pb w hs.st).mono ?_
  rintro e w' ⟨er, S', rfl, hg, hst, ho⟩
  obtain ⟨F', h1, h2, h3, h4⟩ := re_did hi hf (fun x hx hxk => by
    rcases hu.cell with ⟨-, rfl⟩ | ⟨y, hy, hyk, -, -, rfl⟩
    · exact ⟨⟨.inr rfl, hu.key.1, hu.key.2, hx.2.2.2⟩, rfl⟩
    · exact ⟨hy, hyk⟩) ho
  exact ⟨er, S', F', rfl, hs.grow hg hst, h1, ⟨h2, h4⟩, .of_grown hg⟩
/-- a change, ready for land -/
theorem do_back {S : Vol} {F : List NC} (h : IdxAt S 256 2 F) (c : Cl) (ka : Option Addr) (kc : Nat) (kp : List ByteArray) (b mb hb pb : Nat) (w0 w : World) (hs : One w0 w b mb hb pb S) (hk : StrIn w ka kp) :
    Calls Try.prog 50 #[.pointer (some ⟨b, 0, none⟩), c.v, .slice ka kp.length kc] w fun e w' => ∃ u er S' F', e = .returned (.tuple #[Un.v u, .int .i64 er]) ∧ One w0 w' b mb hb pb S' ∧ S'.Fit 256 ∧ IdxAt (S'.then16 er) 256 2 F' ∧ DidDo F F' c kp u er ∧ Kp mb pb w w' := by
  refine (do16 (Has.of_at h) c ka kc kp b mb hb pb w0 w hs hk).mono ?_
  rintro e w' ⟨u, er, S', F', rfl, k1, k2, k3, k4⟩
  exact ⟨u, er, S', F', rfl, k1, k3.1, ready_land h k3 (did_same k2), k2, .of_grown k4⟩
theorem do_keep {w9 : World} {S : Vol} {F : List NC} (h : IdxAt S 256 2 F) (c : Cl) (hok : ClOk w9 c) (hkl : c.kl ≤ 1048576) (b mb hb pb : Nat) (w0 w : World) (hs : One w0 w b mb hb pb S) (hw : Below w9.heap.size w9 w) :
    Calls Try.prog 50 #[.pointer (some ⟨b, 0, none⟩), c.v, .slice c.ka c.kl c.kc] w fun e w' => ∃ u er S' F', e = .returned (.tuple #[Un.v u, .int .i64 er]) ∧ One w0 w' b mb hb pb S' ∧ S'.Fit 256 ∧ IdxAt (S'.then16 er) 256 2 F' := by
  obtain ⟨I, hI⟩ := hok
  obtain ⟨h1, h2, h3⟩ := hI.below hw
  have hin : StrIn w c.ka I := ⟨by omega, h3.imp (fun h3 => by omega) id⟩
  rw [← h2]
  refine (do_back h c c.ka c.kc I b mb hb pb w0 w hs hin).mono ?_
  rintro e w' ⟨u, er, S', F', rfl, k1, k2, k3, k4⟩
  exact ⟨u, er, S', F', rfl, k1, k2, k3⟩
end Go.Proofs.Ytljommhbhpappaa
