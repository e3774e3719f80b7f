/-
  Several texts in one: Tree16, Tree17, TreeE, Tree18.
-/
import Derived.Test.YtljommhbhpappaaPkCh
import Derived.Test.YtljommhbhpappaaPkLand
import Derived.Test.YtljommhbhpappaaPkIdx
namespace Go.Proofs.Ytljommhbhpappaa
/-!
  Layer 16 (tree): the laws' own land; what stands on a shelf.
-/
section
open Go.RowKit Go.Joins
set_option linter.unusedVariables false
set_option linter.unusedSimpArgs false

theorem StageAt.shelf16 {w w' : World} {b mb hb pb : Nat} {S : Vol} {l : List Pg} (h : StageAt w b mb hb pb S) (hg : w.grownBy w' (some pb)) (hs : ShelfAt w' hb pb l) : StageAt w' b mb hb pb ⟨l, S.M⟩ := by
  obtain ⟨q1, q2, q3, q4⟩ := h.lt
  obtain ⟨t1, ⟨es', c', t2, t3⟩, -, t7⟩ := h
  exact ⟨(hg.block b q1 (by simpa using t7.2.2.2.2)).trans t1, ⟨es', c', (hg.block mb q2 (by simpa using t7.2.2.1)).trans t2, t3⟩, hs, t7⟩
/-- a stage whose shelf has what is set, too -/
def Vol.laid (S : Vol) : Vol := ⟨appl S.base (imgs S S.keys), S.M⟩
def Vol.drop (S : Vol) : Vol := ⟨S.base, []⟩
def Vol.then16 (S : Vol) (e : Int) : Vol := if e = 0 then S.laid else S.drop
theorem laid_pg {S : Vol} {N : Nat} (h : S.Fit N) (i : Nat) (hi : i < N) : stPg S.laid i = stPg S i := by
  have h1 := landed_pg h i hi
  have e1 : stPg S.landed i = shelfPg (appl S.base (imgs S S.keys)) i := rfl
  rw [e1] at h1
  unfold stPg at h1 ⊢
  show (match getM S i with | some p => p | none => shelfPg (appl S.base (imgs S S.keys)) i) = _
  cases hg : getM S i with
  | none => rw [hg] at h1; exact h1
  | some p => rfl
theorem laid_fit {S : Vol} {N : Nat} (h : S.Fit N) : S.laid.Fit N := ⟨h.once, h.fit, by simp [Vol.laid, appl_length, h.len], h.hi⟩
theorem stE_in {S : Vol} {N : Nat} (h : S.base.length = N) {i : Nat} (hi : i < N) : stE S i = 0 := by
  unfold stE
  cases getM S i with
  | some p => rfl
  | none => exact if_pos ⟨by omega, by omega⟩
theorem laid_drop {S : Vol} {N : Nat} (h : S.Fit N) (i : Nat) (hi : i < N) : stPg S.laid.drop i = stPg S.laid i := (landed_pg h i hi).trans (laid_pg h i hi).symm
theorem VolOk.moved {S S' : Vol} {d m : Pg} {n N : Nat} (h : VolOk S d m n) (hn : n ≤ N) (hp : ∀ i : Nat, i < N → stPg S' i = stPg S i ∧ stE S' i = 0) : VolOk S' d m n := by
  have h2 := h.two
  have p0 := hp 0 (by omega)
  have p1 := hp 1 (by omega)
  exact ⟨⟨p0.2, p0.1.trans h.dir.p, h.dir.k⟩, h.dok, ⟨p1.2, p1.1.trans h.map.p, h.map.k, h.map.cnt, h.map.lo, h.map.hi, h.map.sz, h.map.ok⟩, fun i hi => (hp i (by omega)).2, h.two, h.z0, h.z1⟩
theorem IdxOk.moved {S S' : Vol} {d m : Pg} {nn N : Nat} {kd : Int} {Nl : Nat} {T : Tr Nl} (h : IdxOk S d m nn kd Nl T) (hn : nn ≤ N) (hp : ∀ i : Nat, i < N → stPg S' i = stPg S i ∧ stE S' i = 0) : IdxOk S' d m nn kd Nl T := by
  have hids : ∀ i ∈ Tr.ids Nl T, stPg S' i = stPg S i ∧ stE S' i = stE S i := fun i hi => by
    have h1 := h.most i hi
    have h2 := h.tree.tin.ids i hi
    have h3 := hp i.toNat (by omega)
    rw [Int.toNat_of_nonneg (by omega)] at h3
    exact ⟨h3.1, h3.2.trans h2.1.symm⟩
  exact ⟨h.vol.moved hn hp, h.live, h.ent, h.kind, ⟨h.tree.tin.frame hids, leafAll_frame (fun x hx => (hids x.1 (leaf_ids hx)).1) h.tree.chain, h.tree.nodup, h.tree.ord⟩, h.bits, h.most, h.wide⟩

set_option maxHeartbeats 2000000 in
set_option maxRecDepth 100000 in
theorem land16 {S : Vol} {N : Nat} (hf : S.Fit N) (e : Int) (b mb hb pb : Nat) (w0 w : World) (hs : One w0 w b mb hb pb S) :
    Calls Try.prog 49 #[.pointer (some ⟨hb, 0, none⟩), .pointer (some ⟨b, 0, none⟩), .int .i64 e] w fun r w' => r = .returned (.bool true) ∧ One w0 w' b mb hb pb (S.then16 e) ∧ w.heap.size ≤ w'.heap.size ∧ ∀ n, n < w.heap.size → n ≠ mb → n ≠ pb → rowAt w' n = rowAt w n := by
  have hbase : ∀ x ∈ S.M, shelfE S.base x.1 = 0 := fun x hx => by
    have hx' := hf.fit x hx
    exact if_pos ⟨hx'.1, by rw [hf.len]; exact hx'.2.1⟩
  have HI := Lib.hid (images_ok S b mb hb pb w hs.st hf.ok hbase)
  have hll : (imgs S S.keys).length ≤ 2000 := by
    have h1 := imgs_len S S.keys
    have h2 := Vol.keys_len S
    have h3 := hf.ok.len
    omega
  have HA := Lib.hid (fun w' v B (h : StageAt w' b mb hb pb S) hv => apply_ok hb pb S.base (imgs S S.keys) v B w' h.2.2.1 (imgs_fit hf) hv hll)
  have HD := Lib.hid (fun w' S' (h : StageAt w' b mb hb pb S') => drop_ok S' b mb hb pb w' h)
  have HS := Lib.hid hs
  clear hf hbase hll hs
  unfold Vol.then16
  by_cases h0 : e = 0
  · subst h0
    rw [if_pos rfl]
    go_enter Try.func49, Try.ntmps49
    go_wp2_with fail
    refine HI.out.mono ?_; rintro e w1 ⟨v, rfl, hb1, ho⟩
    have K1 := Lib.hid (HS.out.below hb1)
    have K2 := Lib.hid ho
    have B1 := Lib.hid hb1
    have hz1 := hb1.size
    clear hb1 ho
    go_wp2_with fail
    refine (HA.out _ _ _ K1.out.st K2.out).mono ?_; rintro e w2 ⟨rfl, hg2, hs2⟩
    have K3 : Hid (One w0 w2 b mb hb pb S.laid) := Lib.hid ⟨K1.out.low.grown hg2 K1.out.low.size (fun q hq => by cases hq; exact K1.out.hi.2), K1.out.st.shelf16 hg2 hs2, K1.out.hi⟩
    have FR : ∀ n, n < w.heap.size → n ≠ mb → n ≠ pb → rowAt w2 n = rowAt w n := fun n h1 h2 h3 => (rowAt_grown hg2 (by omega) h3).trans (rowAt_below B1.out h1)
    have HFR := Lib.hid FR
    have hz2 := hg2.size
    clear hg2 hs2 FR
    go_wp2_with fail
    go_ret
    exact ⟨rfl, K3.out, by omega, HFR.out⟩
  · rw [if_neg h0]
    have h1 : (e == 0) = false := by simp [h0]
    have h2 : (e != 0) = true := by simp [h0]
    have h3 : decide (e = 0) = false := by simp [h0]
    go_enter Try.func49, Try.ntmps49
    go_wp2_with fail
    refine (HD.out _ _ HS.out.st).mono ?_; rintro e w3 ⟨rfl, hg3, hs3⟩
    have K4 : Hid (One w0 w3 b mb hb pb S.drop) := Lib.hid (HS.out.grow hg3 hs3)
    have FR : ∀ n, n < w.heap.size → n ≠ mb → n ≠ pb → rowAt w3 n = rowAt w n := fun n h1 h2 h3 => rowAt_grown hg3 h1 h2
    have HFR := Lib.hid FR
    have hz3 := hg3.size
    clear hg3 hs3 FR
    go_wp2_with fail
    go_ret
    exact ⟨rfl, K4.out, hz3, HFR.out⟩

/-- a law's volume: an index with these cells, on the stage and on the shelf below -/
structure IdxAt (S : Vol) (nn : Nat) (kd : Int) (F : List NC) : Prop where
  idx : ∃ d m N T, IdxOk S d m nn kd N T ∧ flat (Tr.leaves N T) = F
  fit : S.Fit nn
  low : ∀ i : Nat, i < nn → stPg S.drop i = stPg S i
theorem laid_at {S : Vol} {d m : Pg} {nn : Nat} {kd : Int} {N : Nat} {T : Tr N} (h : IdxOk S d m nn kd N T) (hf : S.Fit nn) : IdxAt S.laid nn kd (flat (Tr.leaves N T)) :=
  ⟨⟨d, m, N, T, h.moved (Nat.le_refl _) (fun i hi => ⟨laid_pg hf i hi, stE_in (laid_fit hf).len hi⟩), rfl⟩, laid_fit hf, fun i hi => laid_drop hf i hi⟩
/-- what was begun and failed is let go -/
theorem drop_at {S S' : Vol} {nn : Nat} {kd : Int} {F : List NC} (h : IdxAt S nn kd F) (hb : S'.base = S.base) : IdxAt S'.drop nn kd F := by
  obtain ⟨d, m, N, T, h1, h2⟩ := h.idx
  have e : S'.drop = S.drop := by unfold Vol.drop; rw [hb]
  rw [e]
  exact ⟨⟨d, m, N, T, h1.moved (Nat.le_refl _) (fun i hi => ⟨h.low i hi, stE_in (by rw [show S.drop.base = S.base from rfl]; exact h.fit.len) hi⟩), h2⟩, dropped_fit h.fit, fun i hi => rfl⟩
theorem I0_fit (n : Nat) (h4 : 4 ≤ n) (hn : n ≤ 1024) : (I0 n n 2).Fit n := by
  have h0 := VolOk.new (List.replicate n Pg.zero) n [] h4 hn (by simp)
  have hz : Vol.Fit ⟨List.replicate n Pg.zero, []⟩ n := by
    have := Vol.Fit.nil (List.replicate n Pg.zero) (by simpa using hn)
    simpa using this
  exact made_fit h0 (formed_fit hz h4 (Nat.le_refl _)) (Nat.le_refl _) 0 2 2 (by omega) (by omega) (by omega)
theorem I0_at (n : Nat) (h4 : 4 ≤ n) (hn : n ≤ 1024) : IdxAt (I0 n n 2).laid n 2 [] := laid_at (I0_ok n n 2 (.inl rfl) h4 hn (Nat.le_refl _)) (I0_fit n h4 hn)
set_option maxHeartbeats 2000000 in
set_option maxRecDepth 100000 in
theorem volume16 (n : Nat) (h4 : 4 ≤ n) (hn : n ≤ 1024) (w : World) :
    Calls Try.prog 46 #[.int .i64 n] w fun e w' => ∃ b mb hb pb, e = .returned (.tuple #[.pointer (some ⟨hb, 0, none⟩), .pointer (some ⟨b, 0, none⟩), .bool true]) ∧ One w w' b mb hb pb (I0 n n 2).laid := by
  have HM := Lib.hid (fun (w' : World) => memory_ok n (by omega) hn w')
  have HN := Lib.hid (fun hb pb w' hB h h2 => new_one hb pb (List.replicate n Pg.zero) w w' hB h h2)
  have HFo := Lib.hid (fun b mb hb pb w' hs => format_start n n h4 hn b mb hb pb w' hs)
  have HMa := Lib.hid (fun b mb hb pb w' hs => make_start n n 2 (.inl rfl) h4 hn (Nat.le_refl _) b mb hb pb w' hs)
  have hfit := I0_fit n h4 hn
  have HL := Lib.hid (fun b mb hb pb w' (hs : One w w' b mb hb pb (I0 n n 2)) => land16 hfit 0 b mb hb pb w w' hs)
  have e0 : (I0 n n 2).then16 0 = (I0 n n 2).laid := if_pos rfl
  rw [e0] at HL
  clear hfit e0
  go_enter Try.func46, Try.ntmps46
  go_wp2_with fail
  refine (HM.out _).mono ?_; rintro e w1 ⟨hb, pb, rfl, hb1, q1, q2, hs1⟩
  have K1 := Lib.hid hb1
  have K2 := Lib.hid hs1
  clear hb1 hs1
  go_wp2_with fail
  refine (HN.out hb pb _ K1.out K2.out q2).mono ?_; rintro e w2 ⟨b, mb, rfl, h2⟩
  have K3 := Lib.hid h2
  clear h2
  go_wp2_with fail
  refine (HFo.out b mb hb pb _ K3.out.st).mono ?_; rintro e w3 ⟨rfl, g3, s3⟩
  have K4 := Lib.hid (K3.out.grow g3 s3)
  clear g3 s3
  go_wp2_with fail
  refine (HMa.out b mb hb pb _ K4.out.st).mono ?_; rintro e w4 ⟨rfl, g4, s4⟩
  have K5 := Lib.hid (K4.out.grow g4 s4)
  clear g4 s4
  go_wp2_with fail
  refine (HL.out b mb hb pb _ K5.out).mono ?_; rintro e w5 ⟨rfl, h5, -⟩
  have K6 := Lib.hid h5
  clear h5
  go_wp2_with fail
  refine ret_tmp3 rfl rfl ?_
  exact ⟨b, mb, hb, pb, rfl, K6.out⟩
end

/-!
  Layer 16 (tree): the calls of a law on its volume: what they do with the cells.
-/
section
open Go.RowKit Go.Joins
set_option linter.unusedVariables false
set_option linter.unusedSimpArgs false

/-- a stage behind a call -/
def Ready (S S' : Vol) (nn : Nat) (kd : Int) (F' : List NC) (er : Int) : Prop :=
  S'.Fit nn ∧ S'.base = S.base ∧ (er = 0 → ∃ d m N T, IdxOk S' d m nn kd N T ∧ flat (Tr.leaves N T) = F')
def PutDid (F F' : List NC) (c : NC) (kp : List ByteArray) (u : Un) (er : Int) : Prop :=
  (er = 0 ∧ c.leaf ∧ ((∃ x ∈ F, x.key = c.key ∧ x.st = 2 ∧ u = unC c.key x ∧ F' = setC c F) ∨ ((∀ x ∈ F, x.key ≠ c.key) ∧ u = unK c.key ∧ FlatPut F F' c kp))) ∨ (er ≠ 0 ∧ u = Un.zero ∧ F' = F)
/-- what is set keeps a volume fit -/
theorem inv_fit {S S' : Vol} {nn : Nat} (h : ∀ Q : Vol → Prop, (∀ (V : Vol) (id : Int) (p : Pg), Q V → 1 ≤ id → id < (nn : Int) → okPg p = true → Q (V.put id p)) → Q S → Q S') (hf : S.Fit nn) : S'.Fit nn ∧ S'.base = S.base :=
  h (fun V => V.Fit nn ∧ V.base = S.base) (fun V id p hV h1 h2 hp => ⟨hV.1.put id p (by omega) h2 hp, hV.2⟩) ⟨hf, rfl⟩
theorem put_did {S S' : Vol} {d m : Pg} {nn : Nat} {kd : Int} {N : Nat} {T : Tr N} (h : IdxOk S d m nn kd N T) (hf : S.Fit nn) {c : NC} (hc : c.leaf) {kp : List ByteArray} {u : Un} {er : Int} (ho : PutOut nn N T c kp S m u er S') :
    ∃ F', PutDid (flat (Tr.leaves N T)) F' c kp u er ∧ Ready S S' nn kd F' er := by
  rcases ho with ⟨rfl, rfl, rfl, -⟩ | ⟨x, hx, hxk, hxs, rfl, rfl, rfl⟩ | ⟨hno, hn⟩
  · exact ⟨_, .inr ⟨by decide, rfl, rfl⟩, hf, rfl, fun e => by cases e⟩
  · have hset := setT_ok h hc
    refine ⟨_, .inl ⟨rfl, hc, .inl ⟨x, leaf_flat h hx, hxk, hxs, rfl, rfl⟩⟩, hf.put _ _ (by have := hset.id2; omega) hset.idn hset.ok, rfl, fun _ => ⟨d, m, N, _, hset.idx, hset.flat⟩⟩
  · have hfr : ∀ x ∈ flat (Tr.leaves N T), x.key ≠ c.key := fun x hx e => hno x (leaf_there h hx e) e
    have hpre := h.pre hc hfr
    have hpo := putV_ok kp N T S m _ _ hpre
    unfold PutNew at hn
    obtain ⟨res, hres⟩ : ∃ res, putV 1 nn kp c N T S m = res := ⟨_, rfl⟩
    rw [hres] at hpo hn
    obtain ⟨q, S1, m1⟩ := res
    cases q with
    | bad =>
      obtain ⟨rfl, rfl, rfl⟩ := hn
      obtain ⟨h1, h2⟩ := inv_fit hpo.1 hf
      exact ⟨_, .inr ⟨by decide, rfl, rfl⟩, h1, h2, fun e => by cases e⟩
    | one t' =>
      obtain ⟨rfl, rfl, rfl⟩ := hn
      obtain ⟨h1, h2⟩ := inv_fit hpo.1.inv hf
      obtain ⟨h3, h4⟩ := idx_one h hpo.1 hpo.2.1 hpo.2.2
      exact ⟨_, .inl ⟨rfl, hc, .inr ⟨hfr, rfl, h4⟩⟩, h1, h2, fun _ => ⟨d, _, N, t', h3, rfl⟩⟩
    | two a sep b =>
      obtain ⟨hp, hid, hoa, hob, hls, -, hs8⟩ := hpo
      obtain ⟨h1, h2⟩ := inv_fit hp.inv hf
      simp only at hn
      cases hg : growV 1 nn (Tr.id N T) a sep b S1 m1 with
      | none =>
        rw [hg] at hn
        obtain ⟨rfl, rfl, rfl⟩ := hn
        exact ⟨_, .inr ⟨by decide, rfl, rfl⟩, h1, h2, fun e => by cases e⟩
      | some y =>
        obtain ⟨T2, S2, m2⟩ := y
        rw [hg] at hn
        obtain ⟨rfl, rfl, rfl⟩ := hn
        obtain ⟨h3, h4, h5, h6⟩ := idx_grow h hp hid hoa hob hls hs8 hg
        obtain ⟨h7, h8⟩ := inv_fit h6 h1
        exact ⟨_, .inl ⟨rfl, hc, .inr ⟨hfr, rfl, h4⟩⟩, h7, h8.trans h2, fun _ => ⟨d, m2, N + 1, T2, h3, rfl⟩⟩
/-- Set or Cut -/
def ChDid (F F' : List NC) (key : ByteArray) (cx : NC → NC) (u : Un) (er : Int) : Prop :=
  (er = 0 ∧ ∃ x ∈ F, x.key = key ∧ x.st = 1 ∧ u = unC key x ∧ F' = setC (cx x) F) ∨ (er ≠ 0 ∧ u = Un.zero ∧ F' = F ∧ (er = 2 ∨ ∀ x ∈ F, x.key = key → x.st ≠ 1))
theorem flat_leafs {S : Vol} {d m : Pg} {nn : Nat} {kd : Int} {N : Nat} {T : Tr N} (h : IdxOk S d m nn kd N T) : ∀ x ∈ flat (Tr.leaves N T), x.leaf := fun x hx => by
  obtain ⟨l, hl, hx⟩ := mem_flat.1 hx
  exact (h.tree.leafOk l hl).1.2.2.1 rfl x hx
theorem ch_did {S S' : Vol} {d m : Pg} {nn : Nat} {kd : Int} {N : Nat} {T : Tr N} (h : IdxOk S d m nn kd N T) (hf : S.Fit nn) {key : ByteArray} {cx : NC → NC} (hcx : ∀ x : NC, x.leaf → x.key = key → (cx x).leaf ∧ (cx x).key = key) {u : Un} {er : Int} (ho : ChOut N T key cx S u er S') :
    ∃ F', ChDid (flat (Tr.leaves N T)) F' key cx u er ∧ Ready S S' nn kd F' er := by
  rcases ho with ⟨rfl, rfl, rfl, hno⟩ | ⟨x, hx, hxk, hxs, rfl, rfl, rfl⟩
  · exact ⟨_, .inr ⟨by decide, rfl, rfl, .inr fun x hx hk => hno x (leaf_there h hx hk) hk⟩, hf, rfl, fun e => by cases e⟩
  · obtain ⟨hc, hck⟩ := hcx x (flat_leafs h x (leaf_flat h hx)) hxk
    have hset := setT_ok h hc
    rw [hck] at hset
    exact ⟨_, .inl ⟨rfl, x, leaf_flat h hx, hxk, hxs, rfl, rfl⟩, hf.put _ _ (by have := hset.id2; omega) hset.idn hset.ok, rfl, fun _ => ⟨d, m, N, _, hset.idx, hset.flat⟩⟩
def ReDid (F F' : List NC) (key : ByteArray) (cx : NC → NC) (er : Int) : Prop :=
  (er = 0 ∧ ∃ x ∈ F, x.key = key ∧ F' = setC (cx x) F) ∨ (er = 150 ∧ F' = F ∧ ∀ x ∈ F, x.key ≠ key)
theorem re_did {S S' : Vol} {d m : Pg} {nn : Nat} {kd : Int} {N : Nat} {T : Tr N} (h : IdxOk S d m nn kd N T) (hf : S.Fit nn) {key : ByteArray} {cx : NC → NC} (hcx : ∀ x : NC, x.leaf → x.key = key → (cx x).leaf ∧ (cx x).key = key) {er : Int} (ho : ReOut N T key cx S er S') :
    ∃ F', ReDid (flat (Tr.leaves N T)) F' key cx er ∧ S'.Fit nn ∧ S'.base = S.base ∧ ∃ d m N T, IdxOk S' d m nn kd N T ∧ flat (Tr.leaves N T) = F' := by
  rcases ho with ⟨rfl, rfl, hno⟩ | ⟨x, hx, hxk, rfl, rfl⟩
  · exact ⟨_, .inr ⟨rfl, rfl, fun x hx e => hno x (leaf_there h hx e) e⟩, hf, rfl, d, m, N, T, h, rfl⟩
  · obtain ⟨hc, hck⟩ := hcx x (flat_leafs h x (leaf_flat h hx)) hxk
    have hset := setT_ok h hc
    rw [hck] at hset
    exact ⟨_, .inl ⟨rfl, x, leaf_flat h hx, hxk, rfl⟩, hf.put _ _ (by have := hset.id2; omega) hset.idn hset.ok, rfl, d, m, N, _, hset.idx, hset.flat⟩

/-! ## the calls, on a law's own stage -/
/-- an index with these cells, set or not -/
def Has (S : Vol) (nn : Nat) (kd : Int) (F : List NC) : Prop := S.Fit nn ∧ ∃ d m N T, IdxOk S d m nn kd N T ∧ flat (Tr.leaves N T) = F
theorem Has.of_at {S : Vol} {nn : Nat} {kd : Int} {F : List NC} (h : IdxAt S nn kd F) : Has S nn kd F := ⟨h.fit, h.idx⟩
theorem Ready.has {S S' : Vol} {nn : Nat} {kd : Int} {F' : List NC} (h : Ready S S' nn kd F' 0) : Has S' nn kd F' := ⟨h.1, h.2.2 rfl⟩
theorem ready_land {S S' : Vol} {nn : Nat} {kd : Int} {F F' : List NC} {er : Int} (h : IdxAt S nn kd F) (hr : Ready S S' nn kd F' er) (hF : er ≠ 0 → F' = F) : IdxAt (S'.then16 er) nn kd F' := by
  unfold Vol.then16
  by_cases e : er = 0
  · rw [if_pos e]
    obtain ⟨d, m, N, T, h1, rfl⟩ := hr.2.2 e
    exact laid_at h1 hr.1
  · rw [if_neg e, hF e]
    exact drop_at h hr.2.1
theorem op_put {S : Vol} {nn : Nat} {kd : Int} {F : List NC} (h : Has S nn kd F) (key val : ByteArray) (ka : Option Addr) (kc : Nat) (kp : List ByteArray) (b mb hb pb : Nat) (w0 w : World) (hs : One w0 w b mb hb pb S) (hkp : StrIn w ka kp) :
    Calls Try.prog 47 #[.pointer (some ⟨b, 0, none⟩), .int .i64 1, .string key, .string val, .slice ka kp.length kc] w fun e w' => ∃ u er S' F', e = .returned (.tuple #[u.v, .int .i64 er]) ∧ One w0 w' b mb hb pb S' ∧ PutDid F F' ⟨key, 1, val⟩ (kp ++ [key]) u er ∧ Ready S S' nn kd F' er ∧ (KeyOk key ∧ val.size ≤ 20 ∨ er = if KeyOk key then 2 else 1) ∧ w.grownBy w' (some mb) := by
  obtain ⟨hf, d, m, N, T, hi, rfl⟩ := h
  by_cases hk : KeyOk key ∧ val.size ≤ 20
  · refine (tput_any hi key val hk.1 hk.2 ka kc kp b mb hb pb w hs.st hkp).mono ?_
    rintro e w' ⟨u, er, S', rfl, hg, hst, ho⟩
    obtain ⟨F', h1, h2⟩ := put_did hi hf ⟨.inl rfl, hk.1.1, hk.1.2, hk.2⟩ ho
    exact ⟨u, er, S', F', rfl, hs.grow hg hst, h1, h2, .inl hk, hg⟩
  · refine (tput_bad _ 1 key val hk _ w).mono ?_
    rintro e w' ⟨rfl, hb'⟩
    refine ⟨Un.zero, _, S, _, rfl, hs.below hb', .inr ⟨?_, rfl, rfl⟩, ⟨hf, rfl, fun _ => ⟨d, m, N, T, hi, rfl⟩⟩, .inr rfl, grown_of_below hb' _⟩
    split <;> decide
theorem op_cut {S : Vol} {nn : Nat} {kd : Int} {F : List NC} (h : Has S nn kd F) (key : ByteArray) (b mb hb pb : Nat) (w0 w : World) (hs : One w0 w b mb hb pb S) :
    Calls Try.prog 48 #[.pointer (some ⟨b, 0, none⟩), .int .i64 1, .string key] w fun e w' => ∃ u er S' F', e = .returned (.tuple #[u.v, .int .i64 er]) ∧ One w0 w' b mb hb pb S' ∧ ChDid F F' key (cutOf key) u er ∧ Ready S S' nn kd F' er ∧ er ≠ 2 ∧ w.grownBy w' (some mb) := by
  obtain ⟨hf, d, m, N, T, hi, rfl⟩ := h
  by_cases hk : KeyOk key
  · refine (tcut_any hi key hk b mb hb pb w hs.st).mono ?_
    rintro e w' ⟨u, er, S', rfl, hg, hst, ho⟩
    obtain ⟨F', h1, h2⟩ := ch_did (cx := cutOf key) hi hf (fun x hx _ => ⟨⟨.inr rfl, hk.1, hk.2, hx.2.2.2⟩, rfl⟩) ho
    refine ⟨u, er, S', F', rfl, hs.grow hg hst, h1, h2, ?_, hg⟩
    rcases ho with ⟨rfl, -⟩ | ⟨x, -, -, -, rfl, -⟩ <;> decide
  · refine (tcut_bad _ 1 key hk w).mono ?_
    rintro e w' ⟨rfl, hb'⟩
    exact ⟨Un.zero, 1, S, _, rfl, hs.below hb', .inr ⟨by decide, rfl, rfl, .inr fun x hx hxk => absurd (by have := flat_leafs hi x hx; exact ⟨hxk ▸ this.2.1, hxk ▸ this.2.2.1⟩) hk⟩, ⟨hf, rfl, fun e => by cases e⟩, by decide, grown_of_below hb' _⟩
theorem op_set {S : Vol} {nn : Nat} {kd : Int} {F : List NC} (h : Has S nn kd F) (key val : ByteArray) (b mb hb pb : Nat) (w0 w : World) (hs : One w0 w b mb hb pb S) :
    Calls Try.prog 63 #[.pointer (some ⟨b, 0, none⟩), .int .i64 1, .string key, .string val] w fun e w' => ∃ u er S' F', e = .returned (.tuple #[u.v, .int .i64 er]) ∧ One w0 w' b mb hb pb S' ∧ ChDid F F' key (setOf key val) u er ∧ Ready S S' nn kd F' er ∧ w.grownBy w' (some mb) := by
  obtain ⟨hf, d, m, N, T, hi, rfl⟩ := h
  by_cases hk : KeyOk key ∧ val.size ≤ 20
  · refine (tset_any hi key val hk.1 hk.2 b mb hb pb w hs.st).mono ?_
    rintro e w' ⟨u, er, S', rfl, hg, hst, ho⟩
    obtain ⟨F', h1, h2⟩ := ch_did (cx := setOf key val) hi hf (fun x hx _ => ⟨⟨.inl rfl, hk.1.1, hk.1.2, hk.2⟩, rfl⟩) ho
    exact ⟨u, er, S', F', rfl, hs.grow hg hst, h1, h2, hg⟩
  · refine (tset_bad _ 1 key val hk w).mono ?_
    rintro e w' ⟨rfl, hb'⟩
    refine ⟨Un.zero, _, S, _, rfl, hs.below hb', .inr ⟨?_, rfl, rfl, ?_⟩, ⟨hf, rfl, fun _ => ⟨d, m, N, T, hi, rfl⟩⟩, grown_of_below hb' _⟩
    · split <;> decide
    · by_cases hk1 : KeyOk key
      · rw [if_pos hk1]; exact .inl rfl
      · exact .inr fun x hx hxk => absurd (by have := flat_leafs hi x hx; exact ⟨hxk ▸ this.2.1, hxk ▸ this.2.2.1⟩) hk1
theorem op_restore {S : Vol} {nn : Nat} {kd : Int} {F : List NC} (h : Has S nn kd F) (u : Un) (cx : NC → NC) (hu : UnOk u cx) (b mb hb pb : Nat) (w0 w : World) (hs : One w0 w b mb hb pb S) :
    Calls Try.prog 52 #[.pointer (some ⟨b, 0, none⟩), u.v] w fun e w' => ∃ er S' F', e = .returned (.int .i64 er) ∧ One w0 w' b mb hb pb S' ∧ ReDid F F' u.key cx er ∧ Has S' nn kd F' := by
  obtain ⟨hf, d, m, N, T, hi, rfl⟩ := h
  refine (trestore_any hi u cx hu b mb hb pb w hs.st).mono ?_
  rintro e w' ⟨er, S', rfl, hg, hst, ho⟩
  obtain ⟨F', h1, h2, h3, h4⟩ := re_did hi hf (fun x hx hxk => by
    rcases hu.cell with ⟨-, rfl⟩ | ⟨y, hy, hyk, -, -, rfl⟩
    · exact ⟨⟨.inr rfl, hu.key.1, hu.key.2, hx.2.2.2⟩, rfl⟩
    · exact ⟨hy, hyk⟩) ho
  exact ⟨er, S', F', rfl, hs.grow hg hst, h1, h2, h4⟩
theorem op_get {S : Vol} {nn : Nat} {kd : Int} {F : List NC} (h : Has S nn kd F) (key : ByteArray) (hk : KeyOk key) (b mb hb pb : Nat) (w0 w : World) (hs : One w0 w b mb hb pb S) :
    Calls Try.prog 53 #[.pointer (some ⟨b, 0, none⟩), .int .i64 1, .string key] w fun e w' => e = .returned (getV (getL key F)) ∧ One w0 w' b mb hb pb S ∧ Below w.heap.size w w' := by
  obtain ⟨hf, d, m, N, T, hi, rfl⟩ := h
  refine (tget_any hi.tree b mb hb pb kd hi.kind (fun w2 hs2 => hi.find b mb hb pb w2 hs2) key hk w hs.st).mono ?_
  rintro e w' ⟨rfl, hb'⟩
  exact ⟨rfl, hs.below hb', hb'⟩
theorem op_seek {S : Vol} {nn : Nat} {kd : Int} {F : List NC} (h : Has S nn kd F) (key : ByteArray) (b mb hb pb : Nat) (w0 w : World) (hs : One w0 w b mb hb pb S) :
    Calls Try.prog 51 #[.pointer (some ⟨b, 0, none⟩), .int .i64 1, .string key] w fun e w' => e = .returned (seekV (seekL key F)) ∧ One w0 w' b mb hb pb S ∧ Below w.heap.size w w' := by
  obtain ⟨hf, d, m, N, T, hi, rfl⟩ := h
  refine (seek_any hi.tree b mb hb pb kd hi.kind (fun w2 hs2 => hi.find b mb hb pb w2 hs2) key w hs.st).mono ?_
  rintro e w' ⟨rfl, hb'⟩
  exact ⟨rfl, hs.below hb', hb'⟩
theorem Has.rising {S : Vol} {nn : Nat} {kd : Int} {F : List NC} (h : Has S nn kd F) : Rising F := by
  obtain ⟨-, d, m, N, T, hi, rfl⟩ := h
  exact flat_rising N T _ _ hi.tree.tin.good hi.tree.ord
theorem Has.leafs {S : Vol} {nn : Nat} {kd : Int} {F : List NC} (h : Has S nn kd F) : ∀ x ∈ F, x.leaf := by
  obtain ⟨-, d, m, N, T, hi, rfl⟩ := h
  exact flat_leafs hi
/-- a key that is there is what Seek finds -/
theorem seekL_there {F : List NC} (hr : Rising F) {x : NC} (hx : x ∈ F) : seekL x.key F = some x := by
  obtain ⟨a, b, rfl⟩ := List.append_of_mem hx
  rw [seekL_skip (fun c hc => (List.pairwise_append.1 hr).2.2 c hc x (List.mem_cons_self ..))]
  unfold seekL
  rw [List.find?_cons]
  simp [KLt.irrefl]
theorem getL_there {F : List NC} (hr : Rising F) {x : NC} (hx : x ∈ F) : getL x.key F = if x.st = 1 then some x.rest else none := by
  unfold getL
  rw [seekL_there hr hx]
  simp
end

/-!
  Layer 16 (tree), plain law: where there are pages enough a put does not fail.
-/
section
open Go.RowKit Go.Joins
set_option linter.unusedVariables false
set_option linter.unusedSimpArgs false

def FreeR (nn n : Nat) (m : Pg) : PR n × Vol × Pg → Prop
  | (.bad, _, _) => False
  | (.one _, _, m') => freeC nn m ≤ freeC nn m' + (n + 1)
  | (.two _ _ _, _, m') => freeC nn m ≤ freeC nn m' + (n + 1)
theorem putV_free {d : Pg} {nn : Nat} {st : Int} {c : NC} (kp : List ByteArray) : ∀ (n : Nat) (t : Tr n) (S : Vol) (m : Pg) (lo : ByteArray) (hi : Option ByteArray), Pre S d m nn st n t lo hi c → n + 1 ≤ freeC nn m → FreeR nn n m (putV st nn kp c n t S m)
  | 0, t, S, m, lo, hi, h, hfr => by
    show FreeR nn 0 m (putLeaf st nn kp c t S m)
    unfold putLeaf
    obtain ⟨L, hL⟩ : ∃ L, (if t.2.length = 6 then cleanL kp t.2 else t.2) = L := ⟨_, rfl⟩
    simp only [hL]
    by_cases h6 : L.length < 6
    · rw [if_pos h6]; show freeC nn m ≤ freeC nn m + 1; omega
    · rw [if_neg h6]
      cases ht : takeV nn S m with
      | none => have := take_none_free ht; exact absurd hfr (by omega)
      | some q =>
        obtain ⟨r, S1, m1⟩ := q
        have := take_free h.vol ht
        show freeC nn m ≤ freeC nn m1 + 1
        omega
  | n + 1, (id, K), S, m, lo, hi, h, hfr => by
    have hh : Pre S d m nn st (n + 1) (mkNode id K) lo hi c := h
    obtain ⟨hj, lo', hi', hpre, -⟩ := pre_kid hh
    have ih := putV_free kp n K[downL c.key (kidC K)].2 S m lo' hi' hpre (by omega)
    have hpk := putV_ok kp n K[downL c.key (kidC K)].2 S m lo' hi' hpre
    have hres : putV st nn kp c (n + 1) (id, K) S m = putNode st nn id K (downL c.key (kidC K)) K[downL c.key (kidC K)].1 (putV st nn kp c n K[downL c.key (kidC K)].2 S m) := putV_node hj
    rw [hres]
    obtain ⟨q, hq⟩ : ∃ q, putV st nn kp c n K[downL c.key (kidC K)].2 S m = q := ⟨_, rfl⟩
    rw [hq] at ih hpk ⊢
    obtain ⟨q, S1, m1⟩ := q
    unfold putNode
    cases q with
    | bad => exact ih
    | one t' =>
      have ih : freeC nn m ≤ freeC nn m1 + (n + 1) := ih
      show freeC nn m ≤ freeC nn m1 + (n + 1 + 1); omega
    | two a sep b =>
      have ih : freeC nn m ≤ freeC nn m1 + (n + 1) := ih
      simp only
      generalize K.set (downL c.key (kidC K)) (K[downL c.key (kidC K)].1, a) = K1
      by_cases h6 : K1.length < 6
      · rw [if_pos h6]; show freeC nn m ≤ freeC nn m1 + (n + 1 + 1); omega
      · rw [if_neg h6]
        cases ht : takeV nn S1 m1 with
        | none => have := take_none_free ht; exact absurd hfr (by omega)
        | some q =>
          obtain ⟨r, S2, m2⟩ := q
          have := take_free hpk.1.vol ht
          show freeC nn m ≤ freeC nn m2 + (n + 1 + 1)
          omega
/-- a put that has pages enough -/
theorem putNew_ok {S S' : Vol} {d m : Pg} {nn : Nat} {kd : Int} {N : Nat} {T : Tr N} (h : IdxOk S d m nn kd N T) {c : NC} (hc : c.leaf) {kp : List ByteArray} {u : Un} {er : Int} (hf : ∀ x ∈ flat (Tr.leaves N T), x.key ≠ c.key) (hfree : N + 2 ≤ freeC nn m) (hn : PutNew nn N T c kp S m u er S') : er = 0 := by
  have hpre := h.pre hc hf
  have hpo := putV_ok kp N T S m _ _ hpre
  have hfr := putV_free kp N T S m _ _ hpre (by omega)
  unfold PutNew at hn
  obtain ⟨res, hres⟩ : ∃ res, putV 1 nn kp c N T S m = res := ⟨_, rfl⟩
  rw [hres] at hpo hn hfr
  obtain ⟨q, S1, m1⟩ := res
  cases q with
  | bad => exact hfr.elim
  | one t' => exact hn.1
  | two a sep b =>
    have hfr : freeC nn m ≤ freeC nn m1 + (N + 1) := hfr
    simp only at hn
    cases hg : growV 1 nn (Tr.id N T) a sep b S1 m1 with
    | some y =>
      obtain ⟨T2, S2, m2⟩ := y
      rw [hg] at hn
      exact hn.1
    | none =>
      exfalso
      unfold growV at hg
      cases ht : takeV nn S1 m1 with
      | none => have := take_none_free ht; omega
      | some q =>
        obtain ⟨r, S2, m2⟩ := q
        rw [ht] at hg
        cases hg
/-- a volume with an index of a bounded weight -/
def HasN (S : Vol) (nn : Nat) (kd : Int) (F : List NC) (q : Nat) : Prop := S.Fit nn ∧ ∃ d m N T, IdxOk S d m nn kd N T ∧ flat (Tr.leaves N T) = F ∧ loadT (Tr.leaves N T) ≤ q
theorem HasN.has {S : Vol} {nn : Nat} {kd : Int} {F : List NC} {q : Nat} (h : HasN S nn kd F q) : Has S nn kd F := by
  obtain ⟨h1, d, m, N, T, h2, h3, -⟩ := h
  exact ⟨h1, d, m, N, T, h2, h3⟩
theorem weigh {S : Vol} {d m : Pg} {nn : Nat} {kd : Int} {N : Nat} {T : Tr N} (h : IdxOk S d m nn kd N T) {q : Nat} (hq : loadT (Tr.leaves N T) ≤ q) (hn : q ≤ nn) (h2 : 2 * (q / 3) + 12 ≤ nn ∨ q < 6 ∧ 5 ≤ nn) : N + 2 ≤ freeC nn m := by
  have h3 := loadT_len (Tr.leaves N T)
  have h4 := ids_len N T h.wide
  have h5 := h.free
  have h6 := h.few
  have h7 := wide_count N T h.wide
  rcases h2 with h2 | ⟨h2, h8⟩
  · omega
  · have hl : (Tr.leaves N T).length ≤ 1 := by omega
    have hN : N = 0 := by
      rcases N with _ | N
      · rfl
      · have : 2 ^ 1 ≤ 2 ^ (N + 1) := Nat.pow_le_pow_right (by omega) (by omega)
        omega
    subst hN
    omega
theorem I0_hasN (n : Nat) (h4 : 4 ≤ n) (hn : n ≤ 1024) : HasN (I0 n n 2).laid n 2 [] 3 := by
  have h := I0_ok n n 2 (.inl rfl) h4 hn (Nat.le_refl _)
  have hf := I0_fit n h4 hn
  exact ⟨laid_fit hf, _, _, _, _, h.moved (Nat.le_refl _) (fun i hi => ⟨laid_pg hf i hi, stE_in (laid_fit hf).len hi⟩), rfl, by simp [loadT, Tr.leaves]⟩
theorem load_setT (c : NC) (n : Nat) (t : Tr n) : loadT (Tr.leaves n (setT c n t)) = loadT (Tr.leaves n t) := by
  rw [setT_leaves]
  unfold loadT
  rw [List.map_map]
  congr 1
  refine List.map_congr_left fun x _ => ?_
  show max (setC c x.2).length 3 = _
  rw [setC_len]
theorem load_moveT : ∀ (n : Nat) (t : Tr n) (r : Int), loadT (Tr.leaves n (moveT n t r)) = loadT (Tr.leaves n t)
  | 0, t, r => by
    show loadT [(r, t.2)] = loadT [(t.1, t.2)]
    simp [loadT]
  | _ + 1, _, _ => rfl
theorem grow_load {nn N : Nat} {root : Int} {a b : Tr N} {sep : ByteArray} {S S2 : Vol} {m m2 : Pg} {T2 : Tr (N + 1)} (h : growV 1 nn root a sep b S m = some (T2, S2, m2)) : loadT (Tr.leaves (N + 1) T2) = loadT (Tr.leaves N a) + loadT (Tr.leaves N b) := by
  unfold growV at h
  cases ht : takeV nn S m with
  | none => rw [ht] at h; cases h
  | some q =>
    obtain ⟨r, S1, m1⟩ := q
    rw [ht] at h
    simp only [Option.some.injEq, Prod.mk.injEq] at h
    obtain ⟨rfl, -, -⟩ := h
    rw [load_mk, loadK_cons, loadK_cons]
    show loadT (Tr.leaves N (moveT N a r)) + (loadT (Tr.leaves N b) + 0) = _
    rw [load_moveT]; rfl
/-- a put, its weight too -/
theorem put_didN {S S' : Vol} {d m : Pg} {nn : Nat} {kd : Int} {N : Nat} {T : Tr N} (h : IdxOk S d m nn kd N T) (hf : S.Fit nn) {c : NC} (hc : c.leaf) {kp : List ByteArray} {u : Un} {er : Int} {q : Nat} (hq : loadT (Tr.leaves N T) ≤ q) (hn : q ≤ nn) (h2 : 2 * (q / 3) + 12 ≤ nn ∨ q < 6 ∧ 5 ≤ nn) (ho : PutOut nn N T c kp S m u er S') :
    ∃ F', PutDid (flat (Tr.leaves N T)) F' c kp u er ∧ HasN S' nn kd F' (q + 1) ∧ S'.base = S.base ∧ (er = 0 ∨ er = 160 ∧ ∃ x ∈ flat (Tr.leaves N T), x.key = c.key ∧ x.st = 1) := by
  have hfree := weigh h hq hn h2
  rcases ho with ⟨rfl, rfl, rfl, x, hx, hxk, hxs⟩ | ⟨x, hx, hxk, hxs, rfl, rfl, rfl⟩ | ⟨hno, hn⟩
  · exact ⟨_, .inr ⟨by decide, rfl, rfl⟩, ⟨hf, d, m, N, T, h, rfl, by omega⟩, rfl, .inr ⟨rfl, x, leaf_flat h hx, hxk, hxs⟩⟩
  · have hset := setT_ok h hc
    refine ⟨_, .inl ⟨rfl, hc, .inl ⟨x, leaf_flat h hx, hxk, hxs, rfl, rfl⟩⟩, ⟨hf.put _ _ (by have := hset.id2; omega) hset.idn hset.ok, d, m, N, _, hset.idx, hset.flat, by rw [load_setT]; omega⟩, rfl, .inl rfl⟩
  · have hfr : ∀ x ∈ flat (Tr.leaves N T), x.key ≠ c.key := fun x hx e => hno x (leaf_there h hx e) e
    have her := putNew_ok h hc hfr hfree hn
    have hpre := h.pre hc hfr
    have hpo := putV_ok kp N T S m _ _ hpre
    have hld := putV_load (nn := nn) (st := 1) (kp := kp) (c := c) N T S m
    unfold PutNew at hn
    obtain ⟨res, hres⟩ : ∃ res, putV 1 nn kp c N T S m = res := ⟨_, rfl⟩
    rw [hres] at hpo hn hld
    obtain ⟨qq, S1, m1⟩ := res
    cases qq with
    | bad => rw [her] at hn; exact absurd hn.1 (by decide)
    | one t' =>
      obtain ⟨rfl, rfl, rfl⟩ := hn
      obtain ⟨h1, h2⟩ := inv_fit hpo.1.inv hf
      obtain ⟨h3, h4⟩ := idx_one h hpo.1 hpo.2.1 hpo.2.2
      simp only [loadR] at hld
      exact ⟨_, .inl ⟨rfl, hc, .inr ⟨hfr, rfl, h4⟩⟩, ⟨h1, d, _, N, t', h3, rfl, by omega⟩, h2, .inl rfl⟩
    | two a sep b =>
      obtain ⟨hp, hid, hoa, hob, hls, -, hs8⟩ := hpo
      obtain ⟨h1, h2⟩ := inv_fit hp.inv hf
      simp only [loadR] at hld
      simp only at hn
      cases hg : growV 1 nn (Tr.id N T) a sep b S1 m1 with
      | none => rw [hg] at hn; rw [her] at hn; exact absurd hn.1 (by decide)
      | some y =>
        obtain ⟨T2, S2, m2⟩ := y
        rw [hg] at hn
        obtain ⟨rfl, rfl, rfl⟩ := hn
        obtain ⟨h3, h4, h5, h6⟩ := idx_grow h hp hid hoa hob hls hs8 hg
        obtain ⟨h7, h8⟩ := inv_fit h6 h1
        have hgl := grow_load hg
        exact ⟨_, .inl ⟨rfl, hc, .inr ⟨hfr, rfl, h4⟩⟩, ⟨h7, d, m2, N + 1, T2, h3, rfl, by omega⟩, h8.trans h2, .inl rfl⟩
/-- Put, where there are pages enough -/
theorem op_putN {S : Vol} {nn : Nat} {kd : Int} {F : List NC} {q : Nat} (h : HasN S nn kd F q) (hn : q ≤ nn) (h2 : 2 * (q / 3) + 12 ≤ nn ∨ q < 6 ∧ 5 ≤ nn) (key val : ByteArray) (hk : KeyOk key) (hv : val.size ≤ 20) (ka : Option Addr) (kc : Nat) (kp : List ByteArray) (b mb hb pb : Nat) (w0 w : World) (hs : One w0 w b mb hb pb S) (hkp : StrIn w ka kp) :
    Calls Try.prog 47 #[.pointer (some ⟨b, 0, none⟩), .int .i64 1, .string key, .string val, .slice ka kp.length kc] w fun e w' => ∃ u er S' F', e = .returned (.tuple #[u.v, .int .i64 er]) ∧ One w0 w' b mb hb pb S' ∧ PutDid F F' ⟨key, 1, val⟩ (kp ++ [key]) u er ∧ HasN S' nn kd F' (q + 1) ∧ S'.base = S.base ∧ (er = 0 ∨ er = 160 ∧ ∃ x ∈ F, x.key = key ∧ x.st = 1) := by
  obtain ⟨hf, d, m, N, T, hi, rfl, hq⟩ := h
  refine (tput_any hi key val hk hv ka kc kp b mb hb pb w hs.st hkp).mono ?_
  rintro e w' ⟨u, er, S', rfl, hg, hst, ho⟩
  obtain ⟨F', h1, h3, h4, h5⟩ := put_didN hi hf ⟨.inl rfl, hk.1, hk.2, hv⟩ hq hn h2 ho
  exact ⟨u, er, S', F', rfl, hs.grow hg hst, h1, h3, h4, h5⟩
end

/-!
  Layer 16 (tree): the laws' own start.
-/
section
open Go.RowKit Go.Joins
set_option linter.unusedVariables false
set_option linter.unusedSimpArgs false

def kA : ByteArray := ⟨#[97]⟩
def kB : ByteArray := ⟨#[98]⟩
theorem kA_ok : KeyOk kA := by decide
theorem kB_ok : KeyOk kB := by decide
theorem kAB : kA ≠ kB := by decide
set_option maxHeartbeats 4000000 in
set_option maxRecDepth 100000 in
theorem awake16 (w : World) : Calls Try.prog 44 #[] w fun e w' => e = .returned (.bool true) ∧ Below w.heap.size w w' := by
  have HV := Lib.hid (fun (w' : World) => volume16 8 (by omega) (by omega) w')
  have HP1 : Hid (∀ b mb hb pb w0 w', One w0 w' b mb hb pb (I0 8 8 2).laid → Calls Try.prog 47 #[.pointer (some ⟨b, 0, none⟩), .int .i64 1, .string ⟨#[98]⟩, .string ⟨#[49]⟩, .slice none 0 0] w' fun e w2 => ∃ (u : Un) (S' : Vol) (F' : List NC), e = .returned (.tuple #[u.v, .int .i64 0]) ∧ One w0 w2 b mb hb pb S' ∧ HasN S' 8 2 F' 4 ∧ ∀ x ∈ F', x = ⟨kB, 1, ⟨#[49]⟩⟩) := Lib.hid (fun b mb hb pb w0 w' hs => by
    refine (op_putN (I0_hasN 8 (by omega) (by omega)) (by omega) (.inr ⟨by omega, by omega⟩) kB ⟨#[49]⟩ kB_ok (by decide) none 0 [] b mb hb pb w0 w' hs ⟨by simp, .inl rfl⟩).mono ?_
    rintro e w2 ⟨u, er, S', F', rfl, h1, h2, h3, -, h4⟩
    obtain rfl : er = 0 := by
      rcases h4 with e | ⟨-, x, hx, -⟩
      · exact e
      · cases hx
    refine ⟨u, S', F', rfl, h1, h3, fun x hx => ?_⟩
    rcases h2 with ⟨-, -, ⟨y, hy, -⟩ | ⟨-, -, hfp⟩⟩ | ⟨h, -⟩
    · cases hy
    · rcases hfp.back x hx with e | e
      · exact e
      · cases e
    · exact absurd rfl h)
  have HP2 : Hid (∀ b mb hb pb w0 w' S F, One w0 w' b mb hb pb S → HasN S 8 2 F 4 → (∀ x ∈ F, x = ⟨kB, 1, ⟨#[49]⟩⟩) → Calls Try.prog 47 #[.pointer (some ⟨b, 0, none⟩), .int .i64 1, .string ⟨#[97]⟩, .string ⟨#[50]⟩, .slice none 0 0] w' fun e w2 => ∃ (u : Un) (S' : Vol) (F' : List NC), e = .returned (.tuple #[u.v, .int .i64 0]) ∧ One w0 w2 b mb hb pb S' ∧ Has S' 8 2 F' ∧ (⟨kA, 1, ⟨#[50]⟩⟩ : NC) ∈ F') := Lib.hid (fun b mb hb pb w0 w' S F hs hn hF => by
    refine (op_putN hn (by omega) (.inr ⟨by omega, by omega⟩) kA ⟨#[50]⟩ kA_ok (by decide) none 0 [] b mb hb pb w0 w' hs ⟨by simp, .inl rfl⟩).mono ?_
    rintro e w2 ⟨u, er, S', F', rfl, h1, h2, h3, -, h4⟩
    have hno : ∀ x ∈ F, x.key ≠ kA := fun x hx e => by rw [hF x hx] at e; exact kAB e.symm
    obtain rfl : er = 0 := by
      rcases h4 with e | ⟨-, x, hx, hk, -⟩
      · exact e
      · exact absurd hk (hno x hx)
    refine ⟨u, S', F', rfl, h1, h3.has, ?_⟩
    rcases h2 with ⟨-, -, ⟨y, hy, hk, -⟩ | ⟨-, -, hfp⟩⟩ | ⟨h, -⟩
    · exact absurd hk (hno y hy)
    · exact hfp.memc
    · exact absurd rfl h)
  have HC : Hid (∀ b mb hb pb w0 w' S F, One w0 w' b mb hb pb S → Has S 8 2 F → (⟨kA, 1, ⟨#[50]⟩⟩ : NC) ∈ F → Calls Try.prog 48 #[.pointer (some ⟨b, 0, none⟩), .int .i64 1, .string ⟨#[97]⟩] w' fun e w2 => ∃ S' F', e = .returned (.tuple #[(unC kA ⟨kA, 1, ⟨#[50]⟩⟩).v, .int .i64 0]) ∧ One w0 w2 b mb hb pb S' ∧ Has S' 8 2 F' ∧ (⟨kA, 2, ⟨#[50]⟩⟩ : NC) ∈ F') := Lib.hid (fun b mb hb pb w0 w' S F hs hn hF => by
    refine (op_cut hn kA b mb hb pb w0 w' hs).mono ?_
    rintro e w2 ⟨u, er, S', F', rfl, h1, h2, h3, h4⟩
    rcases h2 with ⟨rfl, x, hx, hk, hst, rfl, rfl⟩ | ⟨h5, -, -, h6⟩
    · have hxe : x = ⟨kA, 1, ⟨#[50]⟩⟩ := by
        have e1 := seekL_there hn.rising hx
        have e2 := seekL_there hn.rising hF
        rw [hk] at e1
        rw [e1] at e2
        exact Option.some.inj e2
      subst hxe
      exact ⟨S', _, rfl, h1, h3.has, List.mem_map.2 ⟨_, hF, by simp [cutOf]⟩⟩
    · rcases h6 with e | e
      · exact absurd e h4.1
      · exact absurd rfl (e _ hF rfl))
  have HG : Hid (∀ b mb hb pb w0 w' S F, One w0 w' b mb hb pb S → Has S 8 2 F → (⟨kA, 2, ⟨#[50]⟩⟩ : NC) ∈ F → Calls Try.prog 53 #[.pointer (some ⟨b, 0, none⟩), .int .i64 1, .string ⟨#[97]⟩] w' fun e w2 => e = .returned (.tuple #[.string ByteArray.empty, .int .i64 150]) ∧ One w0 w2 b mb hb pb S ∧ Below w'.heap.size w' w2) := Lib.hid (fun b mb hb pb w0 w' S F hs hn hF => by
    have := op_get hn kA kA_ok b mb hb pb w0 w' hs
    rw [show getL kA F = none from getL_there hn.rising hF] at this
    exact this)
  have HR : Hid (∀ b mb hb pb w0 w' S F, One w0 w' b mb hb pb S → Has S 8 2 F → (⟨kA, 2, ⟨#[50]⟩⟩ : NC) ∈ F → Calls Try.prog 52 #[.pointer (some ⟨b, 0, none⟩), (unC kA ⟨kA, 1, ⟨#[50]⟩⟩).v] w' fun e w2 => ∃ S' F', e = .returned (.int .i64 0) ∧ One w0 w2 b mb hb pb S' ∧ Has S' 8 2 F' ∧ (⟨kA, 1, ⟨#[50]⟩⟩ : NC) ∈ F') := Lib.hid (fun b mb hb pb w0 w' S F hs hn hF => by
    refine (op_restore hn (unC kA ⟨kA, 1, ⟨#[50]⟩⟩) (fun _ => ⟨kA, 1, ⟨#[50]⟩⟩) ⟨rfl, rfl, kA_ok, .inr ⟨⟨kA, 1, ⟨#[50]⟩⟩, ⟨.inl rfl, kA_ok.1, kA_ok.2, by decide⟩, rfl, rfl, rfl, rfl⟩⟩ b mb hb pb w0 w' hs).mono ?_
    rintro e w2 ⟨er, S', F', rfl, h1, h2, h3⟩
    rcases h2 with ⟨rfl, x, hx, hk, rfl⟩ | ⟨-, -, h⟩
    · exact ⟨S', _, rfl, h1, h3, List.mem_map.2 ⟨_, hF, by simp⟩⟩
    · exact absurd rfl (h _ hF))
  have HG2 : Hid (∀ b mb hb pb w0 w' S F, One w0 w' b mb hb pb S → Has S 8 2 F → (⟨kA, 1, ⟨#[50]⟩⟩ : NC) ∈ F → Calls Try.prog 53 #[.pointer (some ⟨b, 0, none⟩), .int .i64 1, .string ⟨#[97]⟩] w' fun e w2 => e = .returned (.tuple #[.string ⟨#[50]⟩, .int .i64 0]) ∧ One w0 w2 b mb hb pb S ∧ Below w'.heap.size w' w2) := Lib.hid (fun b mb hb pb w0 w' S F hs hn hF => by
    have := op_get hn kA kA_ok b mb hb pb w0 w' hs
    rw [show getL kA F = some ⟨#[50]⟩ from getL_there hn.rising hF] at this
    exact this)
  generalize unC kA ⟨kA, 1, ⟨#[50]⟩⟩ = u3 at *
  go_enter Try.func44, Try.ntmps44
  go_wp2_with fail
  refine (HV.out _).mono ?_; rintro e w1 ⟨b, mb, hb, pb, rfl, h1⟩
  have K1 := Lib.hid h1
  clear h1
  go_wp2_with fail
  refine (HP1.out b mb hb pb w w1 K1.out).mono ?_; rintro e w2 ⟨u1, S1, F1, rfl, h2, n2, f2⟩
  have K2 := Lib.hid (h2.alloc (.cells u1.cs 86))
  have N2 := Lib.hid n2
  have F2h := Lib.hid f2
  clear h2 n2 f2
  go_wp2_with fail
  refine (HP2.out b mb hb pb w _ S1 F1 K2.out N2.out F2h.out).mono ?_; rintro e w3 ⟨u2, S2, F2, rfl, h3, n3, f3⟩
  have K3 := Lib.hid (h3.alloc (.cells u2.cs 86))
  have N3 := Lib.hid n3
  have F3h := Lib.hid f3
  clear h3 n3 f3
  go_wp2_with fail
  refine (HC.out b mb hb pb w _ S2 F2 K3.out N3.out F3h.out).mono ?_; rintro e w4 ⟨S3, F3, rfl, h4, n4, f4⟩
  have K4 := Lib.hid (h4.alloc (.cells u3.cs 86))
  have R4 := rowAt_at w4 u3.cs 86 _ rfl
  have hs4 : w4.heap.size < (w4.alloc (.cells u3.cs 86)).heap.size := by go_size
  have R4h := Lib.hid R4
  have N4 := Lib.hid n4
  have F4h := Lib.hid f4
  clear h4 n4 f4 R4
  go_wp2_with fail
  refine (HG.out b mb hb pb w _ S3 F3 K4.out N4.out F4h.out).mono ?_; rintro e w5 ⟨rfl, h5, hb5⟩
  have K5 := Lib.hid h5
  have R5 := (rowAt_below hb5 hs4).trans R4h.out
  have r7 : row7 (rowAt w5 w4.heap.size) = true := by rw [R5]; rfl
  clear h5 hb5
  go_wp2_with fail
  refine (HR.out b mb hb pb w _ S3 F3 K5.out N4.out F4h.out).mono ?_; rintro e w6 ⟨S4, F4, rfl, h6, n6, f6⟩
  have K6 := Lib.hid h6
  have N6 := Lib.hid n6
  have F6 := Lib.hid f6
  clear h6 n6 f6 R5 r7
  go_wp2_with fail
  refine (HG2.out b mb hb pb w _ S4 F4 K6.out N6.out F6.out).mono ?_; rintro e w7 ⟨rfl, h7, -⟩
  have K7 := Lib.hid h7
  clear h7
  go_wp2_with fail
  go_ret
  exact ⟨rfl, K7.out.low⟩
end
end Go.Proofs.Ytljommhbhpappaa
