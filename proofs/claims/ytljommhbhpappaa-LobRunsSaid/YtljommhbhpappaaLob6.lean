/-
  Layer 17 (lob): a volume with objects in a law's own memory; the tree's calls on its pieces; what a change makes of an object.
-/
import Derived.Test.YtljommhbhpappaaLob4
import Derived.Test.YtljommhbhpappaaLob5
import Derived.Test.YtljommhbhpappaaPkLob
namespace Go.Proofs.Ytljommhbhpappaa
open Go.RowKit Go.Joins
set_option linter.unusedVariables false
set_option linter.unusedSimpArgs false

theorem I0_fitK (n : Nat) (kd : Int) (hkd : kd = 2 ∨ kd = 3) (h4 : 4 ≤ n) (hn : n ≤ 1024) : (I0 n n kd).Fit n := by
  have h0 := VolOk.new (List.replicate n Pg.zero) n [] h4 hn (by simp)
  have hz : Vol.Fit ⟨List.replicate n Pg.zero, []⟩ n := by
    have := Vol.Fit.nil (List.replicate n Pg.zero) (by simpa using hn)
    simpa using this
  exact made_fit h0 (formed_fit hz h4 (Nat.le_refl _)) (Nat.le_refl _) 0 2 kd (by omega) (by omega) (by omega)
theorem I0_hasN3 : HasN (I0 1024 1024 3) 1024 3 [] 3 :=
  ⟨I0_fitK 1024 3 (.inr rfl) (by omega) (by omega), _, _, _, _, I0_ok 1024 1024 3 (.inr rfl) (by omega) (by omega) (Nat.le_refl _), rfl, by simp [loadT, Tr.leaves]⟩

/-! ## the tree's calls, with what they weigh -/
theorem op_putG {S : Vol} {nn : Nat} {kd : Int} {F : List NC} {q : Nat} (h : HasN S nn kd F q) (hn : q ≤ nn) (h2 : 2 * (q / 3) + 12 ≤ nn ∨ q < 6 ∧ 5 ≤ nn) (key val : ByteArray) (hk : KeyOk key) (hv : val.size ≤ 20) (b mb hb pb : Nat) (w0 w : World) (hs : One w0 w b mb hb pb S) :
    Calls Try.prog 47 #[.pointer (some ⟨b, 0, none⟩), .int .i64 1, .string key, .string val, .slice none 0 0] w fun e w' => ∃ u er S' F', e = .returned (.tuple #[Un.v u, .int .i64 er]) ∧ One w0 w' b mb hb pb S' ∧ PutDid F F' ⟨key, 1, val⟩ ([] ++ [key]) u er ∧ HasN S' nn kd F' (q + 1) ∧ (er = 0 ∨ er = 160 ∧ ∃ x ∈ F, x.key = key ∧ x.st = 1) ∧ w.grownBy w' (some mb) := by
  obtain ⟨hf, d, m, N, T, hi, rfl, hq⟩ := h
  refine (tput_any hi key val hk hv none 0 [] b mb hb pb w hs.st ⟨by simp, .inl rfl⟩).mono ?_
  rintro e w' ⟨u, er, S', rfl, hg, hst, ho⟩
  obtain ⟨F', h1, h3, h4, h5⟩ := put_didN hi hf ⟨.inl rfl, hk.1, hk.2, hv⟩ hq hn h2 ho
  exact ⟨u, er, S', F', rfl, hs.grow hg hst, h1, h3, h5, hg⟩
theorem ch_didN {S S' : Vol} {d m : Pg} {nn : Nat} {kd : Int} {N : Nat} {T : Tr N} (h : IdxOk S d m nn kd N T) (hf : S.Fit nn) {key : ByteArray} {cx : NC → NC} (hcx : ∀ x : NC, x.leaf → x.key = key → (cx x).leaf ∧ (cx x).key = key) {u : Un} {er : Int} {q : Nat} (hq : loadT (Tr.leaves N T) ≤ q) (ho : ChOut N T key cx S u er S') :
    ∃ F', ChDid (flat (Tr.leaves N T)) F' key cx u er ∧ HasN S' nn kd F' q ∧ er ≠ 2 := by
  rcases ho with ⟨rfl, rfl, rfl, hno⟩ | ⟨x, hx, hxk, hxs, rfl, rfl, rfl⟩
  · exact ⟨_, .inr ⟨by decide, rfl, rfl, .inr fun x hx hk => hno x (leaf_there h hx hk) hk⟩, ⟨hf, d, m, N, T, h, rfl, hq⟩, by decide⟩
  · obtain ⟨hc, hck⟩ := hcx x (flat_leafs h x (leaf_flat h hx)) hxk
    have hset := setT_ok h hc
    rw [hck] at hset
    exact ⟨_, .inl ⟨rfl, x, leaf_flat h hx, hxk, hxs, rfl, rfl⟩, ⟨hf.put _ _ (by have := hset.id2; omega) hset.idn hset.ok, d, m, N, _, hset.idx, hset.flat, by rw [load_setT]; exact hq⟩, by decide⟩

/-- a stage with an index of pieces in a law's own memory: what a key has, and the weight -/
def LandAt (w0 w : World) (b mb hb pb : Nat) (g : Gm) (q : Nat) : Prop := ∃ S F, One w0 w b mb hb pb S ∧ HasN S 1024 3 F q ∧ ∀ k, getL k F = g k
theorem LandAt.below {w0 w w' : World} {b mb hb pb : Nat} {g : Gm} {q : Nat} (h : LandAt w0 w b mb hb pb g q) (hb2 : Below w.heap.size w w') : LandAt w0 w' b mb hb pb g q := by
  obtain ⟨S, F, h1, h2, h3⟩ := h
  exact ⟨S, F, h1.below hb2, h2, h3⟩
theorem LandAt.mb_lt {w0 w : World} {b mb hb pb : Nat} {g : Gm} {q : Nat} (h : LandAt w0 w b mb hb pb g q) : mb < w.heap.size ∧ b < w.heap.size ∧ w0.heap.size ≤ mb := by
  obtain ⟨S, F, h1, h2, h3⟩ := h
  exact ⟨h1.st.lt.2.1, h1.st.lt.1, h1.hi.1⟩
theorem op_land_put {w0 w : World} {b mb hb pb : Nat} {g : Gm} {q : Nat} (h : LandAt w0 w b mb hb pb g q) (hq : q ≤ 1000) (key val : ByteArray) (hok : gok g (13, key, val)) :
    Calls Try.prog 47 #[.pointer (some ⟨b, 0, none⟩), .int .i64 1, .string key, .string val, .slice none 0 0] w fun e w' => ∃ u, e = .returned (.tuple #[Un.v u, .int .i64 0]) ∧ LandAt w0 w' b mb hb pb (gapp g (13, key, val)) (q + 1) ∧ w.grownBy w' (some mb) := by
  obtain ⟨S, F, h1, h2, h3⟩ := h
  obtain ⟨hk, hv, hg⟩ := hok
  have hg0 : g key = none := by
    rcases hg with ⟨-, hg⟩ | ⟨hg, -⟩
    · exact hg
    · rcases hg with hg | hg <;> cases hg
  have hr := h2.has.rising
  have hno : ∀ x ∈ F, x.key = key → x.st ≠ 1 := fun x hx hxk hxs => by
    have := getL_there hr hx
    rw [hxk, h3, hg0, if_pos hxs] at this
    cases this
  refine (op_putG h2 (by omega) (.inl (by omega)) key val hk hv b mb hb pb w0 w h1).mono ?_
  rintro e w' ⟨u, er, S', F', rfl, k1, k2, k3, k4, k5⟩
  obtain rfl : er = 0 := by
    rcases k4 with e | ⟨-, x, hx, hxk, hxs⟩
    · exact e
    · exact absurd hxs (hno x hx hxk)
  refine ⟨u, rfl, ⟨S', F', k1, k3, fun k => ?_⟩, k5⟩
  have hr' := k3.has.rising
  have hap : gapp g (13, key, val) k = if k = key then some val else g k := by
    show (if k = key then (if (13 : Int) = 16 then none else some val) else g k) = _
    simp
  rw [hap, ← h3]
  rcases k2 with ⟨-, -, ⟨x, hx, hxk, -, -, rfl⟩ | ⟨-, -, hfp⟩⟩ | ⟨h, -⟩
  · exact getL_setC hr hx hxk k
  · exact getL_flat hr hr' rfl hfp k
  · exact absurd rfl h
theorem op_land_ch {w0 w : World} {b mb hb pb : Nat} {g : Gm} {q : Nat} (fn : Nat) (args : Array Value) (key val : ByteArray) (kind : Int) (cx : NC → NC) (hk : KeyOk key) (hg0 : g key ≠ none)
    (hcx : ∀ x : NC, x.leaf → x.key = key → (cx x).leaf ∧ (cx x).key = key) (hcs : ∀ x : NC, x.st = 1 → (if (cx x).st = 1 then some (cx x).rest else none) = if kind = 16 then none else some val)
    (hcall : ∀ {S : Vol} {d m : Pg} {nn : Nat} {kd : Int} {N : Nat} {T : Tr N}, IdxOk S d m nn kd N T → StageAt w b mb hb pb S → Calls Try.prog fn args w fun e w' => ∃ u er S', e = .returned (.tuple #[Un.v u, .int .i64 er]) ∧ w.grownBy w' (some mb) ∧ StageAt w' b mb hb pb S' ∧ ChOut N T key cx S u er S')
    (h : LandAt w0 w b mb hb pb g q) :
    Calls Try.prog fn args w fun e w' => ∃ u, e = .returned (.tuple #[Un.v u, .int .i64 0]) ∧ LandAt w0 w' b mb hb pb (gapp g (kind, key, val)) q ∧ w.grownBy w' (some mb) := by
  obtain ⟨S, F, h1, ⟨hf, d, m, N, T, hi, rfl, hq⟩, h3⟩ := h
  have hr : Rising (flat (Tr.leaves N T)) := flat_rising N T _ _ hi.tree.tin.good hi.tree.ord
  refine (hcall hi h1.st).mono ?_
  rintro e w' ⟨u, er, S', rfl, hg, hst, ho⟩
  obtain ⟨F', k1, k2, k3⟩ := ch_didN hi hf hcx hq ho
  have hr' := k2.has.rising
  rcases k1 with ⟨rfl, x, hx, hxk, hxs, -, rfl⟩ | ⟨-, -, -, hno⟩
  · refine ⟨u, rfl, ⟨S', _, h1.grow hg hst, k2, fun k => ?_⟩, hg⟩
    obtain ⟨hc, hck⟩ := hcx x (flat_leafs hi x hx) hxk
    rw [getL_setC hr hx (by rw [hck, hxk]) k, hck, hcs x hxs, h3]
    rfl
  · exfalso
    rcases hno with e | hno
    · exact k3 e
    · apply hg0
      rw [← h3]
      cases hgl : getL key (flat (Tr.leaves N T)) with
      | none => rfl
      | some v => exact absurd rfl (hno _ ((getL_some hr).1 hgl) rfl)
theorem op_land_set {w0 w : World} {b mb hb pb : Nat} {g : Gm} {q : Nat} (h : LandAt w0 w b mb hb pb g q) (key val : ByteArray) (hok : gok g (15, key, val)) :
    Calls Try.prog 63 #[.pointer (some ⟨b, 0, none⟩), .int .i64 1, .string key, .string val] w fun e w' => ∃ u, e = .returned (.tuple #[Un.v u, .int .i64 0]) ∧ LandAt w0 w' b mb hb pb (gapp g (15, key, val)) q ∧ w.grownBy w' (some mb) := by
  obtain ⟨hk, hv, hg⟩ := hok
  have hg0 : g key ≠ none := by
    rcases hg with ⟨hg, -⟩ | ⟨-, hg⟩
    · cases hg
    · exact hg
  exact op_land_ch _ _ key val 15 (setOf key val) hk hg0 (fun x hx _ => ⟨⟨.inl rfl, hk.1, hk.2, hv⟩, rfl⟩) (fun x _ => by simp [setOf]) (fun hi hs => tset_any hi key val hk hv b mb hb pb w hs) h
theorem op_land_cut {w0 w : World} {b mb hb pb : Nat} {g : Gm} {q : Nat} (h : LandAt w0 w b mb hb pb g q) (key val : ByteArray) (hok : gok g (16, key, val)) :
    Calls Try.prog 48 #[.pointer (some ⟨b, 0, none⟩), .int .i64 1, .string key] w fun e w' => ∃ u, e = .returned (.tuple #[Un.v u, .int .i64 0]) ∧ LandAt w0 w' b mb hb pb (gapp g (16, key, val)) q ∧ w.grownBy w' (some mb) := by
  obtain ⟨hk, hv, hg⟩ := hok
  have hg0 : g key ≠ none := by
    rcases hg with ⟨hg, -⟩ | ⟨-, hg⟩
    · cases hg
    · exact hg
  exact op_land_ch _ _ key val 16 (cutOf key) hk hg0 (fun x hx _ => ⟨⟨.inr rfl, hk.1, hk.2, hx.2.2.2⟩, rfl⟩) (fun x _ => by simp [cutOf]) (fun hi hs => tcut_any hi key hk b mb hb pb w hs) h

/-! ## objects -/
/-- a volume with these objects -/
def LobAt (w0 w : World) (b mb hb pb : Nat) (M : Mo) (q : Nat) : Prop := ∃ g, LandAt w0 w b mb hb pb g q ∧ ObjAt g M
theorem LobAt.below {w0 w w' : World} {b mb hb pb : Nat} {M : Mo} {q : Nat} (h : LobAt w0 w b mb hb pb M q) (hb2 : Below w.heap.size w w') : LobAt w0 w' b mb hb pb M q := by
  obtain ⟨g, h1, h2⟩ := h
  exact ⟨g, h1.below hb2, h2⟩
theorem LobAt.low {w0 w : World} {b mb hb pb : Nat} {M : Mo} {q : Nat} (h : LobAt w0 w b mb hb pb M q) : Below w0.heap.size w0 w := by
  obtain ⟨g, ⟨S, F, h1, -⟩, -⟩ := h
  exact h1.low
theorem LobAt.new {w0 w : World} {b mb hb pb : Nat} (h : One w0 w b mb hb pb (I0 1024 1024 3)) : LobAt w0 w b mb hb pb (fun _ => none) 3 := ⟨fun _ => none, ⟨_, [], h, I0_hasN3, fun _ => rfl⟩, objAt_nil⟩
def byR (M : Mo) (num : Int) : ByteArray × Int := if num < 0 ∨ 1000 ≤ num then (ByteArray.empty, 1) else match M num with | some b => (b, 0) | none => (ByteArray.empty, 150)
theorem byR_num {M : Mo} {num : Int} (h : (byR M num).2 = 0) : (0 ≤ num ∧ num < 1000) ∧ M num = some (byR M num).1 := by
  unfold byR at h ⊢
  by_cases hn : num < 0 ∨ 1000 ≤ num
  · rw [if_pos hn] at h; cases h
  · rw [if_neg hn] at h ⊢
    refine ⟨by omega, ?_⟩
    cases hm : M num with
    | none => rw [hm] at h; cases h
    | some b => rfl
theorem byR_none {M : Mo} {num : Int} (h : (byR M num).2 = 150) : (0 ≤ num ∧ num < 1000) ∧ M num = none := by
  unfold byR at h
  by_cases hn : num < 0 ∨ 1000 ≤ num
  · rw [if_pos hn] at h; cases h
  · rw [if_neg hn] at h
    refine ⟨by omega, ?_⟩
    cases hm : M num with
    | none => rfl
    | some b => rw [hm] at h; cases h
theorem op_bytes {w0 w : World} {b mb hb pb : Nat} {M : Mo} {q : Nat} (h : LobAt w0 w b mb hb pb M q) (num : Int) :
    Calls Try.prog 60 #[.pointer (some ⟨b, 0, none⟩), .int .i64 1, .int .i64 num] w fun e w' => e = .returned (.tuple #[.string (byR M num).1, .int .i64 (byR M num).2]) ∧ Below w.heap.size w w' := by
  obtain ⟨g, ⟨S, F, h1, ⟨hf, d, m, N, T, hi, rfl, hq⟩, h3⟩, h4⟩ := h
  have hg : (fun k => getL k (flat (Tr.leaves N T))) = g := funext h3
  have e : bytesR (flat (Tr.leaves N T)) num = byR M num := bytesR_obj (by rw [hg]; exact h4) num
  have := lbytes_any hi.tree b mb hb pb 3 (.inr rfl) (fun w2 hs2 => hi.find b mb hb pb w2 hs2) num w h1.st
  rw [e] at this
  exact this
theorem byR_size {w0 w : World} {b mb hb pb : Nat} {M : Mo} {q : Nat} (h : LobAt w0 w b mb hb pb M q) (num : Int) : (byR M num).1.size ≤ 4096 := by
  obtain ⟨g, -, h4⟩ := h
  unfold byR
  split
  · simp
  · cases hm : M num with
    | none => simp
    | some b => exact h4.small num b hm

/-! ## what a change makes of an object's bytes: an error's number, and the bytes -/
def wrR (r : ByteArray × Int) (pos : Int) (val : ByteArray) : Int × ByteArray :=
  if r.2 ≠ 0 then (r.2, ByteArray.empty)
  else if pos < 0 ∨ (r.1.size : Int) < pos then (1, ByteArray.empty)
  else if 64 < val.size ∨ 4096 < pos + val.size then (2, ByteArray.empty)
  else (0, (r.1.extract 0 pos.toNat ++ val) ++ r.1.extract (pos.toNat + val.size) r.1.size)
def trR (r : ByteArray × Int) (n : Int) : Int × ByteArray :=
  if r.2 ≠ 0 then (r.2, ByteArray.empty)
  else if n < 0 ∨ (r.1.size : Int) < n then (1, ByteArray.empty)
  else (0, r.1.extract 0 n.toNat)
theorem wrR_size {r : ByteArray × Int} {pos : Int} {val : ByteArray} (h : (wrR r pos val).1 = 0) (hr : r.1.size ≤ 4096) : (wrR r pos val).2.size ≤ 4096 ∧ ((wrR r pos val).2.size + 15) / 16 ≤ (r.1.size + 15) / 16 + 4 := by
  unfold wrR at h ⊢
  split at h
  · rename_i h1; exact absurd h h1
  · rename_i h1
    rw [if_neg h1]
    split at h
    · cases h
    · rename_i h2
      rw [if_neg h2]
      split at h
      · cases h
      · rename_i h3
        rw [if_neg h3]
        have e : (r.1.extract 0 pos.toNat ++ val ++ r.1.extract (pos.toNat + val.size) r.1.size).size = max (pos.toNat + val.size) r.1.size := by
          rw [ByteArray.size_append, ByteArray.size_append, ByteArray.size_extract, ByteArray.size_extract]
          omega
        rw [e]
        omega
theorem trR_size {r : ByteArray × Int} {n : Int} (h : (trR r n).1 = 0) : (trR r n).2.size ≤ r.1.size := by
  unfold trR at h ⊢
  split at h
  · rename_i h1; exact absurd h h1
  · rename_i h1
    rw [if_neg h1]
    split at h
    · cases h
    · rename_i h2
      rw [if_neg h2]
      show (r.1.extract 0 n.toNat).size ≤ _
      rw [ByteArray.size_extract]
      omega
end Go.Proofs.Ytljommhbhpappaa
