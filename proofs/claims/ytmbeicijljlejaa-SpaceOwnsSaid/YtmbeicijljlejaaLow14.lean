/-
  Layer 14 (space): the walk of SpaceLowest: its parts.
-/
import Derived.Test.YtmbeicijljlejaaLand14
import Derived.Test.YtmbeicijljlejaaGhosts
namespace Go.Proofs.Ytmbeicijljlejaa
open Go.RowKit Go.Joins
set_option linter.unusedVariables false
set_option linter.unusedSimpArgs false

/-- a slice of integers that came in: its elements -/
def RowOk (w : World) (a : Option Addr) (len : Nat) (zs : List Int) : Prop :=
  len ≤ 9223372036854775807 ∧ (len = 0 ∨ ∃ b off, a = some ⟨b, off, none⟩ ∧ b < w.heap.size ∧ ∀ i, i < len → w.cell? ⟨b, off + i, none⟩ = some (.int .i64 (zs.getD i 0)))
theorem rowOk_of {w : World} {a : Option Addr} {len cap : Nat} {zs : List Int} (h : (a = none ∧ len = 0 ∧ cap = 0 ∧ zs = []) ∨
    ∃ x, a = some x ∧ len ≤ cap ∧ cap ≤ maxLen ∧ zs.length = cap ∧ (∀ i, i < zs.length → w.cell? (x.add i) = some (.int .i64 (zs.getD i 0))) ∧ ∀ n ∈ zs, (Lit.int .i64 n).wf = true) : RowOk w a len zs := by
  rcases h with ⟨rfl, rfl, rfl, rfl⟩ | ⟨x, rfl, h1, h2, h3, h4, h5⟩
  · exact ⟨by omega, .inl rfl⟩
  · refine ⟨by simp only [maxLen] at h2; omega, ?_⟩
    by_cases h0 : len = 0
    · exact .inl h0
    · right
      have hc0 := h4 0 (by omega)
      obtain ⟨b, off, spot⟩ := x
      have hspot : spot = none := by simpa [Addr.add] using World.cell?_spot hc0
      subst hspot
      refine ⟨b, off, rfl, World.block_lt_of_cell? w _ (by simpa [Addr.add] using hc0), fun i hi => ?_⟩
      have := h4 i (by omega)
      rwa [Addr.add_lit] at this
theorem RowOk.below {w w' : World} {a : Option Addr} {len : Nat} {zs : List Int} (h : RowOk w a len zs) (hb : Below w.heap.size w w') : RowOk w' a len zs := by
  refine ⟨h.1, ?_⟩
  rcases h.2 with h0 | ⟨b, off, rfl, h1, h2⟩
  · exact .inl h0
  · exact .inr ⟨b, off, rfl, Nat.lt_of_lt_of_le h1 hb.size, fun i hi => (hb.cell (p := ⟨b, off + i, none⟩) h1).trans (h2 i hi)⟩

/-- all below a number are taken -/
theorem bits_take {S : Vol} {d m : Pg} {n i : Nat} (h : VolOk S d m n) (hi : i < n) (hb : ∀ j, j < n → bitAt m j = decide (j < i)) : ∀ j, j < n → bitAt (markPg m i true) j = decide (j < i + 1) := by
  intro j hj
  rw [bitAt_lt h _ _ _ hj hi]
  by_cases e : j = i
  · subst e; simp
  · rw [if_neg e, hb j hj]
    by_cases h2 : j < i
    · have : j < i + 1 := by omega
      simp [h2, this]
    · have : ¬ j < i + 1 := by omega
      simp [h2, this]

/-- pages that were given back: numbers in a map of bools -/
def frMap (G : List Nat) : List (Int × Value) := G.map fun i : Nat => ((i : Int), .bool true)
theorem findI_fr (G : List Nat) (id : Int) (i : Nat) : (findI id (frMap G) i).map (·.2) = if id ∈ G.map (fun j : Nat => (j : Int)) then some (.bool true) else none := by
  induction G generalizing i with
  | nil => rfl
  | cons x r ih =>
    simp only [frMap, List.map_cons, findI, List.mem_cons]
    by_cases h : id = (x : Int)
    · simp [h]
    · rw [if_neg h]
      have := ih (i + 1)
      simp only [frMap] at this
      rw [this]
      simp [h]
theorem zeroBool (w : World) : (zeroValue 4).run Try.prog w = .ok (.bool false) w := by kernel_rfl
theorem lookup_fr {w : World} {fb : Nat} {G : List Nat} (h : IntMap w fb (frMap G)) (id : Int) :
    (Instr.lookup 39 (.map (some fb)) (.int .i64 id) false).run Try.prog w = .ok (.bool (decide (id ∈ G.map (fun j : Nat => (j : Int))))) w := by
  rw [run_lookup1_int Try.underlying39 Try.underlying3 _ fb _ id _ (zeroBool _) h]
  have e := findI_fr G id 0
  cases hf : findI id (frMap G) 0 with
  | none =>
    rw [hf] at e
    have : ¬ id ∈ G.map (fun j : Nat => (j : Int)) := fun hm => by rw [if_pos hm] at e; cases e
    simp [this]
  | some x =>
    rw [hf] at e
    by_cases hm : id ∈ G.map (fun j : Nat => (j : Int))
    · rw [if_pos hm] at e
      simp only [Option.map_some, Option.some.injEq] at e
      simp only [hm, decide_true, e]
    · rw [if_neg hm] at e; cases e
theorem updI_fr {G : List Nat} {i : Nat} (h : ¬ i ∈ G) : updI (i : Int) (.bool true) (frMap G) = frMap (G ++ [i]) := by
  unfold frMap
  induction G with
  | nil => rfl
  | cons x r ih =>
    have h1 : ¬ (i : Int) = (x : Int) := fun e => h (by rw [show i = x from by omega]; exact List.mem_cons_self ..)
    have h2 : ¬ i ∈ r := fun e => h (List.mem_cons_of_mem _ e)
    simp only [List.map_cons, updI, h1, if_false, ih h2, List.cons_append]

theorem run_newFree (w : World) : (Instr.makeMap 39 none).run Try.prog w = .ok (.map (some w.heap.size)) (w.alloc (.map #[] 0)) := by kernel_rfl
theorem mem_cast {G : List Nat} {i : Nat} : (i : Int) ∈ G.map (fun j : Nat => (j : Int)) ↔ i ∈ G := by
  rw [List.mem_map]
  exact ⟨fun ⟨x, hx, e⟩ => by rw [show i = x from by omega]; exact hx, fun h => ⟨i, h, rfl⟩⟩
theorem bits_give {S : Vol} {d m : Pg} {n i : Nat} {G : List Nat} (h : VolOk S d m n) (hi : i < n) (hb : ∀ j, j < n → bitAt m j = !decide (j ∈ G)) : ∀ j, j < n → bitAt (markPg m i false) j = !decide (j ∈ G ++ [i]) := by
  intro j hj
  rw [bitAt_lt h _ _ _ hj hi]
  by_cases e : j = i
  · subst e; simp
  · rw [if_neg e, hb j hj]
    simp [e]
theorem bits_again {S : Vol} {d m : Pg} {n i : Nat} {G : List Nat} (h : VolOk S d m n) (hi : i < n) (hb : ∀ j, j < n → bitAt m j = (!decide (j ∈ G) || decide (j < i))) : ∀ j, j < n → bitAt (markPg m i true) j = (!decide (j ∈ G) || decide (j < i + 1)) := by
  intro j hj
  rw [bitAt_lt h _ _ _ hj hi]
  by_cases e : j = i
  · subst e; simp
  · rw [if_neg e, hb j hj]
    by_cases h2 : j < i
    · have : j < i + 1 := by omega
      simp [h2, this]
    · have : ¬ j < i + 1 := by omega
      simp [h2, this]
theorem bits_skip {m : Pg} {n i : Nat} {G : List Nat} (hi : ¬ i ∈ G) (hb : ∀ j, j < n → bitAt m j = (!decide (j ∈ G) || decide (j < i))) : ∀ j, j < n → bitAt m j = (!decide (j ∈ G) || decide (j < i + 1)) := by
  intro j hj
  rw [hb j hj]
  by_cases e : j = i
  · subst e; simp [hi]
  · by_cases h2 : j < i
    · have : j < i + 1 := by omega
      simp [h2, this]
    · have : ¬ j < i + 1 := by omega
      simp [h2, this]
theorem used_all {m : Pg} {n : Nat} (h : ∀ j, j < n → bitAt m j = true) : (usedTo m n).length = n := by
  have e : usedTo m n = List.range n := by
    unfold usedTo
    exact List.filter_eq_self.2 fun x hx => h x (by simpa using hx)
  rw [e]; simp
theorem vol_nil {S : Vol} (h : S.M = []) : (⟨S.base, []⟩ : Vol) = S := by cases S; simp at h; rw [h]
def FreeAt (Q : Nat → Prop) (n b hb fb : Nat) (w wr : World) (S : Vol) (m : Pg) (G : List Nat) : Prop :=
  Below w.heap.size w wr ∧ Lay Q wr wr b hb S ∧ VolOk S { k := 1 } m n ∧ S.Fit 64 ∧ S.M = [] ∧ (∀ t, t < n → bitAt m t = !decide (t ∈ G)) ∧ IntMap wr fb (frMap G) ∧ (∀ x ∈ G, 2 ≤ x ∧ x < n)
def FreeAt2 (Q : Nat → Prop) (n b hb fb : Nat) (w wr : World) (S : Vol) (m : Pg) (G : List Nat) (j : Nat) : Prop :=
  Below w.heap.size w wr ∧ Lay Q wr wr b hb S ∧ VolOk S { k := 1 } m n ∧ S.Fit 64 ∧ (∀ t, t < n → bitAt m t = (!decide (t ∈ G) || decide (t < j))) ∧ IntMap wr fb (frMap G)
def LowS (n : Nat) (S : Vol) (m : Pg) (G : List Nat) : Prop := VolOk S { k := 1 } m n ∧ S.Fit 64 ∧ ∀ j, j < n → bitAt m j = !decide (j ∈ G)

set_option maxHeartbeats 4000000 in
set_option maxRecDepth 100000 in
theorem lowest_a (n : Nat) (h4 : 4 ≤ n) (h64 : n ≤ 64) (vp : Option Addr) (len cap : Nat) (zs : List Int) (w : World) (hR : RowOk w vp len zs) :
    Calls Try.prog 4 #[.int .i64 n, .slice vp len cap] w fun e w' => e = .returned (.bool true) ∧ Below w.heap.size w w' := by
  have HA := Lib.hid (fun (w' : World) => awake_any w')
  have HM := Lib.hid (fun (w' : World) => memory_ok 64 (by omega) (by omega) w')
  have HN := Lib.hid (fun hb pb w' hB h h1 h2 => new_lay hb pb (List.replicate 64 Pg.zero) w w' hB h h1 h2)
  have HFo := Lib.hid (fun w' b hb (L : Lay (· < w.heap.size) w w' b hb ⟨List.replicate 64 Pg.zero, []⟩) => format_lay L n h4 (by omega))
  have f0 : VolOk (Vol.formed ⟨List.replicate 64 Pg.zero, []⟩ n) { k := 1 } (newMap n) n := vol_new 64 n h4 (by omega) h64
  have g0 : (Vol.formed ⟨List.replicate 64 Pg.zero, []⟩ n).Fit 64 := formed_fit (Vol.Fit.nil (List.replicate 64 Pg.zero) (by simp)) h4 h64
  have b0 : ∀ j, j < n → bitAt (newMap n) j = decide (j < 2) := fun j hj => newMap_bit _ _ (by omega)
  have F0 := Lib.hid f0
  have G0 := Lib.hid g0
  have B0 := Lib.hid b0
  have HR := Lib.hid hR
  have HT := Lib.hid (fun (P : Nat → Prop) (w1 w' : World) b hb S m (L : Lay P w1 w' b hb S) (h : VolOk S { k := 1 } m n) id hid hf hbelow => take_lay L h id hid hf hbelow)
  have HTN := Lib.hid (fun (P : Nat → Prop) (w1 w' : World) b hb S m (L : Lay P w1 w' b hb S) (h : VolOk S { k := 1 } m n) hbelow => takeNone_lay L h hbelow)
  have HL := Lib.hid (fun (P : Nat → Prop) (w1 w' : World) b hb S (L : Lay P w1 w' b hb S) (h : S.Fit 64) e => land_lay L h e)
  have HD := Lib.hid (fun (P : Nat → Prop) (w1 w' : World) b hb S (L : Lay P w1 w' b hb S) => L.drop)
  have c64 : (n : Int) ≤ 64 := by omega
  clear f0 g0 b0 hR
  go_enter Try.func4, Try.ntmps4
  go_wp2_with fail
  refine (HA.out _).mono ?_; rintro e w0 ⟨rfl, hb0⟩
  have K0 := Lib.hid hb0
  have hz0 := hb0.size
  clear hb0
  go_wp2_with fail
  refine (HM.out _).mono ?_; rintro e w1 ⟨hb, pb, rfl, hb1, q1, q2, hs1⟩
  have K1 := Lib.hid (K0.out.trans (hb1.mono hz0))
  have K2 := Lib.hid hs1
  clear hb1 hs1
  go_wp2_with fail
  refine (HN.out hb pb _ K1.out K2.out (by omega) (by omega)).mono ?_; rintro e w2 ⟨b, rfl, L2⟩
  have K3 := Lib.hid L2
  clear L2
  go_wp2_with fail
  refine (HFo.out _ _ _ K3.out).mono ?_; rintro e w3 ⟨rfl, L3⟩
  have K4 := Lib.hid L3
  clear L3
  go_wp2_with fail
  go_loopw [8] (fun i wr => ∃ j : Nat, 2 ≤ j ∧ j ≤ n ∧ i = .int .i64 j ∧ ∃ S m, Lay (· < w.heap.size) w wr b hb S ∧ VolOk S { k := 1 } m n ∧ S.Fit 64 ∧ ∀ t, t < n → bitAt m t = decide (t < j)) (fun i _ => n - (intOf i).toNat)
  case atStart => exact ⟨2, by omega, by omega, rfl, _, _, K4.out, F0.out, G0.out, B0.out⟩
  case round =>
    obtain ⟨j, hj2, hj, rfl, S, m, L, hV, hF, hB⟩ := hrel
    have KL := Lib.hid L
    by_cases hlt : j < n
    · have hc := HT.out _ _ _ _ _ _ _ L hV j hlt (by rw [hB j hlt]; simp) (fun t ht => by rw [hB t (by omega)]; simpa using ht)
      have hV2 := Lib.hid (hV.mark j true hj2 hlt)
      have hF2 := Lib.hid (mark_fit hV hF h64 j true hlt)
      have hB2 := Lib.hid (bits_take hV hlt hB)
      clear L hV hF hB
      go_wp2_with fail
      refine hc.mono ?_; rintro e w4 ⟨rfl, L4⟩
      have K5 := Lib.hid L4
      clear L4 hc
      go_wp2_with fail
      go_roundw
      case rel => exact ⟨j + 1, by omega, by omega, by go_num, _, _, K5.out, hV2.out, hF2.out, hB2.out⟩
      case measure => simp [intOf]; omega
    · have hje : j = n := by omega
      subst hje
      have KV := Lib.hid hV
      have KF := Lib.hid hF
      have KB := Lib.hid hB
      clear L hV hF hB
      go_wp2_with fail
      refine (HL.out _ _ _ _ _ _ KL.out KF.out 0).mono ?_; rintro e w4 ⟨rfl, L4⟩
      have hV4 := KV.out.landed KF.out h64
      have hF4 := landed_fit KF.out
      have e4 : S.after 0 = S.landed := if_pos rfl
      rw [e4] at L4
      have K5 := Lib.hid L4
      have KV4 := Lib.hid hV4
      have KF4 := Lib.hid hF4
      clear L4 hV4 hF4 e4
      go_wp2_with fail
      refine (HTN.out _ _ _ _ _ _ _ K5.out KV4.out (fun t ht => by rw [KB.out t ht]; simpa using ht)).mono ?_; rintro e w5 ⟨rfl, L5⟩
      have K6 := Lib.hid L5
      clear L5
      go_wp2_with fail
      refine (HD.out _ _ _ _ _ _ K6.out).mono ?_; rintro e w6 ⟨rfl, L6⟩
      have K7 := Lib.hid L6
      clear L6
      have hmk := run_newFree w6
      go_wp2_with fail
      have hrc : Below w.heap.size w (w6.alloc (.map #[] 0)) := K7.out.low.alloc (K7.out.low.size) _
      obtain ⟨Q, hQ⟩ : ∃ Q : Nat → Prop, Q = fun k => k < w.heap.size ∨ k = w6.heap.size := ⟨_, rfl⟩
      have hg7 := K7.out.guard (.map #[] 0)
      rw [← hQ] at hg7
      have hQl : ∀ k, k < w.heap.size → Q k := by intro k hk; rw [hQ]; exact .inl hk
      have hQf : Q w6.heap.size := by rw [hQ]; exact .inr rfl
      have hfb : w.heap.size ≤ w6.heap.size := K7.out.low.size
      have HQl := Lib.hid hQl
      have HQf := Lib.hid hQf
      have hbase : (⟨S.landed.base, []⟩ : Vol) = S.landed := vol_nil rfl
      rw [hbase] at hg7
      have HS0 : Hid (FreeAt Q j b hb w6.heap.size w (w6.alloc (.map #[] 0)) S.landed m []) :=
        Lib.hid ⟨hrc, hg7, KV4.out, KF4.out, rfl, fun t ht => by rw [KB.out t ht]; simpa using ht, ⟨#[], 0, heap_alloc_new _ _, rfl, MapKept.stamped_empty 0⟩, by simp⟩
      have HG := Lib.hid (fun (P : Nat → Prop) (w1 w' : World) b hb S m (L : Lay P w1 w' b hb S) (h : VolOk S { k := 1 } m j) id h2 hid hf => give_lay L h id h2 hid hf)
      have HGB := Lib.hid (fun (P : Nat → Prop) (w1 w' : World) b hb S m (L : Lay P w1 w' b hb S) (h : VolOk S { k := 1 } m j) id hbad => giveBad_lay L h id hbad)
      have HU := Lib.hid (fun (P : Nat → Prop) (w1 w' : World) b hb S m (L : Lay P w1 w' b hb S) (h : VolOk S { k := 1 } m j) => used_lay L h)
      clear hmk hrc hg7 hQl hQf hbase hQ KV4 KF4 KB KV KF K5 K6 K7 HA HM HN HFo F0 G0 B0
      generalize w6.heap.size = fb at *
      have hlen := HR.out.1
      obtain ⟨wo, rfl⟩ : ∃ wo : World, wo = wr := ⟨_, rfl⟩
      go_wp2_with fail
      go_loopw [73] (fun i wr => ∃ k : Nat, k ≤ len ∧ i = .int .i64 k ∧ ∃ S m G, FreeAt Q j b hb fb w wr S m G) (fun i _ => len - (intOf i).toNat)
      case atStart => exact ⟨0, by omega, rfl, _, _, _, HS0.out⟩
      case round =>
        obtain ⟨k, hk, rfl, S, m, G, h1, L, hV, hF, hMn, hB, hm, hG⟩ := hrel
        clear HS0
        have hsz1 := h1.size
        by_cases hlt : k < len
        · have hRk := HR.out.below h1
          obtain ⟨rb, ro, hvp, hrb, hcell⟩ := hRk.2.resolve_left (by omega)
          subst hvp
          have hc := hcell k hlt
          generalize zs.getD k 0 = id at *
          clear hcell hRk
          by_cases hgood : 2 ≤ id ∧ id < j ∧ ¬ id.toNat ∈ G
          · obtain ⟨g1, g2, g3⟩ := hgood
            obtain ⟨i, rfl⟩ := Int.eq_ofNat_of_zero_le (show 0 ≤ id by omega)
            rw [Int.toNat_natCast] at g3
            have HC := Lib.hid (HG.out _ _ _ _ _ _ _ L hV i (by omega) (by omega) (by rw [hB i (by omega)]; simp [g3]))
            have hV2 := hV.mark i false (by omega) (by omega)
            have hF2 := mark_fit hV hF h64 i false (by omega)
            have hB2 := bits_give (n := j) (i := i) hV (by omega) hB
            have KV2 := Lib.hid (hV2.landed hF2 h64)
            have KF2 := Lib.hid (landed_fit hF2)
            have KF3 := Lib.hid hF2
            have KB2 := Lib.hid hB2
            have K1 := Lib.hid h1
            have KM := Lib.hid hm
            have KG := Lib.hid hG
            have hgm : ¬ (i : Int) ∈ G.map (fun j : Nat => (j : Int)) := fun hh => g3 (mem_cast.1 hh)
            have t1 : decide ((2 : Int) ≤ (i : Int)) = true := by simp; omega
            have t2 : decide ((i : Int) < (j : Int)) = true := by simp; omega
            have t3 : decide (i < j) = true := by simp; omega
            clear L hV hF hB hV2 hF2 hB2 h1 hm hG hMn
            go_wp2_with fail
            refine HC.out.mono ?_; rintro e w8 ⟨rfl, L8⟩
            have K8 := Lib.hid L8
            clear L8
            go_wp2_with fail
            refine (HL.out _ _ _ _ _ _ K8.out KF3.out 0).mono ?_; rintro e w9 ⟨rfl, L9⟩
            have e4 : (S.put 1 (markPg m i false)).after 0 = (S.put 1 (markPg m i false)).landed := if_pos rfl
            rw [e4] at L9
            have hm9 := L9.keep.intMap KM.out HQf.out
            have hb9 := K1.out.trans (L9.keep.below HQl.out)
            have hlk := lookup_fr hm9 (i : Int)
            have hdf : decide ((i : Int) ∈ G.map (fun j : Nat => (j : Int))) = false := by simp only [hgm, decide_false]
            rw [hdf] at hlk
            obtain ⟨es, clock, hm', hM', hSt'⟩ := hm9
            obtain ⟨o, ho⟩ := run_mapUpdate_int (P := Try.prog) Try.underlying39 Try.underlying3 (.bool true) fb _ (i : Int) es clock hM' hSt'
            have u1 := (ho w9 hm').1
            have u2 := (ho w9 hm').2
            rw [updI_fr g3] at u2
            have gw : w9.grownBy (ChangeMaps.setBlock w9 fb o) (some fb) := grown_setBlock (grown_of_below (Below.refl _ w9) (some fb)) o
            have KL := Lib.hid (L9.poke HQf.out gw)
            have KB9 : Hid (Below w.heap.size w (ChangeMaps.setBlock w9 fb o)) := Lib.hid (hb9.grown gw hb9.size (fun q hq => by cases hq; exact hfb))
            have KU := Lib.hid u2
            clear L9 hb9 hm' hM' hSt' ho u2 gw e4 hgm hdf
            go_wp2_with fail
            go_roundw
            case rel => exact ⟨k + 1, by omega, by go_num, _, _, G ++ [i], KB9.out, KL.out, KV2.out, KF2.out, rfl, KB2.out, KU.out, fun x hx => by
              rcases List.mem_append.1 hx with hx | hx
              · exact KG.out x hx
              · simp at hx; subst hx; omega⟩
            case measure => simp [intOf]; omega
          · have HC := Lib.hid (HGB.out _ _ _ _ _ _ _ L hV id (by
              by_cases q1 : id < 2
              · exact .inl q1
              by_cases q2 : (j : Int) ≤ id
              · exact .inr (.inl q2)
              · refine .inr (.inr ?_)
                rw [hB id.toNat (by omega)]
                have : id.toNat ∈ G := by
                  by_cases q3 : id.toNat ∈ G
                  · exact q3
                  · exact absurd ⟨by omega, by omega, q3⟩ hgood
                simp [this]))
            have KV2 := Lib.hid hV
            have KF2 := Lib.hid hF
            have KB2 := Lib.hid hB
            have K1 := Lib.hid h1
            have KM := Lib.hid hm
            have KG := Lib.hid hG
            have KN := Lib.hid hMn
            have KBad := Lib.hid hgood
            clear L hV hF hB h1 hm hG hMn hgood
            go_wp2_with fail
            refine HC.out.mono ?_; rintro e w8 ⟨rfl, L8⟩
            have K8 := Lib.hid L8
            clear L8
            go_wp2_with fail
            refine (HL.out _ _ _ _ _ _ K8.out KF2.out 1).mono ?_; rintro e w9 ⟨rfl, L9⟩
            have e4 : S.after 1 = S := (if_neg (by decide)).trans (vol_nil KN.out)
            rw [e4] at L9
            have hm9 := L9.keep.intMap KM.out HQf.out
            have hb9 := Lib.hid (K1.out.trans (L9.keep.below HQl.out))
            have KL := Lib.hid L9.rebase
            have KM9 := Lib.hid hm9
            have hlk := lookup_fr hm9 id
            clear L9 hm9 e4
            by_cases q1 : (2 : Int) ≤ id
            · by_cases q2 : id < (j : Int)
              · have hmem : id ∈ G.map (fun j : Nat => (j : Int)) := by
                  obtain ⟨i, rfl⟩ := Int.eq_ofNat_of_zero_le (show 0 ≤ id by omega)
                  refine mem_cast.2 ?_
                  by_cases q3 : i ∈ G
                  · exact q3
                  · exact absurd ⟨q1, q2, by simpa using q3⟩ KBad.out
                have hdf : decide (id ∈ G.map (fun j : Nat => (j : Int))) = true := by simp only [hmem, decide_true]
                rw [hdf] at hlk
                have t1 : decide ((2 : Int) ≤ id) = true := by simpa using q1
                have t2 : decide (id < (j : Int)) = true := by simpa using q2
                clear hmem hdf
                go_wp2_with fail
                go_roundw
                case rel => exact ⟨k + 1, by omega, by go_num, S, m, G, hb9.out, KL.out, KV2.out, KF2.out, KN.out, KB2.out, KM9.out, KG.out⟩
                case measure => simp [intOf]; omega
              · have t1 : decide ((2 : Int) ≤ id) = true := by simpa using q1
                have t2 : decide (id < (j : Int)) = false := by simpa using q2
                clear hlk
                go_wp2_with fail
                go_roundw
                case rel => exact ⟨k + 1, by omega, by go_num, S, m, G, hb9.out, KL.out, KV2.out, KF2.out, KN.out, KB2.out, KM9.out, KG.out⟩
                case measure => simp [intOf]; omega
            · have t1 : decide ((2 : Int) ≤ id) = false := by simpa using q1
              clear hlk
              go_wp2_with fail
              go_roundw
              case rel => exact ⟨k + 1, by omega, by go_num, S, m, G, hb9.out, KL.out, KV2.out, KF2.out, KN.out, KB2.out, KM9.out, KG.out⟩
              case measure => simp [intOf]; omega
        · have hke : k = len := by omega
          subst hke
          have HS1 : Hid (FreeAt2 Q j b hb fb w wr S m G 2) := Lib.hid ⟨h1, L, hV, hF, fun t ht => by
            rw [hB t ht]
            by_cases q : t < 2
            · have : ¬ t ∈ G := fun hh => by have := hG t hh; omega
              simp [this]
            · simp [q], hm⟩
          have KG := Lib.hid hG
          clear h1 L hV hF hMn hB hm hG
          obtain ⟨wo2, rfl⟩ : ∃ wo2 : World, wo2 = wr := ⟨_, rfl⟩
          go_wp2_with fail
          go_loopw [18] (fun i wr => ∃ t : Nat, 2 ≤ t ∧ t ≤ j ∧ i = .int .i64 t ∧ ∃ S m, FreeAt2 Q j b hb fb w wr S m G t) (fun i _ => j - (intOf i).toNat)
          case atStart => exact ⟨2, by omega, by omega, rfl, _, _, HS1.out⟩
          case round =>
            obtain ⟨t, ht2, htj, rfl, S, m, h1, L, hV, hF, hB, hm⟩ := hrel
            clear HS1
            by_cases hlt : t < j
            · have hlk := lookup_fr hm (t : Int)
              by_cases hin : t ∈ G
              · have hmem : (t : Int) ∈ G.map (fun j : Nat => (j : Int)) := mem_cast.2 hin
                have hdf : decide ((t : Int) ∈ G.map (fun j : Nat => (j : Int))) = true := by simp only [hmem, decide_true]
                rw [hdf] at hlk
                have HC := Lib.hid (HT.out _ _ _ _ _ _ _ L hV t hlt (by rw [hB t hlt]; simp [hin]) (fun x hx => by rw [hB x (by omega)]; simp [hx]))
                have KV2 := Lib.hid (hV.mark t true ht2 hlt)
                have KF2 := Lib.hid (mark_fit hV hF h64 t true hlt)
                have KB2 := Lib.hid (bits_again (n := j) hV hlt hB)
                have K1 := Lib.hid h1
                have KM := Lib.hid hm
                clear L hV hF hB h1 hm hmem hdf hin
                go_wp2_with fail
                refine HC.out.mono ?_; rintro e w8 ⟨rfl, L8⟩
                have K8 := Lib.hid L8.rebase
                have K9 := Lib.hid (K1.out.trans (L8.keep.below HQl.out))
                have K10 := Lib.hid (L8.keep.intMap KM.out HQf.out)
                clear L8
                go_wp2_with fail
                go_roundw
                case rel => exact ⟨t + 1, by omega, by omega, by go_num, _, _, K9.out, K8.out, KV2.out, KF2.out, KB2.out, K10.out⟩
                case measure => simp [intOf]; omega
              · have hmem : ¬ (t : Int) ∈ G.map (fun j : Nat => (j : Int)) := fun hh => hin (mem_cast.1 hh)
                have hdf : decide ((t : Int) ∈ G.map (fun j : Nat => (j : Int))) = false := by simp only [hmem, decide_false]
                rw [hdf] at hlk
                have KL := Lib.hid L
                have KV2 := Lib.hid hV
                have KF2 := Lib.hid hF
                have KB2 := Lib.hid (bits_skip hin hB)
                have K1 := Lib.hid h1
                have KM := Lib.hid hm
                clear L hV hF hB h1 hm hmem hdf hin
                go_wp2_with fail
                go_roundw
                case rel => exact ⟨t + 1, by omega, by omega, by go_num, S, m, K1.out, KL.out, KV2.out, KF2.out, KB2.out, KM.out⟩
                case measure => simp [intOf]; omega
            · have hte : t = j := by omega
              subst hte
              have hul : (usedTo m t).length = t := used_all (fun x hx => by rw [hB x hx]; simp [hx])
              have HC := Lib.hid (HU.out _ _ _ _ _ _ _ L hV)
              rw [hul] at HC
              have K1 := Lib.hid h1
              clear L hV hF hB h1 hm hul
              go_wp2_with fail
              refine HC.out.mono ?_; rintro e w8 ⟨v, rfl, L8, hb8, ho8⟩
              have K9 := Lib.hid (K1.out.trans (L8.keep.below HQl.out))
              obtain ⟨vp, vc, hv⟩ : ∃ vp vc, v = .slice vp t vc := by
                rcases ownsRow_forms ho8 with ⟨h1, h2⟩ | ⟨g, c, h1⟩
                · omega
                · exact ⟨_, _, h1⟩
              subst hv
              clear L8 hb8 ho8
              go_wp2_with fail
              go_ret
              exact ⟨rfl, K9.out⟩
end Go.Proofs.Ytmbeicijljlejaa
