/-
  Layer 14 (space): the walk of SpaceOwns.
-/
import Derived.Test.YtmbeicijljlejaaOwn1
namespace Go.Proofs.Ytmbeicijljlejaa
open Go.RowKit Go.Joins
set_option linter.unusedVariables false
set_option linter.unusedSimpArgs false

def OwnQ (w : World) (fb : Nat) (k : Nat) : Prop := k < w.heap.size ∨ k = fb
/-- where the law stands -/
structure OwnAt (b hb fb n : Nat) (w wr : World) (S : Vol) (d m : Pg) (F : Owners) : Prop where
  low : Below w.heap.size w wr
  lay : Lay (OwnQ w fb) wr wr b hb S
  own : Owns S d m n F
  map : IntMap wr fb (ownM F)
  new : w.heap.size ≤ fb
theorem OwnAt.call {b hb fb n : Nat} {w wr w' : World} {S S' : Vol} {d m : Pg} {F : Owners} (h : OwnAt b hb fb n w wr S d m F) (L : Lay (OwnQ w fb) wr w' b hb S') : Below w.heap.size w w' ∧ Lay (OwnQ w fb) w' w' b hb S' ∧ IntMap w' fb (ownM F) :=
  ⟨h.low.trans (L.keep.below fun k hk => .inl hk), L.rebase, L.keep.intMap h.map (.inr rfl)⟩
theorem own_poke {b hb fb : Nat} {w w' : World} {S : Vol} (hb9 : Below w.heap.size w w') (L : Lay (OwnQ w fb) w' w' b hb S) (hfb : w.heap.size ≤ fb) (o : Obj) :
    Below w.heap.size w (ChangeMaps.setBlock w' fb o) ∧ Lay (OwnQ w fb) (ChangeMaps.setBlock w' fb o) (ChangeMaps.setBlock w' fb o) b hb S := by
  have gw : w'.grownBy (ChangeMaps.setBlock w' fb o) (some fb) := grown_setBlock (grown_of_below (Below.refl _ w') (some fb)) o
  exact ⟨hb9.grown gw hb9.size (fun q hq => by cases hq; exact hfb), L.poke (.inr rfl) gw⟩
theorem own_write {b hb fb : Nat} {w w' : World} {S : Vol} {F : Owners} (hb9 : Below w.heap.size w w') (L : Lay (OwnQ w fb) w' w' b hb S) (hm : IntMap w' fb (ownM F)) (hfb : w.heap.size ≤ fb) (k v : Int) (hk : ¬ k ∈ F.map (·.1)) :
    ∃ o, (Instr.mapUpdate 43 (.map (some fb)) (.int .i64 k) (.int .i64 v)).run Try.prog w' = .ok () (ChangeMaps.setBlock w' fb o) ∧ Below w.heap.size w (ChangeMaps.setBlock w' fb o) ∧ Lay (OwnQ w fb) (ChangeMaps.setBlock w' fb o) (ChangeMaps.setBlock w' fb o) b hb S ∧ IntMap (ChangeMaps.setBlock w' fb o) fb (ownM (F ++ [(k, v)])) := by
  obtain ⟨es, clock, hm', hM', hSt'⟩ := hm
  obtain ⟨o, ho⟩ := run_mapUpdate_int (P := Try.prog) Try.underlying43 Try.underlying3 (.int .i64 v) fb _ k es clock hM' hSt'
  have h2 := (ho w' hm').2
  rw [updI_own v hk] at h2
  obtain ⟨p1, p2⟩ := own_poke hb9 L hfb o
  exact ⟨o, (ho w' hm').1, p1, p2, h2⟩
theorem own_start {b hb : Nat} {w w5 : World} {S : Vol} (hM : S.M = []) (L : Lay (· < w.heap.size) w w5 b hb S) :
    ∃ o1 o2, (Instr.makeMap 43 none).run Try.prog w5 = .ok (.map (some w5.heap.size)) (w5.alloc (.map #[] 0)) ∧
      (Instr.mapUpdate 43 (.map (some w5.heap.size)) (.int .i64 0) (.int .i64 0)).run Try.prog (w5.alloc (.map #[] 0)) = .ok () (ChangeMaps.setBlock (w5.alloc (.map #[] 0)) w5.heap.size o1) ∧
      (Instr.mapUpdate 43 (.map (some w5.heap.size)) (.int .i64 1) (.int .i64 0)).run Try.prog (ChangeMaps.setBlock (w5.alloc (.map #[] 0)) w5.heap.size o1) = .ok () (ChangeMaps.setBlock (ChangeMaps.setBlock (w5.alloc (.map #[] 0)) w5.heap.size o1) w5.heap.size o2) ∧
      Below w.heap.size w (ChangeMaps.setBlock (ChangeMaps.setBlock (w5.alloc (.map #[] 0)) w5.heap.size o1) w5.heap.size o2) ∧
      Lay (OwnQ w w5.heap.size) (ChangeMaps.setBlock (ChangeMaps.setBlock (w5.alloc (.map #[] 0)) w5.heap.size o1) w5.heap.size o2) (ChangeMaps.setBlock (ChangeMaps.setBlock (w5.alloc (.map #[] 0)) w5.heap.size o1) w5.heap.size o2) b hb S ∧
      IntMap (ChangeMaps.setBlock (ChangeMaps.setBlock (w5.alloc (.map #[] 0)) w5.heap.size o1) w5.heap.size o2) w5.heap.size (ownM [(0, 0), (1, 0)]) := by
  have hsz := L.low.size
  have B0 : Below w.heap.size w (w5.alloc (.map #[] 0)) := L.low.alloc hsz _
  have L0 := L.guard (.map #[] 0)
  have I0 : IntMap (w5.alloc (.map #[] 0)) w5.heap.size (ownM []) := ⟨#[], 0, heap_alloc_new _ _, rfl, MapKept.stamped_empty 0⟩
  obtain ⟨o1, r1, p1, q1, i1⟩ := own_write (fb := w5.heap.size) B0 L0 I0 hsz 0 0 (by simp)
  obtain ⟨o2, r2, p2, q2, i2⟩ := own_write p1 q1 i1 hsz 1 0 (by simp)
  exact ⟨o1, o2, run_newOwn w5, r1, r2, p2, q2, i2⟩

/-- what the calls do, in one form each -/
theorem make_own {P : Nat → Prop} {w0 w : World} {b hb : Nat} {S : Vol} {d m : Pg} {n : Nat} {F : Owners} (L : Lay P w0 w b hb S) (h : Owns S d m n F) (kind : Int) :
    Calls Try.prog 11 #[.pointer (some ⟨b, 0, none⟩), .int .i64 kind] w fun r w' =>
      (∃ (x e : Int), e ≠ 0 ∧ r = .returned (.tuple #[.int .i64 x, .int .i64 e]) ∧ Lay P w0 w' b hb S) ∨
      (∃ (k id : Nat), k < 6 ∧ id < n ∧ bitAt m id = false ∧ 1 ≤ kind ∧ kind ≤ 3 ∧ r = .returned (.tuple #[.int .i64 ((k : Int) + 1), .int .i64 0]) ∧ Lay P w0 w' b hb (S.made d m k id kind)) := by
  by_cases hbad : kind < 1 ∨ 3 < kind
  · exact (make_bad _ kind w hbad).mono fun r w' ⟨h1, h2⟩ => .inl ⟨0, 1, by omega, h1, h2 ▸ L⟩
  · rcases first_free (p := fun j => decide (d.a j ≠ 0)) 6 with ⟨k, hk, h1, h2⟩ | hall
    · have ha : d.a k = 0 := by simpa using h1
      have hbef : ∀ j, j < k → d.a j ≠ 0 := fun j hj => by simpa using h2 j hj
      rcases first_free (p := bitAt m) n with ⟨id, hid, h3, h4⟩ | hfull
      · exact (make_lay L h.vol k hk ha hbef id hid h3 h4 kind (by omega) _ rfl).mono fun r w' ⟨q1, q2⟩ => .inr ⟨k, id, hk, hid, h3, by omega, by omega, q1, q2⟩
      · exact (make_full L h.vol k hk ha hbef hfull kind (by omega)).mono fun r w' ⟨q1, q2⟩ => .inl ⟨0, 140, by omega, q1, q2⟩
    · exact (make_many L h.vol (fun j hj => by simpa using hall j hj) kind (by omega)).mono fun r w' ⟨q1, q2⟩ => .inl ⟨0, 192, by omega, q1, q2⟩
theorem take_own {P : Nat → Prop} {w0 w : World} {b hb : Nat} {S : Vol} {d m : Pg} {n : Nat} {F : Owners} (L : Lay P w0 w b hb S) (h : Owns S d m n F) :
    Calls Try.prog 15 #[.pointer (some ⟨b, 0, none⟩)] w fun r w' =>
      (r = .returned (.tuple #[.int .i64 0, .int .i64 140]) ∧ Lay P w0 w' b hb S) ∨
      (∃ id : Nat, id < n ∧ bitAt m id = false ∧ r = .returned (.tuple #[.int .i64 id, .int .i64 0]) ∧ Lay P w0 w' b hb (S.put 1 (markPg m id true))) := by
  rcases first_free (p := bitAt m) n with ⟨id, hid, h3, h4⟩ | hfull
  · exact (take_lay L h.vol id hid h3 h4).mono fun r w' ⟨q1, q2⟩ => .inr ⟨id, hid, h3, q1, q2⟩
  · exact (takeNone_lay L h.vol hfull).mono fun r w' ⟨q1, q2⟩ => .inl ⟨q1, q2⟩
theorem forget_own {P : Nat → Prop} {w0 w : World} {b hb : Nat} {S : Vol} {d m : Pg} {n : Nat} {F : Owners} (L : Lay P w0 w b hb S) (h : Owns S d m n F) (k : Nat) (hk : k < 6) (st : Int) (hst : st = (k : Int) + 1) :
    Calls Try.prog 14 #[.pointer (some ⟨b, 0, none⟩), .int .i64 st] w fun r w' =>
      (r = .returned (.int .i64 1) ∧ Lay P w0 w' b hb S) ∨ (r = .returned (.int .i64 0) ∧ Lay P w0 w' b hb (S.forgot d m n k)) := by
  by_cases ha : d.a k = 0
  · exact (forget_bad L h.vol st (.inr (.inr ⟨k, hk, hst, ha⟩))).mono fun r w' q => .inl q
  · exact (forget_lay L h.vol k hk ha st hst).mono fun r w' q => .inr q
theorem Owns.same {S : Vol} {d m : Pg} {n : Nat} {F : Owners} (h : Owns S d m n F) {e : Int} (he : e ≠ 0) : S.after e = S := (if_neg he).trans (vol_nil h.none')
theorem after0 (S : Vol) : S.after 0 = S.landed := if_pos rfl

/-- the loop over the owners is under way -/
structure RngAt (b hb fb ri : Nat) (w wr : World) (S : Vol) (F0 F1 : Owners) (st : Int) (left : Int → Prop) (cnt : Nat) : Prop where
  low : Below w.heap.size w wr
  lay : Lay (fun k => OwnQ w fb k ∨ k = ri) wr wr b hb S
  rng : RangeAt wr fb ri (ownM F1) left cnt
  keys : (F1.map (·.1)).Nodup
  same : ∀ x, x ∈ F1 ↔ x ∈ F0 ∧ (x.2 ≠ st ∨ left x.1)
  ri : w.heap.size ≤ ri
  new : w.heap.size ≤ fb
theorem own_val {F : Owners} {k : Int} {v : Value} (h : (k, v) ∈ ownM F) : ∃ c, v = .int .i64 c ∧ (k, c) ∈ F := by
  obtain ⟨x, hx, e⟩ := List.mem_map.1 h
  cases e
  exact ⟨x.2, rfl, hx⟩

set_option maxHeartbeats 2000000 in
set_option maxRecDepth 100000 in
theorem owns_bad (n : Int) (hn : n < 4 ∨ 64 < n) (v v2 : Value) (w : World) :
    Calls Try.prog 5 #[.int .i64 n, v, v2] w fun e w' => e = .returned (.bool true) ∧ Below w.heap.size w w' := by
  have HA := Lib.hid (fun (w' : World) => awake_any w')
  have HM := Lib.hid (fun (w' : World) => memory_ok 64 (by omega) (by omega) w')
  have HN := Lib.hid (fun hb pb w' hB h h1 h2 => new_lay hb pb (List.replicate 64 Pg.zero) w w' hB h h1 h2)
  by_cases h4 : n < 4
  · have HFo := Lib.hid (fun b w' => format_bad b n w' h4)
    have h64 : ¬ 64 < n := by omega
    clear hn
    go_enter Try.func5, Try.ntmps5
    go_wp2_with fail
    refine (HA.out _).mono ?_; rintro e w0 ⟨rfl, hb0⟩
    have K0 := Lib.hid hb0
    have hz0 := hb0.size
    clear hb0
    go_wp2_with fail
    refine (HM.out _).mono ?_; rintro e w1 ⟨hb, pb, rfl, hb1, q1, q2, hs1⟩
    have K1 := Lib.hid (K0.out.trans (hb1.mono hz0))
    have K2 := Lib.hid hs1
    clear hb1 hs1
    go_wp2_with fail
    refine (HN.out hb pb _ K1.out K2.out (by omega) (by omega)).mono ?_; rintro e w2 ⟨b, rfl, L2⟩
    have K3 := Lib.hid L2
    clear L2
    go_wp2_with fail
    refine (HFo.out _ _).mono ?_; rintro e w3 ⟨rfl, rfl⟩
    go_wp2_with fail
    go_ret
    exact ⟨rfl, K3.out.low⟩
  · have h64 : 64 < n := by omega
    clear hn
    go_enter Try.func5, Try.ntmps5
    go_wp2_with fail
    refine (HA.out _).mono ?_; rintro e w0 ⟨rfl, hb0⟩
    have K0 := Lib.hid hb0
    have hz0 := hb0.size
    clear hb0
    go_wp2_with fail
    refine (HM.out _).mono ?_; rintro e w1 ⟨hb, pb, rfl, hb1, q1, q2, hs1⟩
    have K1 := Lib.hid (K0.out.trans (hb1.mono hz0))
    have K2 := Lib.hid hs1
    clear hb1 hs1
    go_wp2_with fail
    refine (HN.out hb pb _ K1.out K2.out (by omega) (by omega)).mono ?_; rintro e w2 ⟨b, rfl, L2⟩
    have K3 := Lib.hid L2
    clear L2
    go_wp2_with fail
    go_ret
    exact ⟨rfl, K3.out.low⟩

set_option maxHeartbeats 8000000 in
set_option maxRecDepth 100000 in
theorem owns_good (n : Nat) (h4 : 4 ≤ n) (h64 : n ≤ 64) (vp : Option Addr) (len cap : Nat) (zs : List Int) (tp : Option Addr) (tl tc : Nat) (ts : List Int) (w : World) (hR : RowOk w vp len zs) (hT : RowOk w tp tl ts) :
    Calls Try.prog 5 #[.int .i64 n, .slice vp len cap, .slice tp tl tc] w fun e w' => e = .returned (.bool true) ∧ Below w.heap.size w w' := by
  have HA := Lib.hid (fun (w' : World) => awake_any w')
  have HM := Lib.hid (fun (w' : World) => memory_ok 64 (by omega) (by omega) w')
  have HN := Lib.hid (fun hb pb w' hB h h1 h2 => new_lay hb pb (List.replicate 64 Pg.zero) w w' hB h h1 h2)
  have HFo := Lib.hid (fun w' b hb (L : Lay (· < w.heap.size) w w' b hb ⟨List.replicate 64 Pg.zero, []⟩) => format_lay L n h4 (by omega))
  have HLf := Lib.hid (fun w' b hb (L : Lay (· < w.heap.size) w w' b hb (Vol.formed ⟨List.replicate 64 Pg.zero, []⟩ n)) => land_lay L (formed_fit (Vol.Fit.nil (List.replicate 64 Pg.zero) (by simp)) h4 h64) 0)
  have HS0 := Lib.hid (Owns.start n h4 h64)
  have HR := Lib.hid hR
  have HT := Lib.hid hT
  have c64 : (n : Int) ≤ 64 := by omega
  have hrl := hR.1
  have htl := hT.1
  clear hR hT
  go_enter Try.func5, Try.ntmps5
  go_wp2_with fail
  refine (HA.out _).mono ?_; rintro e w0 ⟨rfl, hb0⟩
  have K0 := Lib.hid hb0
  have hz0 := hb0.size
  clear hb0
  go_wp2_with fail
  refine (HM.out _).mono ?_; rintro e w1 ⟨hb, pb, rfl, hb1, q1, q2, hs1⟩
  have K1 := Lib.hid (K0.out.trans (hb1.mono hz0))
  have K2 := Lib.hid hs1
  clear hb1 hs1
  go_wp2_with fail
  refine (HN.out hb pb _ K1.out K2.out (by omega) (by omega)).mono ?_; rintro e w2 ⟨b, rfl, L2⟩
  have K3 := Lib.hid L2
  clear L2
  go_wp2_with fail
  refine (HFo.out _ _ _ K3.out).mono ?_; rintro e w3 ⟨rfl, L3⟩
  have K4 := Lib.hid L3
  clear L3
  go_wp2_with fail
  refine (HLf.out _ _ _ K4.out).mono ?_; rintro e w5 ⟨rfl, L5⟩
  have e0 : (Vol.formed ⟨List.replicate 64 Pg.zero, []⟩ n).after 0 = (Vol.formed ⟨List.replicate 64 Pg.zero, []⟩ n).landed := if_pos rfl
  rw [e0] at L5
  obtain ⟨o1, o2, r1, r2, r3, p1, p2, p3⟩ := own_start rfl L5
  have hfs : w.heap.size ≤ w5.heap.size := L5.low.size
  have K6 : Hid (OwnAt b hb w5.heap.size n w (ChangeMaps.setBlock (ChangeMaps.setBlock (w5.alloc (.map #[] 0)) w5.heap.size o1) w5.heap.size o2) (Vol.formed ⟨List.replicate 64 Pg.zero, []⟩ n).landed { k := 1 } (newMap n) [(0, 0), (1, 0)]) := Lib.hid ⟨p1, p2, HS0.out, p3, hfs⟩
  clear L5 p1 p2 p3 hfs e0
  go_wp2_with fail
  obtain ⟨fb, hfb⟩ : ∃ fb, w5.heap.size = fb := ⟨_, rfl⟩
  rw [hfb] at K6
  simp only [hfb]
  clear r1 r2 r3
  go_loopw [60] (fun i wr => ∃ k : Nat, k ≤ len ∧ i = .int .i64 k ∧ ∃ S d m F, OwnAt b hb fb n w wr S d m F) (fun i _ => len - (intOf i).toNat)
  case atStart => exact ⟨0, by omega, rfl, _, _, _, _, K6.out⟩
  case round =>
    clear K6
    obtain ⟨k, hk, rfl, S, d, m, F, hA⟩ := hrel
    by_cases hlt : k < len
    · have hRk := HR.out.below hA.low
      obtain ⟨rb, ro, hvp, hrb, hcell⟩ := hRk.2.resolve_left (by omega)
      subst hvp
      have hc := hcell k hlt
      generalize zs.getD k 0 = kd at *
      have HC := Lib.hid (make_own hA.lay hA.own kd)
      have HA' := Lib.hid hA
      clear hcell hRk hA
      go_wp2_with fail
      refine HC.out.mono ?_; rintro r w6 (⟨x, e, he, rfl, L6⟩ | ⟨q, id, hq, hid, hbit, k1, k2, rfl, L6⟩)
      · have HLd := Lib.hid (land_lay L6 HA'.out.own.fit e)
        rw [HA'.out.own.same he] at HLd
        have e1 : (e == 0) = false := by simp [he]
        clear L6 he
        go_wp2_with fail
        refine HLd.out.mono ?_; rintro r w7 ⟨rfl, L7⟩
        obtain ⟨p1, p2, p3⟩ := HA'.out.call L7
        have K7 : Hid (OwnAt b hb fb n w w7 S d m F) := Lib.hid ⟨p1, p2, HA'.out.own, p3, HA'.out.new⟩
        clear L7 p1 p2 p3
        go_wp2_with fail
        go_roundw
        case rel => exact ⟨k + 1, by omega, by go_num, _, _, _, _, K7.out⟩
        case measure => simp [intOf]; omega
      · obtain ⟨f2, fnot⟩ := HA'.out.own.free hid hbit
        have hO2 := HA'.out.own.made hid hbit q hq kd
        have hfit := made_fit HA'.out.own.vol HA'.out.own.fit h64 q id kd hq f2 hid
        have HLd := Lib.hid (land_lay L6 hfit 0)
        rw [after0] at HLd
        have hda : (d.setC q 1 (entryD kd (id : Nat))).a q = 1 := by rw [a_setC _ _ _ hq hq, if_pos rfl]
        have hdd : (d.setC q 1 (entryD kd (id : Nat))).d q = entryD kd (id : Nat) := by rw [d_setC _ _ _ hq hq, if_pos rfl]
        have HFi := Lib.hid (fun w' (L' : Lay (OwnQ w fb) wr w' b hb (S.made d m q id kd).landed) => find_lay L' hO2.vol q hq (by rw [hda]; decide) kd id (by omega) (by omega) (by omega) (by omega) hdd ((q : Int) + 1) rfl 1 hda)
        have HO2 := Lib.hid hO2
        have t1 : decide ((n : Int) ≤ (id : Int)) = false := by simp; omega
        have HNot := Lib.hid fnot
        have hdf : decide ((id : Int) ∈ F.map (·.1)) = false := by simp only [fnot, decide_false]
        have HDf := Lib.hid hdf
        clear L6 hO2 hfit hda hdd hbit fnot hdf
        go_wp2_with fail
        refine HLd.out.mono ?_; rintro r w7 ⟨rfl, L7⟩
        have K7 := Lib.hid L7
        clear L7
        go_wp2_with fail
        refine (HFi.out _ K7.out).mono ?_; rintro r w8 ⟨rfl, L8⟩
        obtain ⟨p1, p2, p3⟩ := HA'.out.call L8
        obtain ⟨v, hlk⟩ := lookup_own p3 (id : Int)
        rw [HDf.out] at hlk
        obtain ⟨o, u1, p4, p5, p6⟩ := own_write p1 p2 p3 HA'.out.new (id : Int) ((q : Int) + 1) HNot.out
        have K8 : Hid (OwnAt b hb fb n w (ChangeMaps.setBlock w8 fb o) _ _ _ (F ++ [((id : Int), (q : Int) + 1)])) := Lib.hid ⟨p4, p5, HO2.out, p6, HA'.out.new⟩
        clear L8 p1 p2 p3 p4 p5 p6
        go_wp2_with fail
        go_roundw
        case rel => exact ⟨k + 1, by omega, by go_num, _, _, _, _, K8.out⟩
        case measure => simp [intOf]; omega
    · obtain ⟨wo, rfl⟩ : ∃ wo : World, wo = wr := ⟨_, rfl⟩
      have KA : Hid (OwnAt b hb fb n w wo S d m F) := Lib.hid hA
      clear hA
      go_wp2_with fail
      go_loopw [110] (fun i wr => ∃ k : Nat, k ≤ tl ∧ i = .int .i64 k ∧ ∃ S d m F, OwnAt b hb fb n w wr S d m F) (fun i _ => tl - (intOf i).toNat)
      case atStart => exact ⟨0, by omega, rfl, _, _, _, _, KA.out⟩
      case round =>
        clear KA
        obtain ⟨t, ht, rfl, S, d, m, F, hA⟩ := hrel
        by_cases hltt : t < tl
        · have hRk := HT.out.below hA.low
          obtain ⟨rb, ro, hvp, hrb, hcell⟩ := hRk.2.resolve_left (by omega)
          subst hvp
          have hc := hcell t hltt
          generalize ts.getD t 0 = st at *
          have HA' := Lib.hid hA
          clear hcell hRk
          by_cases hs1 : st < 1
          · clear hA
            go_wp2_with fail
            go_roundw
            case rel => exact ⟨t + 1, by omega, by go_num, _, _, _, _, HA'.out⟩
            case measure => simp [intOf]; omega
          by_cases hs6 : 6 < st
          · clear hA
            go_wp2_with fail
            go_roundw
            case rel => exact ⟨t + 1, by omega, by go_num, _, _, _, _, HA'.out⟩
            case measure => simp [intOf]; omega
          · have HC := Lib.hid (take_own hA.lay hA.own)
            clear hA
            go_wp2_with fail
            refine HC.out.mono ?_; rintro r w6 (⟨rfl, L6⟩ | ⟨id, hid, hbit, rfl, L6⟩)
            · have HD := Lib.hid L6.drop
              clear L6
              go_wp2_with fail
              refine HD.out.mono ?_; rintro r w7 ⟨rfl, L7⟩
              rw [vol_nil HA'.out.own.none'] at L7
              obtain ⟨p1, p2, p3⟩ := HA'.out.call L7
              have hA7 : OwnAt b hb fb n w w7 S d m F := ⟨p1, p2, HA'.out.own, p3, HA'.out.new⟩
              have HF0 : Hid (∃ S d m F, OwnAt b hb fb n w w7 S d m F) := Lib.hid ⟨_, _, _, _, hA7⟩
              clear L7 p1 p2 p3 hA7
              go_wp2_with fail
              go_loopw [26] (fun st wr => ∃ k : Nat, k ≤ 6 ∧ st = .int .i64 ((k : Int) + 1) ∧ ∃ S d m F, OwnAt b hb fb n w wr S d m F) (fun st _ => 7 - (intOf st).toNat)
              case atStart => exact ⟨0, by omega, rfl, HF0.out⟩
              case round =>
                clear HF0
                obtain ⟨k, hk, rfl, S, d, m, F, hA⟩ := hrel
                by_cases hk6 : k < 6
                · have HC := Lib.hid (forget_own hA.lay hA.own k hk6 _ rfl)
                  have HA' := Lib.hid hA
                  have ek : decide ((k : Int) + 1 ≤ 6) = true := by simp; omega
                  clear hA
                  go_wp2_with fail
                  refine HC.out.mono ?_; rintro r w6 (⟨rfl, L6⟩ | ⟨rfl, L6⟩)
                  · have HLd := Lib.hid (land_lay L6 HA'.out.own.fit 1)
                    rw [HA'.out.own.same (e := 1) (by omega)] at HLd
                    clear L6
                    go_wp2_with fail
                    refine HLd.out.mono ?_; rintro r w7 ⟨rfl, L7⟩
                    obtain ⟨p1, p2, p3⟩ := HA'.out.call L7
                    have K7 : Hid (OwnAt b hb fb n w w7 S d m F) := Lib.hid ⟨p1, p2, HA'.out.own, p3, HA'.out.new⟩
                    clear L7 p1 p2 p3
                    have HU := Lib.hid (used_lay K7.out.lay K7.out.own.vol)
                    go_wp2_with fail
                    refine HU.out.mono ?_; rintro r w9 ⟨v, rfl, L9, hb9, hown⟩
                    obtain ⟨p1, p2, p3⟩ := K7.out.call L9
                    have hlen := fun ty => run_len_int (P := Try.prog) Try.underlying43 fb _ w9 p3 ty
                    rw [ownM, List.length_map, K7.out.own.len] at hlen
                    have hpos := used_pos K7.out.own.vol
                    have hUs := K7.out.own.used
                    have K9 : Hid (OwnAt b hb fb n w w9 _ _ _ _) := Lib.hid ⟨p1, p2, K7.out.own, p3, K7.out.new⟩
                    have hul := usedTo_len m n
                    generalize usedTo m n = U at *
                    obtain ⟨g, vc, hv⟩ := ownsRow_form hown hpos
                    subst hv
                    have HOw := Lib.hid hown
                    have HUs := Lib.hid hUs
                    clear L9 hb9 hown hUs p1 p2 p3 HU
                    go_wp2_with fail
                    go_loopw [207] (fun i wz => ∃ j : Nat, j ≤ U.length ∧ i = .int .i64 j ∧ wz = w9) (fun i _ => U.length - (intOf i).toNat)
                    case atStart => exact ⟨0, by omega, rfl, by first | rfl | trivial⟩
                    case round =>
                      obtain ⟨j, hj, rfl, rfl⟩ := hrel
                      by_cases hltj : j < U.length
                      · have hc := (HOw.out.cellAt j (by omega)).trans (idVals_get U j hltj)
                        obtain ⟨v9, hlk⟩ := lookup_own K9.out.map (U[j] : Int)
                        rw [decide_eq_true (HUs.out j hltj)] at hlk
                        generalize U[j] = y at *
                        go_wp2_with fail
                        go_roundw
                        case rel => exact ⟨j + 1, by omega, by go_num, by first | rfl | trivial⟩
                        case measure => simp [intOf]; omega
                      · have hje : j = U.length := by omega
                        subst hje
                        clear hlen
                        go_wp2_with fail
                        go_roundw
                        case rel => exact ⟨k + 1, by omega, by go_num, _, _, _, _, K9.out⟩
                        case measure => simp [intOf]; omega
                  · have HLd := Lib.hid (land_lay L6 (forgot_fit HA'.out.own.vol HA'.out.own.fit h64 k hk6) 0)
                    rw [after0] at HLd
                    clear L6
                    go_wp2_with fail
                    refine HLd.out.mono ?_; rintro r w7 ⟨rfl, L7⟩
                    obtain ⟨p1, p2, p3⟩ := HA'.out.call L7
                    obtain ⟨oi, hrun, hRA⟩ := range_int (P := Try.prog) Try.underlying43 p3
                    have hsz7 := p1.size
                    have KR : Hid (RngAt b hb fb w7.heap.size w (w7.alloc oi) (S.forgot d m n k).landed F F ((k : Int) + 1) (fun j => j ∈ (ownM F).map (·.1)) (ownM F).length) :=
                      Lib.hid ⟨p1.alloc hsz7 _, p2.guard oi, hRA, HA'.out.own.keys, fun x => ⟨fun hx => ⟨hx, .inr (by rw [ownM_keys]; exact List.mem_map.2 ⟨x, hx, rfl⟩)⟩, fun hx => hx.1⟩, hsz7, HA'.out.new⟩
                    clear L7 p1 p2 p3 hRA
                    go_wp2_with fail
                    generalize w7.heap.size = ri at *
                    go_loopw [] (fun wq => ∃ F1 left cnt, RngAt b hb fb ri w wq (S.forgot d m n k).landed F F1 ((k : Int) + 1) left cnt) (fun wq => wq.rangeLeft fb ri)
                    case atStart => exact ⟨_, _, _, KR.out⟩
                    case round =>
                      clear KR hrun
                      obtain ⟨F1, left, cnt, hG⟩ := hrel
                      obtain ⟨wo, rfl⟩ : ∃ wo : World, wo = wr := ⟨_, rfl⟩
                      rcases hG.rng.next (P := Try.prog) with ⟨h0, hnone, hN⟩ | ⟨k1, v1, w2, cnt', hkv, hleft, hN, hR2, hlt2, hg2, hsz2, hent⟩
                      · have K7 : Hid (OwnAt b hb fb n w wo (S.forgot d m n k).landed (d.setC k 0 ByteArray.empty) (m.forgot S n k) F1) :=
                          Lib.hid ⟨hG.low, hG.lay.weaken fun q hq => .inl hq, HA'.out.own.forgot k hk6 hG.keys (fun x => by
                            rw [hG.same x]
                            exact ⟨fun h => ⟨h.1, h.2.resolve_right (hnone _)⟩, fun h => ⟨h.1, .inl h.2⟩⟩), hG.rng.map, hG.new⟩
                        clear hG hnone
                        have HU := Lib.hid (used_lay K7.out.lay K7.out.own.vol)
                        go_wp2_with fail
                        refine HU.out.mono ?_; rintro r w9 ⟨v, rfl, L9, hb9, hown⟩
                        obtain ⟨p1, p2, p3⟩ := K7.out.call L9
                        have hlen := fun ty => run_len_int (P := Try.prog) Try.underlying43 fb _ w9 p3 ty
                        rw [ownM, List.length_map, K7.out.own.len] at hlen
                        have hpos := used_pos K7.out.own.vol
                        have hUs := K7.out.own.used
                        have K9 : Hid (OwnAt b hb fb n w w9 _ _ _ _) := Lib.hid ⟨p1, p2, K7.out.own, p3, K7.out.new⟩
                        have hul := usedTo_len (m.forgot S n k) n
                        generalize usedTo (m.forgot S n k) n = U at *
                        obtain ⟨g, vc, hv⟩ := ownsRow_form hown hpos
                        subst hv
                        have HOw := Lib.hid hown
                        have HUs := Lib.hid hUs
                        clear L9 hb9 hown hUs p1 p2 p3 HU
                        go_wp2_with fail
                        go_loopw [207] (fun i wz => ∃ j : Nat, j ≤ U.length ∧ i = .int .i64 j ∧ wz = w9) (fun i _ => U.length - (intOf i).toNat)
                        case atStart => exact ⟨0, by omega, rfl, by first | rfl | trivial⟩
                        case round =>
                          obtain ⟨j, hj, rfl, rfl⟩ := hrel
                          by_cases hltj : j < U.length
                          · have hc := (HOw.out.cellAt j (by omega)).trans (idVals_get U j hltj)
                            obtain ⟨v9, hlk⟩ := lookup_own K9.out.map (U[j] : Int)
                            rw [decide_eq_true (HUs.out j hltj)] at hlk
                            generalize U[j] = y at *
                            go_wp2_with fail
                            go_roundw
                            case rel => exact ⟨j + 1, by omega, by go_num, by first | rfl | trivial⟩
                            case measure => simp [intOf]; omega
                          · have hje : j = U.length := by omega
                            subst hje
                            clear hlen
                            go_wp2_with fail
                            go_roundw
                            case rel => exact ⟨k + 1, by omega, by go_num, _, _, _, _, K9.out⟩
                            case measure => simp [intOf]; omega
                      · obtain ⟨c1, rfl, hcF⟩ := own_val hkv
                        obtain ⟨hyes, hno⟩ := own_round HA'.out.own.keys hG.same hcF
                        have hlow2 := hG.low.grown hg2 hG.low.size (fun q hq => by cases hq; exact hG.ri)
                        have hlay2 := hG.lay.poke (.inr rfl) hg2
                        have hle1 := hG.rng.left_eq
                        by_cases hc1 : c1 = (k : Int) + 1
                        · obtain ⟨o, cnt2, hdel, hR3, hle⟩ := hR2.drop (P := Try.prog) Try.underlying43 Try.underlying3 k1
                          rw [delI_own k1 hG.keys] at hR3
                          have gw : w2.grownBy (ChangeMaps.setBlock w2 fb o) (some fb) := grown_setBlock (grown_of_below (Below.refl _ w2) (some fb)) o
                          have KR : Hid (RngAt b hb fb ri w (ChangeMaps.setBlock w2 fb o) (S.forgot d m n k).landed F (F1.filter (fun x => decide (x.1 ≠ k1))) ((k : Int) + 1) _ cnt2) :=
                            Lib.hid ⟨hlow2.grown gw hlow2.size (fun q hq => by cases hq; exact hG.new), hlay2.poke (.inl (.inr rfl)) gw, hR3, (List.Pairwise.sublist ((List.filter_sublist).map _) hG.keys), hyes hc1, hG.ri, hG.new⟩
                          have hle3 := hR3.left_eq
                          subst hc1
                          clear hG hyes hno hlow2 hlay2 hR2 hR3 gw hcF hkv hleft
                          go_wp2_with fail
                          go_roundw
                          case rel => exact ⟨_, _, _, KR.out⟩
                          case measure => rw [hle3, hle1]; omega
                        · have KR : Hid (RngAt b hb fb ri w w2 (S.forgot d m n k).landed F F1 ((k : Int) + 1) _ cnt') := Lib.hid ⟨hlow2, hlay2, hR2, hG.keys, hno hc1, hG.ri, hG.new⟩
                          have hle3 := hR2.left_eq
                          have e1 : (c1 == (k : Int) + 1) = false := by simp [hc1]
                          clear hG hyes hno hlow2 hlay2 hR2 hcF hkv hleft hc1
                          go_wp2_with fail
                          go_roundw
                          case rel => exact ⟨_, _, _, KR.out⟩
                          case measure => rw [hle3, hle1]; omega
                · have ek : decide ((k : Int) + 1 ≤ 6) = false := by simp; omega
                  have HA' := Lib.hid hA.low
                  clear hA
                  go_wp2_with fail
                  go_ret
                  exact ⟨rfl, HA'.out⟩
            · obtain ⟨f2, fnot⟩ := HA'.out.own.free hid hbit
              obtain ⟨hfit, hO2⟩ := HA'.out.own.took hid hbit st (by omega)
              have hp : okPg { k := 3, s := st } = true := by
                have := ok_root 3 (st - 1) (by omega) (by omega) (by omega) (by omega)
                rwa [show st - 1 + 1 = st from by omega] at this
              have HSe := Lib.hid (fun (W w' : World) (L' : Lay (OwnQ w fb) W w' b hb (S.put 1 (markPg m id true))) => setOk_lay L' id { k := 3, s := st } hp (by omega))
              have HO2 := Lib.hid hO2
              have HFt := Lib.hid hfit
              have t1 : decide ((n : Int) ≤ (id : Int)) = false := by simp; omega
              have t2 : decide ((id : Int) < 2) = false := by simp; omega
              have HNot := Lib.hid fnot
              have hdf : decide ((id : Int) ∈ F.map (·.1)) = false := by simp only [fnot, decide_false]
              obtain ⟨p1, p2, p3⟩ := HA'.out.call L6
              obtain ⟨v, hlk⟩ := lookup_own p3 (id : Int)
              rw [hdf] at hlk
              have K6 := Lib.hid L6
              clear L6 hO2 hfit hbit fnot hdf p1 p2 p3 hp
              go_wp2_with fail
              refine (HSe.out _ _ K6.out).mono ?_; rintro r w7 ⟨rfl, L7⟩
              have HLd := Lib.hid (land_lay L7 HFt.out 0)
              rw [after0] at HLd
              clear L7
              go_wp2_with fail
              refine HLd.out.mono ?_; rintro r w8 ⟨rfl, L8⟩
              obtain ⟨p1, p2, p3⟩ := HA'.out.call L8
              obtain ⟨o, u1, p4, p5, p6⟩ := own_write p1 p2 p3 HA'.out.new (id : Int) st HNot.out
              have K8 : Hid (OwnAt b hb fb n w (ChangeMaps.setBlock w8 fb o) _ _ _ (F ++ [((id : Int), st)])) := Lib.hid ⟨p4, p5, HO2.out, p6, HA'.out.new⟩
              clear L8 p1 p2 p3 p4 p5 p6
              go_wp2_with fail
              go_roundw
              case rel => exact ⟨t + 1, by omega, by go_num, _, _, _, _, K8.out⟩
              case measure => simp [intOf]; omega
        · have hA7 := hA
          have HF0 : Hid (∃ S d m F, OwnAt b hb fb n w _ S d m F) := Lib.hid ⟨_, _, _, _, hA7⟩
          clear hA hA7
          go_wp2_with fail
          go_loopw [26] (fun st wr => ∃ k : Nat, k ≤ 6 ∧ st = .int .i64 ((k : Int) + 1) ∧ ∃ S d m F, OwnAt b hb fb n w wr S d m F) (fun st _ => 7 - (intOf st).toNat)
          case atStart => exact ⟨0, by omega, rfl, HF0.out⟩
          case round =>
            clear HF0
            obtain ⟨k, hk, rfl, S, d, m, F, hA⟩ := hrel
            by_cases hk6 : k < 6
            · have HC := Lib.hid (forget_own hA.lay hA.own k hk6 _ rfl)
              have HA' := Lib.hid hA
              have ek : decide ((k : Int) + 1 ≤ 6) = true := by simp; omega
              clear hA
              go_wp2_with fail
              refine HC.out.mono ?_; rintro r w6 (⟨rfl, L6⟩ | ⟨rfl, L6⟩)
              · have HLd := Lib.hid (land_lay L6 HA'.out.own.fit 1)
                rw [HA'.out.own.same (e := 1) (by omega)] at HLd
                clear L6
                go_wp2_with fail
                refine HLd.out.mono ?_; rintro r w7 ⟨rfl, L7⟩
                obtain ⟨p1, p2, p3⟩ := HA'.out.call L7
                have K7 : Hid (OwnAt b hb fb n w w7 S d m F) := Lib.hid ⟨p1, p2, HA'.out.own, p3, HA'.out.new⟩
                clear L7 p1 p2 p3
                have HU := Lib.hid (used_lay K7.out.lay K7.out.own.vol)
                go_wp2_with fail
                refine HU.out.mono ?_; rintro r w9 ⟨v, rfl, L9, hb9, hown⟩
                obtain ⟨p1, p2, p3⟩ := K7.out.call L9
                have hlen := fun ty => run_len_int (P := Try.prog) Try.underlying43 fb _ w9 p3 ty
                rw [ownM, List.length_map, K7.out.own.len] at hlen
                have hpos := used_pos K7.out.own.vol
                have hUs := K7.out.own.used
                have K9 : Hid (OwnAt b hb fb n w w9 _ _ _ _) := Lib.hid ⟨p1, p2, K7.out.own, p3, K7.out.new⟩
                have hul := usedTo_len m n
                generalize usedTo m n = U at *
                obtain ⟨g, vc, hv⟩ := ownsRow_form hown hpos
                subst hv
                have HOw := Lib.hid hown
                have HUs := Lib.hid hUs
                clear L9 hb9 hown hUs p1 p2 p3 HU
                go_wp2_with fail
                go_loopw [207] (fun i wz => ∃ j : Nat, j ≤ U.length ∧ i = .int .i64 j ∧ wz = w9) (fun i _ => U.length - (intOf i).toNat)
                case atStart => exact ⟨0, by omega, rfl, by first | rfl | trivial⟩
                case round =>
                  obtain ⟨j, hj, rfl, rfl⟩ := hrel
                  by_cases hltj : j < U.length
                  · have hc := (HOw.out.cellAt j (by omega)).trans (idVals_get U j hltj)
                    obtain ⟨v9, hlk⟩ := lookup_own K9.out.map (U[j] : Int)
                    rw [decide_eq_true (HUs.out j hltj)] at hlk
                    generalize U[j] = y at *
                    go_wp2_with fail
                    go_roundw
                    case rel => exact ⟨j + 1, by omega, by go_num, by first | rfl | trivial⟩
                    case measure => simp [intOf]; omega
                  · have hje : j = U.length := by omega
                    subst hje
                    clear hlen
                    go_wp2_with fail
                    go_roundw
                    case rel => exact ⟨k + 1, by omega, by go_num, _, _, _, _, K9.out⟩
                    case measure => simp [intOf]; omega
              · have HLd := Lib.hid (land_lay L6 (forgot_fit HA'.out.own.vol HA'.out.own.fit h64 k hk6) 0)
                rw [after0] at HLd
                clear L6
                go_wp2_with fail
                refine HLd.out.mono ?_; rintro r w7 ⟨rfl, L7⟩
                obtain ⟨p1, p2, p3⟩ := HA'.out.call L7
                obtain ⟨oi, hrun, hRA⟩ := range_int (P := Try.prog) Try.underlying43 p3
                have hsz7 := p1.size
                have KR : Hid (RngAt b hb fb w7.heap.size w (w7.alloc oi) (S.forgot d m n k).landed F F ((k : Int) + 1) (fun j => j ∈ (ownM F).map (·.1)) (ownM F).length) :=
                  Lib.hid ⟨p1.alloc hsz7 _, p2.guard oi, hRA, HA'.out.own.keys, fun x => ⟨fun hx => ⟨hx, .inr (by rw [ownM_keys]; exact List.mem_map.2 ⟨x, hx, rfl⟩)⟩, fun hx => hx.1⟩, hsz7, HA'.out.new⟩
                clear L7 p1 p2 p3 hRA
                go_wp2_with fail
                generalize w7.heap.size = ri at *
                go_loopw [] (fun wq => ∃ F1 left cnt, RngAt b hb fb ri w wq (S.forgot d m n k).landed F F1 ((k : Int) + 1) left cnt) (fun wq => wq.rangeLeft fb ri)
                case atStart => exact ⟨_, _, _, KR.out⟩
                case round =>
                  clear KR hrun
                  obtain ⟨F1, left, cnt, hG⟩ := hrel
                  obtain ⟨wo, rfl⟩ : ∃ wo : World, wo = wr := ⟨_, rfl⟩
                  rcases hG.rng.next (P := Try.prog) with ⟨h0, hnone, hN⟩ | ⟨k1, v1, w2, cnt', hkv, hleft, hN, hR2, hlt2, hg2, hsz2, hent⟩
                  · have K7 : Hid (OwnAt b hb fb n w wo (S.forgot d m n k).landed (d.setC k 0 ByteArray.empty) (m.forgot S n k) F1) :=
                      Lib.hid ⟨hG.low, hG.lay.weaken fun q hq => .inl hq, HA'.out.own.forgot k hk6 hG.keys (fun x => by
                        rw [hG.same x]
                        exact ⟨fun h => ⟨h.1, h.2.resolve_right (hnone _)⟩, fun h => ⟨h.1, .inl h.2⟩⟩), hG.rng.map, hG.new⟩
                    clear hG hnone
                    have HU := Lib.hid (used_lay K7.out.lay K7.out.own.vol)
                    go_wp2_with fail
                    refine HU.out.mono ?_; rintro r w9 ⟨v, rfl, L9, hb9, hown⟩
                    obtain ⟨p1, p2, p3⟩ := K7.out.call L9
                    have hlen := fun ty => run_len_int (P := Try.prog) Try.underlying43 fb _ w9 p3 ty
                    rw [ownM, List.length_map, K7.out.own.len] at hlen
                    have hpos := used_pos K7.out.own.vol
                    have hUs := K7.out.own.used
                    have K9 : Hid (OwnAt b hb fb n w w9 _ _ _ _) := Lib.hid ⟨p1, p2, K7.out.own, p3, K7.out.new⟩
                    have hul := usedTo_len (m.forgot S n k) n
                    generalize usedTo (m.forgot S n k) n = U at *
                    obtain ⟨g, vc, hv⟩ := ownsRow_form hown hpos
                    subst hv
                    have HOw := Lib.hid hown
                    have HUs := Lib.hid hUs
                    clear L9 hb9 hown hUs p1 p2 p3 HU
                    go_wp2_with fail
                    go_loopw [207] (fun i wz => ∃ j : Nat, j ≤ U.length ∧ i = .int .i64 j ∧ wz = w9) (fun i _ => U.length - (intOf i).toNat)
                    case atStart => exact ⟨0, by omega, rfl, by first | rfl | trivial⟩
                    case round =>
                      obtain ⟨j, hj, rfl, rfl⟩ := hrel
                      by_cases hltj : j < U.length
                      · have hc := (HOw.out.cellAt j (by omega)).trans (idVals_get U j hltj)
                        obtain ⟨v9, hlk⟩ := lookup_own K9.out.map (U[j] : Int)
                        rw [decide_eq_true (HUs.out j hltj)] at hlk
                        generalize U[j] = y at *
                        go_wp2_with fail
                        go_roundw
                        case rel => exact ⟨j + 1, by omega, by go_num, by first | rfl | trivial⟩
                        case measure => simp [intOf]; omega
                      · have hje : j = U.length := by omega
                        subst hje
                        clear hlen
                        go_wp2_with fail
                        go_roundw
                        case rel => exact ⟨k + 1, by omega, by go_num, _, _, _, _, K9.out⟩
                        case measure => simp [intOf]; omega
                  · obtain ⟨c1, rfl, hcF⟩ := own_val hkv
                    obtain ⟨hyes, hno⟩ := own_round HA'.out.own.keys hG.same hcF
                    have hlow2 := hG.low.grown hg2 hG.low.size (fun q hq => by cases hq; exact hG.ri)
                    have hlay2 := hG.lay.poke (.inr rfl) hg2
                    have hle1 := hG.rng.left_eq
                    by_cases hc1 : c1 = (k : Int) + 1
                    · obtain ⟨o, cnt2, hdel, hR3, hle⟩ := hR2.drop (P := Try.prog) Try.underlying43 Try.underlying3 k1
                      rw [delI_own k1 hG.keys] at hR3
                      have gw : w2.grownBy (ChangeMaps.setBlock w2 fb o) (some fb) := grown_setBlock (grown_of_below (Below.refl _ w2) (some fb)) o
                      have KR : Hid (RngAt b hb fb ri w (ChangeMaps.setBlock w2 fb o) (S.forgot d m n k).landed F (F1.filter (fun x => decide (x.1 ≠ k1))) ((k : Int) + 1) _ cnt2) :=
                        Lib.hid ⟨hlow2.grown gw hlow2.size (fun q hq => by cases hq; exact hG.new), hlay2.poke (.inl (.inr rfl)) gw, hR3, (List.Pairwise.sublist ((List.filter_sublist).map _) hG.keys), hyes hc1, hG.ri, hG.new⟩
                      have hle3 := hR3.left_eq
                      subst hc1
                      clear hG hyes hno hlow2 hlay2 hR2 hR3 gw hcF hkv hleft
                      go_wp2_with fail
                      go_roundw
                      case rel => exact ⟨_, _, _, KR.out⟩
                      case measure => rw [hle3, hle1]; omega
                    · have KR : Hid (RngAt b hb fb ri w w2 (S.forgot d m n k).landed F F1 ((k : Int) + 1) _ cnt') := Lib.hid ⟨hlow2, hlay2, hR2, hG.keys, hno hc1, hG.ri, hG.new⟩
                      have hle3 := hR2.left_eq
                      have e1 : (c1 == (k : Int) + 1) = false := by simp [hc1]
                      clear hG hyes hno hlow2 hlay2 hR2 hcF hkv hleft hc1
                      go_wp2_with fail
                      go_roundw
                      case rel => exact ⟨_, _, _, KR.out⟩
                      case measure => rw [hle3, hle1]; omega
            · have ek : decide ((k : Int) + 1 ≤ 6) = false := by simp; omega
              have HA' := Lib.hid hA.low
              clear hA
              go_wp2_with fail
              go_ret
              exact ⟨rfl, HA'.out⟩
theorem owns_walk (n : Int) (vp : Option Addr) (len cap : Nat) (zs : List Int) (tp : Option Addr) (tl tc : Nat) (ts : List Int) (w : World) (hR : RowOk w vp len zs) (hT : RowOk w tp tl ts) :
    Calls Try.prog 5 #[.int .i64 n, .slice vp len cap, .slice tp tl tc] w fun e w' => e = .returned (.bool true) ∧ Below w.heap.size w w' := by
  by_cases h : n < 4 ∨ 64 < n
  · exact owns_bad n h _ _ w
  · obtain ⟨k, rfl⟩ := Int.eq_ofNat_of_zero_le (show 0 ≤ n by omega)
    exact owns_good k (by omega) (by omega) vp len cap zs tp tl tc ts w hR hT
end Go.Proofs.Ytmbeicijljlejaa
