/-
  Several texts in one: Fd1, Fd2.
-/
import Derived.Test.YtljommhbhpappaaGreatSd7
namespace Go.Proofs.YtljommhbhpappaaGreat
/-!
  Layer 22 (audit), plain law: a page that is marked, one that is given back, one with another store's number.
-/
section
open Go.RowKit Go.Joins
set_option linter.unusedVariables false
set_option linter.unusedSimpArgs false

theorem Part.Ok.au22 {S : Vol} {d : Pg} {k n : Nat} {p : Part} (h1 : p.Ok S d k) (h2 : ∀ id ∈ p.ids, 2 ≤ id ∧ id < (n : Int)) (h3 : p.ids.Nodup) (hn : n ≤ 1024) (x : Int) (hx : ¬ x ∈ p.ids) : p.Au S d k x := by
  cases p with
  | nil => exact h1
  | heap C =>
    obtain ⟨a1, ⟨r, a2, a3⟩, a4⟩ := h1
    have hr := h2 r (List.mem_of_getElem? a2)
    refine ⟨by omega, ⟨r, a2, a3, by omega, by omega⟩, a4.pos, h3, fun i hi _ => ?_, fun id hid => by have := h2 id hid; omega, fun hm => absurd hm hx⟩
    obtain ⟨b1, b2, b3, b4, -⟩ := a4.ok i hi
    exact ⟨a4.ses _ (List.getElem_mem hi), b1, b2, b3, b4⟩
  | tree kd N T =>
    obtain ⟨a1, a2, a3, a4, a5⟩ := h1
    exact ⟨by omega, a2, a3, a4.tin.au hx, a4.tin.good, a4.ord, a4.tin.low, h3, fun id hid => by have := h2 id hid; omega, fun e => absurd (e ▸ id_mem N T) hx, fun id hid => (a4.tin.ids id hid).1⟩
/-- the map is another one -/
theorem MVol.mapped {S : Vol} {d m : Pg} {n : Nat} {P : Nat → Part} (h : MVol S d m n P) (m' : Pg) (hv : VolOk (S.put 1 m') d m' n) : AuVol (S.put 1 m') d m' n P (-1) := by
  refine ⟨hv, fun k hk => ?_, fun k hk id hid => by have := h.own k hk id hid; omega, h.apart, by decide⟩
  refine Part.Ok.au22 ((h.part k hk).frame (fun id hid => ?_) rfl rfl) (h.own k hk) (h.nodup k hk) h.lt (-1) (fun hm => by have := h.own k hk _ hm; omega)
  have := h.own k hk id hid
  rw [stPg_put, stE_put, if_neg (by omega), if_neg (by omega)]
  exact ⟨rfl, rfl⟩
theorem usedTo_sorted (m : Pg) (n : Nat) : (usedTo m n).Pairwise (· < ·) := List.Pairwise.filter _ List.pairwise_lt_range
theorem used_ge2 (m : Pg) (n i : Nat) (hi : i < (usedTo m n).length) (h2 : 2 ≤ i) : 2 ≤ (usedTo m n)[i] := by
  have h := List.pairwise_iff_getElem.1 (usedTo_sorted m n)
  have h1 := h 0 1 (by omega) (by omega) (by omega)
  have h3 := h 1 i (by omega) hi (by omega)
  omega
theorem TrIn.auStore {S S' : Vol} {st x : Int} (hS : ∀ i, i ≠ x → stPg S' i = stPg S i ∧ stE S' i = stE S i) (hb : ¬ (stPg S' x).s = st) : ∀ {n : Nat} {t : Tr n}, TrIn S st n t → Tr.Au S' st x n t
  | 0, t, h => by
    show AuN S' st x 0 t.1 t.2
    unfold AuN
    by_cases e : t.1 = x
    · rw [if_pos e]; exact .inl hb
    · rw [if_neg e]
      obtain ⟨nx, -, hp⟩ := h.leaves (t.1, t.2) (List.mem_cons_self ..)
      exact ⟨(hS _ e).2.trans (h.ids _ (id_mem 0 t)).1, nx, (hS _ e).1.trans hp⟩
  | n + 1, t, h => by
    refine ⟨?_, fun y hy => (h.kid hy).auStore hS hb⟩
    unfold AuN
    by_cases e : t.1 = x
    · rw [if_pos e]; exact .inl hb
    · rw [if_neg e]
      exact ⟨(hS _ e).2.trans (h.ids _ (id_mem (n + 1) t)).1, 0, (hS _ e).1.trans h.inner.1⟩
/-- a page with another store's number -/
theorem MVol.astray {S : Vol} {d m : Pg} {n : Nat} {P : Nat → Part} (h : MVol S d m n P) {k : Nat} (hk : k < 6) {x : Int} (hx : x ∈ (P k).ids) (p : Pg) (hp : ¬ p.s = (k : Int) + 1) : AuVol (S.put x p) d m n P x ∧ x ∈ reach P := by
  have hn := h.lt
  have hown := h.own k hk _ hx
  have hS : ∀ i, i ≠ x → stPg (S.put x p) i = stPg S i ∧ stE (S.put x p) i = stE S i := fun i hi => by
    rw [stPg_put, stE_put, if_neg hi, if_neg hi]; exact ⟨rfl, rfl⟩
  have hbad : ¬ (stPg (S.put x p) x).s = (k : Int) + 1 := by rw [stPg_put, if_pos rfl]; exact hp
  refine ⟨⟨VolOk.put h.vol _ _ hown.1, fun j hj => ?_, fun j hj id hd => by have := h.own j hj id hd; omega, h.apart, by omega⟩, List.mem_cons_of_mem _ (List.mem_cons_of_mem _ (mem_firstN.2 ⟨k, hk, hx⟩))⟩
  by_cases e : j = k
  · subst e
    have h1 := h.part j hj
    have h2 := h.own j hj
    have h3 := h.nodup j hj
    cases hP : P j with
    | nil => rw [hP] at hx; cases hx
    | heap C =>
      rw [hP] at h1 h2 h3
      obtain ⟨a1, ⟨r, a2, a3⟩, a4⟩ := h1
      have hr := h2 r (List.mem_of_getElem? a2)
      refine ⟨by omega, ⟨r, a2, a3, by omega, by omega⟩, a4.pos, h3, fun i hi hne => ?_, fun id hid => by have := h2 id hid; omega, fun _ => hbad⟩
      obtain ⟨b1, b2, b3, b4, -⟩ := a4.ok i hi
      rw [(hS _ hne).1, (hS _ hne).2]
      exact ⟨a4.ses _ (List.getElem_mem hi), b1, b2, b3, b4⟩
    | tree kd N T =>
      rw [hP] at h1 h2 h3
      obtain ⟨a1, a2, a3, a4, a5⟩ := h1
      refine ⟨by omega, a2, a3, a4.tin.auStore hS hbad, a4.tin.good, a4.ord, a4.tin.low, h3, fun id hid => by have := h2 id hid; omega, fun _ => hbad, fun id hid => ?_⟩
      rw [stE_put]; split
      · rfl
      · exact (a4.tin.ids id hid).1
  · exact h.auOther hk hx p j hj e x (.inl rfl)
section
variable {Q : Nat → Prop} {w0 w : World} {b hb : Nat} {S : Vol} {d m : Pg} {n : Nat} {P : Nat → Part}
/-- a page more in the map -/
theorem marked_bad (h : MVol S d m n P) (id : Nat) (hid : id < n) (hf : bitAt m id = false) (L : Lay Q w0 w b hb (S.put 1 (markPg m id true))) :
    Calls Tryz.prog 10 #[.pointer (some ⟨b, 0, none⟩)] w fun e w' => ∃ er, er ≠ 0 ∧ e = .returned (.int .i64 er) ∧ Below w.heap.size w w' := by
  have h2 : 2 ≤ id := by
    by_cases e : 2 ≤ id
    · exact e
    · have := (h.bits id hid).2 (.inl (by omega))
      rw [hf] at this; cases this
  obtain ⟨mb, pb, hs, -⟩ := L.at'
  refine (auCheck_any (h.mapped _ (h.vol.mark id true h2 hid)) b mb hb pb w hs).mono ?_
  rintro e w' ⟨er, rfl, hb', h0, -⟩
  refine ⟨er, fun e0 => ?_, rfl, hb'⟩
  obtain ⟨-, -, q3, -⟩ := h0.1 e0
  have hin : id ∈ usedTo (markPg m id true) n := (usedTo_mem _ _ _).2 ⟨hid, by rw [bitAt_lt h.vol id id true hid hid, if_pos rfl]⟩
  have := (h.used_mem id).2 (q3 id hin)
  rw [usedTo_mem, hf] at this
  cases this.2
/-- a page less in the map -/
theorem given_bad (h : MVol S d m n P) (id : Nat) (h2 : 2 ≤ id) (hid : id < n) (hf : bitAt m id = true) (L : Lay Q w0 w b hb (S.put 1 (markPg m id false))) :
    Calls Tryz.prog 10 #[.pointer (some ⟨b, 0, none⟩)] w fun e w' => ∃ er, er ≠ 0 ∧ e = .returned (.int .i64 er) ∧ Below w.heap.size w w' := by
  obtain ⟨mb, pb, hs, -⟩ := L.at'
  refine (auCheck_any (h.mapped _ (h.vol.mark id false h2 hid)) b mb hb pb w hs).mono ?_
  rintro e w' ⟨er, rfl, hb', h0, -⟩
  refine ⟨er, fun e0 => ?_, rfl, hb'⟩
  obtain ⟨-, -, q3, q4⟩ := h0.1 e0
  have hno : ¬ id ∈ usedTo (markPg m id false) n := fun hm => by
    have := ((usedTo_mem _ _ _).1 hm).2
    rw [bitAt_lt h.vol id id false hid hid, if_pos rfl] at this; cases this
  have hnd : ((id : Int) :: (usedTo (markPg m id false) n).map fun i : Nat => (i : Int)).Nodup := List.nodup_cons.2 ⟨fun hm => by
    obtain ⟨u, hu, e⟩ := List.mem_map.1 hm
    have : u = id := by omega
    exact hno (this ▸ hu), cast_nodup (usedTo_nodup _ _)⟩
  have hl := sub_len22 _ (reach P) hnd (fun x hx => by
    rcases List.mem_cons.1 hx with rfl | hx
    · exact (h.used_mem id).1 ((usedTo_mem _ _ _).2 ⟨hid, hf⟩)
    · obtain ⟨u, hu, rfl⟩ := List.mem_map.1 hx
      exact q3 u hu)
  simp only [List.length_cons, List.length_map] at hl
  omega
theorem astray_bad (h : MVol S d m n P) {k : Nat} (hk : k < 6) {x : Int} (hx : x ∈ (P k).ids) (p : Pg) (hp : ¬ p.s = (k : Int) + 1) (L : Lay Q w0 w b hb (S.put x p)) :
    Calls Tryz.prog 10 #[.pointer (some ⟨b, 0, none⟩)] w fun e w' => ∃ er, er ≠ 0 ∧ e = .returned (.int .i64 er) ∧ Below w.heap.size w w' := by
  obtain ⟨h1, h2⟩ := h.astray hk hx p hp
  obtain ⟨mb, pb, hs, -⟩ := L.at'
  refine (auCheck_any h1 b mb hb pb w hs).mono ?_
  rintro e w' ⟨er, rfl, hb', h0, -⟩
  exact ⟨er, fun e0 => (h0.1 e0).1 h2, rfl, hb'⟩
end
theorem ok_store {p : Pg} (h : okPg p = true) (hs : 1 ≤ p.s ∧ p.s ≤ 6) : okPg { p with s := p.s + 1 } = true := by
  obtain ⟨h2, h3⟩ := okPg_to h
  refine okPg_of ?_ h3
  simp only [okH, Bool.and_eq_true, decide_eq_true_eq] at h2 ⊢
  exact ⟨⟨⟨⟨h2.1.1.1.1, by show 0 ≤ p.s + 1; omega⟩, by show p.s + 1 ≤ 65535; omega⟩, h2.1.2⟩, h2.2⟩
end

/-!
  Layer 22 (audit): the walk of AuditFinds.
-/
section
open Go.RowKit Go.Joins
set_option linter.unusedVariables false
set_option linter.unusedSimpArgs false

theorem TrIn.pok {S : Vol} {st : Int} (hst : 0 ≤ st ∧ st ≤ 65535) : ∀ {n : Nat} {t : Tr n}, TrIn S st n t → ∀ i ∈ Tr.ids n t, okPg (stPg S i) = true
  | 0, t, h, i, hi => by
    obtain rfl : i = t.1 := by simpa [Tr.ids] using hi
    obtain ⟨nx, hnx, hp⟩ := h.leaves (t.1, t.2) (List.mem_cons_self ..)
    rw [hp]
    exact nd_okPg (n := 0) h.good (by omega) hst hnx
  | n + 1, t, h, i, hi => by
    rcases List.mem_cons.1 hi with e | hi
    · rw [e, h.inner.1]
      exact nd_okPg h.good.1 h.low hst (by omega)
    · obtain ⟨x, hx, hm⟩ := List.mem_flatMap.1 hi
      exact (h.kid hx).pok hst i hm
theorem MVol.pok {S : Vol} {d m : Pg} {n : Nat} {P : Nat → Part} (h : MVol S d m n P) {k : Nat} (hk : k < 6) {i : Int} (hi : i ∈ (P k).ids) : okPg (stPg S i) = true := by
  have h1 := h.part k hk
  cases hp : P k with
  | nil => rw [hp] at hi; cases hi
  | heap C =>
    rw [hp] at h1 hi
    obtain ⟨j, hj, hje⟩ := List.mem_iff_getElem.1 hi
    have hje' : C[j] = i := hje
    have := (h1.2.2.ok j hj).2.2.2.2
    rw [hje'] at this
    exact this
  | tree kd N T => rw [hp] at h1 hi; exact h1.2.2.2.1.tin.pok (by omega) i hi
theorem idx22 (x : Int) (L : Nat) (h3 : 3 ≤ L) (h60 : L ≤ 60) : ((L : Int) - 2 == 0) = false ∧
    2 ≤ wrap64 (2 + (wrap64 (wrap64 (x.tmod ((L : Int) - 2) + (L : Int)) - 2)).tmod ((L : Int) - 2)) ∧ wrap64 (2 + (wrap64 (wrap64 (x.tmod ((L : Int) - 2) + (L : Int)) - 2)).tmod ((L : Int) - 2)) < (L : Int) := by
  obtain ⟨n, hn⟩ : ∃ n : Nat, L = n + 2 := ⟨L - 2, by omega⟩
  subst hn
  have w1 : (((n + 2 : Nat) : Int) - 2) = (n : Int) := by omega
  have hn' : (0 : Int) < (n : Int) := by omega
  have a1 := Int.tmod_lt_of_pos x hn'
  have a2 := Int.lt_tmod_of_pos x hn'
  rw [w1]
  have w2 : wrap64 (wrap64 (x.tmod (n : Int) + ((n + 2 : Nat) : Int)) - 2) = x.tmod n + n := by
    generalize x.tmod n = t at *
    unfold wrap64; omega
  rw [w2]
  have b1 := Int.tmod_nonneg (a := x.tmod n + n) (n : Int) (by omega)
  have b2 := Int.tmod_lt_of_pos (x.tmod n + n) hn'
  have w3 : wrap64 (2 + (x.tmod n + n).tmod n) = 2 + (x.tmod n + n).tmod n := by
    generalize (x.tmod n + n).tmod n = t at *
    unfold wrap64; omega
  rw [w3]
  refine ⟨?_, by omega, by omega⟩
  rw [beq_eq_false_iff_ne]
  omega
theorem tmod3 (x : Int) : (wrap64 (x.tmod 3 + 3)).tmod 3 = 0 ∨ (wrap64 (x.tmod 3 + 3)).tmod 3 = 1 ∨ (wrap64 (x.tmod 3 + 3)).tmod 3 = 2 := by
  have a1 := Int.tmod_lt_of_pos x (show (0 : Int) < 3 by omega)
  have a2 := Int.lt_tmod_of_pos x (show (0 : Int) < 3 by omega)
  have hw : wrap64 (x.tmod 3 + 3) = x.tmod 3 + 3 := by
    generalize x.tmod 3 = t at *
    unfold wrap64; omega
  rw [hw]
  have b1 := Int.tmod_nonneg (a := x.tmod 3 + 3) 3 (by omega)
  have b2 := Int.tmod_lt_of_pos (x.tmod 3 + 3) (show (0 : Int) < 3 by omega)
  omega
set_option maxHeartbeats 16000000 in
set_option maxRecDepth 100000 in
theorem finds_walk (vp : Option Addr) (len cap : Nat) (V : List Cl) (which kind : Int) (w : World) (hV : ClsIn w vp len V) (hkl : ∀ c ∈ V, c.kl ≤ 1048576) :
    Calls Tryz.prog 4 #[.slice vp len cap, .int .i64 which, .int .i64 kind] w fun e w' => e = .returned (.bool true) ∧ Below w.heap.size w w' := by
  have HA := Lib.hid (fun (w' : World) => awake22 w')
  have hlen := hV.1
  have hVl := hV.2.1
  have HVs := Lib.hid hV
  have HKl := Lib.hid hkl
  clear hV hkl
  by_cases h100 : (100 : Int) < (len : Int)
  · go_enter Tryz.func4, Tryz.ntmps4
    go_wp2_with fail
    with_reducible refine (HA.out _).mono ?_; rintro e w0 ⟨rfl, hb0⟩
    have K0 := Lib.hid hb0
    clear hb0
    go_wp2_with fail
    go_ret
    exact ⟨rfl, K0.out⟩
  have h100' : decide ((100 : Int) < (len : Int)) = false := by simpa using h100
  have hl100 : len ≤ 100 := by omega
  have HVo := Lib.hid (fun (w' : World) => volume22 60 (by omega) (by omega) w')
  rw [show ((60 : Nat) : Int) = 60 from rfl] at HVo
  have HD := Lib.hid (fun (Q : Nat → Prop) (wa w' : World) b hb (c : Cl) (hc : ClOk w' c) (hk : c.kl ≤ 1048576) (h : SyAt Q wa w' b hb 60) => done22 c hc hk h)
  clear h100
  go_enter Tryz.func4, Tryz.ntmps4
  go_wp2_with fail
  with_reducible refine (HA.out _).mono ?_; rintro e w0 ⟨rfl, hb0⟩
  have K0 := Lib.hid hb0
  have hz0 := hb0.size
  clear hb0
  go_wp2_with fail
  with_reducible refine (HVo.out _).mono ?_; rintro e w1 ⟨b, hb, rfl, L1⟩
  have HIm := Lib.hid (images_lay L1 (V2_fit 60 (by omega) (by omega)))
  clear L1
  go_wp2_with fail
  with_reducible refine HIm.out.mono ?_; rintro e w2 ⟨v, rfl, L2, -, ho2⟩
  have HAp := Lib.hid (apply_lay L2 (V2_fit 60 (by omega) (by omega)) v _ ho2)
  clear L2 ho2
  go_wp2_with fail
  with_reducible refine HAp.out.mono ?_; rintro e w3 ⟨rfl, L3⟩
  have ST : Hid (SyAt (· < w0.heap.size) w0 w3 b hb 60) := Lib.hid ⟨_, _, _, _, L3, Sy.applied (V2_mvol 60 (by omega) (by omega)) (V2_fit 60 (by omega) (by omega))⟩
  clear L3
  go_wp2_with fail
  go_loopw [44] (fun v wr => ∃ i, i ≤ len ∧ v = .int .i64 i ∧ SyAt (· < w0.heap.size) w0 wr b hb 60) (fun v _ => len - (intOf v).toNat)
  case atStart => exact ⟨0, by omega, rfl, ST.out⟩
  case round =>
    obtain ⟨i, hi, rfl, hsy⟩ := hrel
    have BL : Hid (Below w.heap.size w wr) := Lib.hid (by
      obtain ⟨S, d, m, P, L, -⟩ := hsy
      exact K0.out.trans (L.low.mono hz0))
    by_cases hlt : i < len
    · obtain ⟨rb, ro, hvp, hrb, hrow⟩ := (HVs.out.below BL.out).2.2.resolve_left (by omega)
      subst hvp
      obtain ⟨hrg, hok⟩ := hrow i (by omega)
      have hck : (V[i]'(by omega)).kl ≤ 1048576 := HKl.out _ (List.getElem_mem _)
      have hld := load_clIn hrg
      generalize V[i]'(by omega) = c at *
      have hsy1 : SyAt (· < w0.heap.size) w0 (wr.alloc (.cells c.cs 40)) b hb 60 := by
        obtain ⟨S, d, m, P, L, hy⟩ := hsy
        exact ⟨S, d, m, P, L.alloc _, hy⟩
      have hok1 := hok.below ((Below.refl wr.heap.size wr).alloc (Nat.le_refl _) (.cells c.cs 40))
      have HP := Lib.hid (HD.out _ _ _ _ _ c hok1 hck hsy1)
      have hlv := load_clVar (rowAt_at wr c.cs 40 _ rfl)
      clear hrow hrb hrg hok hsy hsy1 hok1
      go_wp2_with fail
      with_reducible refine HP.out.mono ?_; rintro e w4 ⟨rfl, hs4⟩
      obtain ⟨S, d, m, P, L4, hy4⟩ := hs4
      have HY := Lib.hid hy4
      have K6 := Lib.hid L4
      clear L4 hy4 hld hlv
      go_wp2_with fail
      go_roundw
      case rel => exact ⟨i + 1, by omega, by go_num, S, d, m, P, K6.out, HY.out⟩
      case measure => simp [intOf]; omega
    · have hie : i = len := by omega
      subst hie
      obtain ⟨S, d, m, P, L, hy⟩ := hsy
      obtain ⟨wo, rfl⟩ : ∃ wo : World, wo = wr := ⟨_, rfl⟩
      have HY := Lib.hid hy
      have HU := Lib.hid (used_lay L hy.mv.vol)
      rw [show ((60 : Nat) : Int) = 60 from rfl] at HU
      clear hy L
      go_wp2_with fail
      with_reducible refine HU.out.mono ?_; rintro e w4 ⟨uv, rfl, L4, -, hown⟩
      obtain ⟨ua, ucap, rfl, hua⟩ := own_form22 hown
      have K4 := Lib.hid L4
      have O4 := Lib.hid hown
      have HUa := Lib.hid hua
      have BF4 := Lib.hid (K0.out.trans (L4.low.mono hz0))
      have hul : (usedTo m 60).length ≤ 60 := by
        have h1 : (usedTo m 60).length ≤ (List.range 60).length := List.length_filter_le _ _
        simpa using h1
      have HMem : Hid (∀ (i : Nat) (hi : i < (usedTo m 60).length), 2 ≤ i → 2 ≤ (usedTo m 60)[i] ∧ (usedTo m 60)[i] < 60 ∧ bitAt m (usedTo m 60)[i] = true ∧ ∃ k, k < 6 ∧ (((usedTo m 60)[i] : Nat) : Int) ∈ (P k).ids) := Lib.hid fun i hi h2 => by
        have hm : (usedTo m 60)[i] ∈ usedTo m 60 := List.getElem_mem hi
        obtain ⟨m1, m2⟩ := (usedTo_mem _ _ _).1 hm
        have m3 := used_ge2 m 60 i hi h2
        refine ⟨m3, m1, m2, ?_⟩
        rcases (HY.out.mv.reach_mem _).1 ((HY.out.mv.used_mem _).1 hm) with e | e
        · omega
        · exact e
      have HFree : Hid ((usedTo m 60).length ≠ 60 → ∃ id, id < 60 ∧ bitAt m id = false ∧ ∀ j, j < id → bitAt m j = true) := Lib.hid fun hne => by
        have hex : ∃ j, j < 60 ∧ bitAt m j = false := by
          refine Classical.byContradiction fun hno => hne ?_
          have : usedTo m 60 = List.range 60 := List.filter_eq_self.2 fun j hj => by
            cases hq : bitAt m j with
            | true => rfl
            | false => exact absurd ⟨j, List.mem_range.1 hj, hq⟩ hno
          rw [this]; simp
        obtain ⟨j0, hj0, hb0⟩ := hex
        obtain ⟨id, h1, h2, h3⟩ := least (p := fun j => bitAt m j) j0 hb0
        exact ⟨id, by omega, h2, h3⟩
      clear L4 hown hua
      generalize usedTo m 60 = U at *
      by_cases h3 : (U.length : Int) < 3
      · have h3' : decide ((U.length : Int) < 3) = true := by simpa using h3
        clear h3
        go_wp2_with fail
        go_ret
        exact ⟨rfl, BF4.out⟩
      have h3' : decide ((U.length : Int) < 3) = false := by simpa using h3
      by_cases h60 : (U.length : Int) = 60
      · have h60' : ((U.length : Int) == 60) = true := by simpa using h60
        clear h60 h3
        go_wp2_with fail
        go_ret
        exact ⟨rfl, BF4.out⟩
      have h60' : ((U.length : Int) == 60) = false := by simpa using h60
      obtain ⟨G, rfl, -⟩ := HUa.out (by omega)
      obtain ⟨hnz, hj0, hj1⟩ := idx22 which U.length (by omega) hul
      obtain ⟨free, hfr1, hfr2, hfr3⟩ := HFree.out (by omega)
      obtain ⟨jx, hjx⟩ : ∃ jx : Int, wrap64 (2 + (wrap64 (wrap64 (which.tmod ((U.length : Int) - 2) + (U.length : Int)) - 2)).tmod ((U.length : Int) - 2)) = jx := ⟨_, rfl⟩
      have hj2 := hj0
      have hj3 := hj1
      rw [hjx] at hj2 hj3
      obtain ⟨jn, rfl⟩ : ∃ jn : Nat, jx = (jn : Int) := ⟨jx.toNat, by omega⟩
      have hj4 : 0 ≤ wrap64 (2 + (wrap64 (wrap64 (which.tmod ((U.length : Int) - 2) + (U.length : Int)) - 2)).tmod ((U.length : Int) - 2)) := by omega
      have hjl : jn < U.length := by omega
      obtain ⟨u, hu⟩ : ∃ u, U[jn] = u := ⟨_, rfl⟩
      have cj : w4.cell? ⟨G, (wrap64 (2 + (wrap64 (wrap64 (which.tmod ((U.length : Int) - 2) + (U.length : Int)) - 2)).tmod ((U.length : Int) - 2))).toNat, none⟩ = some (.int .i64 (u : Int)) := by
        rw [hjx, Int.toNat_natCast]
        exact own_cell22 O4.out jn _ (by simp [idVals, hjl, hu])
      obtain ⟨u2, un, ub, k, hk, hum⟩ := HMem.out jn hjl (by omega)
      rw [hu] at u2 un ub hum
      have hps := HY.out.mv.sof hk hum
      have hpok : okPg (stPg S (u : Int)) = true := HY.out.mv.pok hk hum
      obtain ⟨p, hp⟩ : ∃ p, stPg S (u : Int) = p := ⟨_, rfl⟩
      have hse := HY.out.mv.vol.there u un
      have HG := Lib.hid (get_lay K4.out (u : Int))
      rw [hp, hse] at HG
      rw [hp] at hps hpok
      have HMark := Lib.hid (fun W (LW : Lay (· < w0.heap.size) w0 W b hb S) => take_lay LW HY.out.mv.vol free hfr1 hfr2 hfr3)
      have HMarkB := Lib.hid (fun W (LW : Lay (· < w0.heap.size) w0 W b hb (S.put 1 (markPg m free true))) => marked_bad HY.out.mv free hfr1 hfr2 LW)
      have HGive := Lib.hid (fun W (LW : Lay (· < w0.heap.size) w0 W b hb S) => give_lay LW HY.out.mv.vol u u2 un ub)
      have HGiveB := Lib.hid (fun W (LW : Lay (· < w0.heap.size) w0 W b hb (S.put 1 (markPg m u false))) => given_bad HY.out.mv u u2 un ub LW)
      have hs6 : 1 ≤ p.s ∧ p.s ≤ 6 := by omega
      obtain ⟨q, hq⟩ : ∃ q : Pg, ({ p with s := p.s + 1 } : Pg) = q := ⟨_, rfl⟩
      have hqok : okPg q = true := by rw [← hq]; exact ok_store hpok hs6
      have hqs : ¬ q.s = (k : Int) + 1 := by rw [← hq]; show ¬ p.s + 1 = _; omega
      have o1 : okSet (u : Int) q = true := okSet_one hqok _ (by omega) (by omega)
      have HSet := Lib.hid (fun W (LW : Lay (· < w0.heap.size) w0 W b hb S) => set_lay LW (u : Int) q)
      have HSetB := Lib.hid (fun W (LW : Lay (· < w0.heap.size) w0 W b hb (S.put (u : Int) q)) => astray_bad HY.out.mv hk hum q hqs LW)
      have HO1 := Lib.hid o1
      have hr2 := tmod3 kind
      have ec : ∀ x : Int, wrap64 (p.s + 1) = p.s + 1 := fun _ => by unfold wrap64; omega
      have e2 : p.cs.setIfInBounds 2 (.int .i64 (p.s + 1)) = q.cs := by rw [← hq]; rfl
      have ew := ec 0
      clear hjx hj2 hj3 ec hu hps hpok hse hqok hqs o1 hq hfr1 hfr2 hfr3 hum hp h3 h60 u2 un ub
      go_wp2_with fail
      with_reducible refine HG.out.mono ?_; rintro e w6 ⟨rfl, L6, hb6⟩
      have R6 := rowAt_at w6 p.cs 38 _ rfl
      have K6 := Lib.hid (L6.alloc (.cells p.cs 38))
      have f2 := frozen_row R6 2
      have k2 := (cell_row R6 2).trans (show p.cs[2]? = some (.int .i64 p.s) from rfl)
      have K6q := Lib.hid (L6.alloc (.cells q.cs 38))
      clear L6 hb6
      rcases hr2 with c0 | c0 | c0
      · have HT := Lib.hid (HMark.out _ K6.out)
        clear f2 k2 R6
        go_wp2_with fail
        with_reducible refine HT.out.mono ?_; rintro e w7 ⟨rfl, L7⟩
        have HC := Lib.hid (HMarkB.out _ L7)
        have BF := Lib.hid (K0.out.trans (L7.low.mono hz0))
        have hz7 := BF.out.size
        clear L7
        go_wp2_with fail
        with_reducible refine HC.out.mono ?_; rintro e w8 ⟨er, her, rfl, hb8⟩
        have he1 : (er != 0) = true := by simpa using her
        have BF8 := Lib.hid (BF.out.trans (hb8.mono hz7))
        clear hb8
        go_wp2_with fail
        go_ret
        exact ⟨rfl, BF8.out⟩
      · have HT := Lib.hid (HGive.out _ K6.out)
        clear f2 k2 R6
        go_wp2_with fail
        with_reducible refine HT.out.mono ?_; rintro e w7 ⟨rfl, L7⟩
        have HC := Lib.hid (HGiveB.out _ L7)
        have BF := Lib.hid (K0.out.trans (L7.low.mono hz0))
        have hz7 := BF.out.size
        clear L7
        go_wp2_with fail
        with_reducible refine HC.out.mono ?_; rintro e w8 ⟨er, her, rfl, hb8⟩
        have he1 : (er != 0) = true := by simpa using her
        have BF8 := Lib.hid (BF.out.trans (hb8.mono hz7))
        clear hb8
        go_wp2_with fail
        go_ret
        exact ⟨rfl, BF8.out⟩
      · have hT : Calls Tryz.prog 16 #[.pointer (some ⟨b, 0, none⟩), .int .i64 (u : Int), q.v] (w6.alloc (.cells q.cs 38)) fun e w' => e = .returned (.int .i64 0) ∧ Hid (Lay (· < w0.heap.size) w0 w' b hb (S.put (u : Int) q)) := by
          have := HSet.out _ K6q.out
          rw [HO1.out] at this
          exact this.mono fun e w' ⟨h1, h2⟩ => ⟨h1, Lib.hid h2⟩
        have HT := Lib.hid hT
        clear hT
        generalize p.s = ps at *
        go_wp2_with fail
        with_reducible refine HT.out.mono ?_; rintro e w7 ⟨rfl, K7⟩
        have HC := Lib.hid (HSetB.out _ K7.out)
        have BF := Lib.hid (K0.out.trans (K7.out.low.mono hz0))
        have hz7 := BF.out.size
        go_wp2_with fail
        with_reducible refine HC.out.mono ?_; rintro e w8 ⟨er, her, rfl, hb8⟩
        have he1 : (er != 0) = true := by simpa using her
        have BF8 := Lib.hid (BF.out.trans (hb8.mono hz7))
        clear hb8
        go_wp2_with fail
        go_ret
        exact ⟨rfl, BF8.out⟩
end
end Go.Proofs.YtljommhbhpappaaGreat
