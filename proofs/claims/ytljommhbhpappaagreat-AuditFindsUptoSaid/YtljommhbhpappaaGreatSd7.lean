/-
  Layer 22 (audit): the walk of AuditSound.
-/
import Derived.Test.YtljommhbhpappaaGreatSd6
namespace Go.Proofs.YtljommhbhpappaaGreat
open Go.RowKit Go.Joins
set_option linter.unusedVariables false
set_option linter.unusedSimpArgs false

set_option maxHeartbeats 1000000 in
theorem format_bad22 (b : Nat) (n : Int) (w : World) (h : n < 4 ∨ 1024 < n) :
    Calls Tryz.prog 18 #[.pointer (some ⟨b, 0, none⟩), .int .i64 n] w fun e w' => e = .returned (.int .i64 1) ∧ w = w' := by
  by_cases h1 : n < 4
  · clear h
    go_enter Tryz.func18, Tryz.ntmps18
    go_wp2_with fail
    go_ret
    exact ⟨rfl, rfl⟩
  · have h2 : 1024 < n := by omega
    clear h
    go_enter Tryz.func18, Tryz.ntmps18
    go_wp2_with fail
    go_ret
    exact ⟨rfl, rfl⟩

set_option maxHeartbeats 2000000 in
set_option maxRecDepth 100000 in
theorem new_nil22 (w : World) : Calls Tryz.prog 11 #[.iface 24 (.pointer none)] w fun e w' => (∃ b, e = .returned (.pointer (some ⟨b, 0, none⟩))) ∧ Below w.heap.size w w' := by
  have hmk := run_newMap w
  go_enter Tryz.func11, Tryz.ntmps11
  go_wp2_with fail
  go_ret
  exact ⟨⟨_, rfl⟩, ((Below.refl _ _).alloc (Nat.le_refl _) _).alloc (by simp) _⟩
set_option maxHeartbeats 4000000 in
set_option maxRecDepth 100000 in
theorem volume_bad (n : Int) (h : n < 4) (w : World) :
    Calls Tryz.prog 6 #[.int .i64 n] w fun e w' => e = .returned (.tuple #[.pointer none, .pointer none, .bool false]) ∧ Below w.heap.size w w' := by
  by_cases h1 : n < 1
  · have HM := Lib.hid (fun (w' : World) => memory_bad n (.inl h1) w')
    have HN := Lib.hid (fun (w' : World) => new_nil22 w')
    clear h h1
    go_enter Tryz.func6, Tryz.ntmps6
    go_wp2_with fail
    with_reducible refine (HM.out _).mono ?_; rintro e w1 ⟨rfl, rfl⟩
    go_wp2_with fail
    with_reducible refine (HN.out _).mono ?_; rintro e w2 ⟨⟨b, rfl⟩, hb2⟩
    have K2 := Lib.hid hb2
    clear hb2
    go_wp2_with fail
    first
      | exact ret_tmp3 rfl rfl ⟨rfl, K2.out⟩
      | (go_ret; exact ⟨rfl, K2.out⟩)
  · obtain ⟨k, rfl⟩ : ∃ k : Nat, n = (k : Int) := ⟨n.toNat, by omega⟩
    have HM := Lib.hid (fun (w' : World) => memory_ok k (by omega) (by omega) w')
    have HN := Lib.hid (fun hb pb w' hB h h1 h2 => new_lay hb pb (List.replicate k Pg.zero) w w' hB h h1 h2)
    have HFo := Lib.hid (fun b w' => format_bad22 b (k : Int) w' (.inl h))
    clear h h1
    go_enter Tryz.func6, Tryz.ntmps6
    go_wp2_with fail
    with_reducible refine (HM.out _).mono ?_; rintro e w1 ⟨hb, pb, rfl, hb1, q1, q2, hs1⟩
    have K1 := Lib.hid hb1
    have K2 := Lib.hid hs1
    clear hb1 hs1
    go_wp2_with fail
    with_reducible refine (HN.out hb pb _ K1.out K2.out q1 q2).mono ?_; rintro e w2 ⟨b, rfl, L2⟩
    have K3 := Lib.hid L2.low
    clear L2
    go_wp2_with fail
    with_reducible refine (HFo.out _ _).mono ?_; rintro e w3 ⟨rfl, rfl⟩
    go_wp2_with fail
    first
      | exact ret_tmp3 rfl rfl ⟨rfl, K3.out⟩
      | (go_ret; exact ⟨rfl, K3.out⟩)
theorem new_both {Q : Nat → Prop} {w0 w : World} {b hb : Nat} {S : Vol} (L : Lay Q w0 w b hb S) :
    Calls Tryz.prog 11 #[.iface 24 (.pointer (some ⟨hb, 0, none⟩))] w fun e w' => ∃ b2 mb2 pb2, e = .returned (.pointer (some ⟨b2, 0, none⟩)) ∧ Lay Q w0 w' b hb S ∧ StageAt w' b2 mb2 hb pb2 ⟨S.base, []⟩ := by
  obtain ⟨mb, pb, hs, h4⟩ := L.at'
  refine (new_any hb pb S.base w hs.2.2.1).mono ?_
  rintro e w' ⟨b2, mb2, he, hbl, -, -, hs2⟩
  exact ⟨b2, mb2, pb, he, L.step hbl, hs2⟩
theorem check_at {S : Vol} {d m : Pg} {n : Nat} {P : Nat → Part} (h : MVol S d m n P) {b mb hb pb : Nat} {w : World} (hs : StageAt w b mb hb pb S) :
    Calls Tryz.prog 10 #[.pointer (some ⟨b, 0, none⟩)] w fun e w' => e = .returned (.int .i64 0) ∧ Below w.heap.size w w' := by
  refine (auCheck_any h.au b mb hb pb w hs).mono ?_
  rintro e w' ⟨er, rfl, hb', h0, -⟩
  rw [h0.2 ⟨h.neg, h.chained, fun u hu => (h.used_mem u).1 hu, h.count⟩]
  exact ⟨rfl, hb'⟩
theorem V2_mvol (n : Nat) (h4 : 4 ≤ n) (hn : n ≤ 1024) : MVol (V2 n) dV2 (mV2 n) n (newParts [1, 2]) := by
  have h1 := V2_ok n h4 hn
  have h2 : NewVol (V2 n) dV2 (mV2 n) n [1, 2] (2 + [1, 2].length) := h1
  exact h2.mvol
set_option maxHeartbeats 16000000 in
set_option maxRecDepth 100000 in
theorem sound_walk (pages : Int) (vp : Option Addr) (len cap : Nat) (V : List Cl) (w : World) (hV : ClsIn w vp len V) (hkl : ∀ c ∈ V, c.kl ≤ 1048576) :
    Calls Tryz.prog 3 #[.int .i64 pages, .slice vp len cap] w fun e w' => e = .returned (.bool true) ∧ Below w.heap.size w w' := by
  have HA := Lib.hid (fun (w' : World) => awake22 w')
  have hlen := hV.1
  have hVl := hV.2.1
  have HVs := Lib.hid hV
  have HKl := Lib.hid hkl
  clear hV hkl
  by_cases h100 : (100 : Int) < pages
  · go_enter Tryz.func3, Tryz.ntmps3
    go_wp2_with fail
    with_reducible refine (HA.out _).mono ?_; rintro e w0 ⟨rfl, hb0⟩
    have K0 := Lib.hid hb0
    clear hb0
    go_wp2_with fail
    go_ret
    exact ⟨rfl, K0.out⟩
  have h100' : decide ((100 : Int) < pages) = false := by simpa using h100
  by_cases h200 : (200 : Int) < (len : Int)
  · go_enter Tryz.func3, Tryz.ntmps3
    go_wp2_with fail
    with_reducible refine (HA.out _).mono ?_; rintro e w0 ⟨rfl, hb0⟩
    have K0 := Lib.hid hb0
    clear hb0
    go_wp2_with fail
    go_ret
    exact ⟨rfl, K0.out⟩
  have h200' : decide ((200 : Int) < (len : Int)) = false := by simpa using h200
  by_cases h4 : pages < 4
  · have HVo := Lib.hid (fun (w' : World) => volume_bad pages h4 w')
    clear h100 h200 h4
    go_enter Tryz.func3, Tryz.ntmps3
    go_wp2_with fail
    with_reducible refine (HA.out _).mono ?_; rintro e w0 ⟨rfl, hb0⟩
    have K0 := Lib.hid hb0
    have hz0 := hb0.size
    clear hb0
    go_wp2_with fail
    with_reducible refine (HVo.out _).mono ?_; rintro e w1 ⟨rfl, hb1⟩
    have K1 := Lib.hid (K0.out.trans (hb1.mono hz0))
    clear hb1
    go_wp2_with fail
    go_ret
    exact ⟨rfl, K1.out⟩
  obtain ⟨n, rfl⟩ : ∃ n : Nat, pages = (n : Int) := ⟨pages.toNat, by omega⟩
  have hn4 : 4 ≤ n := by omega
  have hn1 : n ≤ 1024 := by omega
  have hl200 : len ≤ 200 := by omega
  have HVo := Lib.hid (fun (w' : World) => volume22 n hn4 hn1 w')
  have HD := Lib.hid (fun (Q : Nat → Prop) (wa w' : World) b hb (c : Cl) (hc : ClOk w' c) (hk : c.kl ≤ 1048576) (h : SyAt Q wa w' b hb n) => done22 c hc hk h)
  clear h100 h200 h4
  go_enter Tryz.func3, Tryz.ntmps3
  go_wp2_with fail
  with_reducible refine (HA.out _).mono ?_; rintro e w0 ⟨rfl, hb0⟩
  have K0 := Lib.hid hb0
  have hz0 := hb0.size
  clear hb0
  go_wp2_with fail
  with_reducible refine (HVo.out _).mono ?_; rintro e w1 ⟨b, hb, rfl, L1⟩
  have HIm := Lib.hid (images_lay L1 (V2_fit n hn4 hn1))
  clear L1
  go_wp2_with fail
  with_reducible refine HIm.out.mono ?_; rintro e w2 ⟨v, rfl, L2, -, ho2⟩
  have HAp := Lib.hid (apply_lay L2 (V2_fit n hn4 hn1) v _ ho2)
  clear L2 ho2
  go_wp2_with fail
  with_reducible refine HAp.out.mono ?_; rintro e w3 ⟨rfl, L3⟩
  have ST : Hid (SyAt (· < w0.heap.size) w0 w3 b hb n) := Lib.hid ⟨_, _, _, _, L3, Sy.applied (V2_mvol n hn4 hn1) (V2_fit n hn4 hn1)⟩
  clear L3
  go_wp2_with fail
  go_loopw [39] (fun v wr => ∃ i, i ≤ len ∧ v = .int .i64 i ∧ SyAt (· < w0.heap.size) w0 wr b hb n) (fun v _ => len - (intOf v).toNat)
  case atStart => exact ⟨0, by omega, rfl, ST.out⟩
  case round =>
    obtain ⟨i, hi, rfl, hsy⟩ := hrel
    have BL : Hid (Below w.heap.size w wr) := Lib.hid (by
      obtain ⟨S, d, m, P, L, -⟩ := hsy
      exact K0.out.trans (L.low.mono hz0))
    by_cases hlt : i < len
    · obtain ⟨rb, ro, hvp, hrb, hrow⟩ := (HVs.out.below BL.out).2.2.resolve_left (by omega)
      subst hvp
      obtain ⟨hrg, hok⟩ := hrow i (by omega)
      have hck : (V[i]'(by omega)).kl ≤ 1048576 := HKl.out _ (List.getElem_mem _)
      have hld := load_clIn hrg
      generalize V[i]'(by omega) = c at *
      have hsy1 : SyAt (· < w0.heap.size) w0 (wr.alloc (.cells c.cs 40)) b hb n := by
        obtain ⟨S, d, m, P, L, hy⟩ := hsy
        exact ⟨S, d, m, P, L.alloc _, hy⟩
      have hok1 := hok.below ((Below.refl wr.heap.size wr).alloc (Nat.le_refl _) (.cells c.cs 40))
      have HP := Lib.hid (HD.out _ _ _ _ _ c hok1 hck hsy1)
      have hlv := load_clVar (rowAt_at wr c.cs 40 _ rfl)
      clear hrow hrb hrg hok hsy hsy1 hok1
      go_wp2_with fail
      with_reducible refine HP.out.mono ?_; rintro e w4 ⟨rfl, hs4⟩
      obtain ⟨S, d, m, P, L4, hy4⟩ := hs4
      have HN := Lib.hid (new_both L4)
      have HY := Lib.hid hy4
      clear L4 hy4 hld hlv
      go_wp2_with fail
      with_reducible refine HN.out.mono ?_; rintro e w5 ⟨b2, mb2, pb2, rfl, L5, hs5⟩
      have HC := Lib.hid (check_at HY.out.shelf hs5)
      have K5 := Lib.hid L5
      clear L5 hs5
      go_wp2_with fail
      with_reducible refine HC.out.mono ?_; rintro e w6 ⟨rfl, hb6⟩
      have K6 := Lib.hid (K5.out.step hb6)
      clear hb6
      go_wp2_with fail
      go_roundw
      case rel => exact ⟨i + 1, by omega, by go_num, S, d, m, P, K6.out, HY.out⟩
      case measure => simp [intOf]; omega
    · have hie : i = len := by omega
      subst hie
      clear hsy
      go_wp2_with fail
      go_ret
      exact ⟨rfl, BL.out⟩
end Go.Proofs.YtljommhbhpappaaGreat
