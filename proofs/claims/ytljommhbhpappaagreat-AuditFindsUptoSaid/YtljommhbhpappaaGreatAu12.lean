/-
  Layer 22 (audit): volume and awake.
-/
import Derived.Test.YtljommhbhpappaaGreatAu11
namespace Go.Proofs.YtljommhbhpappaaGreat
open Go.RowKit Go.Joins
set_option linter.unusedVariables false
set_option linter.unusedSimpArgs false

/-- a volume with a heap and an index, not landed yet -/
def V0 (n : Nat) : Vol := Vol.formed ⟨List.replicate n Pg.zero, []⟩ n
def V1 (n : Nat) : Vol := (V0 n).made { k := 1 } (newMap n) 0 2 1
def dV1 : Pg := ({ k := 1 } : Pg).setC 0 1 (entryD 1 2)
def mV1 (n : Nat) : Pg := markPg (newMap n) 2 true
def V2 (n : Nat) : Vol := (V1 n).made dV1 (mV1 n) 1 3 2
def dV2 : Pg := dV1.setC 1 1 (entryD 2 3)
def mV2 (n : Nat) : Pg := markPg (mV1 n) 3 true
theorem V0_ok (n : Nat) (h4 : 4 ≤ n) (hn : n ≤ 1024) : NewVol (V0 n) { k := 1 } (newMap n) n [] 2 := NewVol.formed _ _ n h4 hn (by simp)
theorem V1_ok (n : Nat) (h4 : 4 ≤ n) (hn : n ≤ 1024) : NewVol (V1 n) dV1 (mV1 n) n [1] 3 := (V0_ok n h4 hn).make (by simp) (by simp; omega) 1 (.inl rfl)
theorem V2_ok (n : Nat) (h4 : 4 ≤ n) (hn : n ≤ 1024) : NewVol (V2 n) dV2 (mV2 n) n [1, 2] 4 := (V1_ok n h4 hn).make (by simp) (by simp; omega) 2 (.inr (.inl rfl))
theorem V2_fit (n : Nat) (h4 : 4 ≤ n) (hn : n ≤ 1024) : (V2 n).Fit n := by
  have h0 : Vol.Fit ⟨List.replicate n Pg.zero, []⟩ n := by
    have := Vol.Fit.nil (List.replicate n Pg.zero) (by simpa using hn)
    simpa using this
  have f0 : (V0 n).Fit n := formed_fit h0 h4 (Nat.le_refl _)
  have f1 : (V1 n).Fit n := made_fit (V0_ok n h4 hn).vol f0 (Nat.le_refl _) 0 2 1 (by omega) (by omega) (by omega)
  exact made_fit (V1_ok n h4 hn).vol f1 (Nat.le_refl _) 1 3 2 (by omega) (by omega) (by omega)

set_option maxHeartbeats 4000000 in
set_option maxRecDepth 100000 in
theorem volume22 (n : Nat) (h4 : 4 ≤ n) (hn : n ≤ 1024) (w : World) :
    Calls Tryz.prog 6 #[.int .i64 n] w fun e w' => ∃ b hb, e = .returned (.tuple #[.pointer (some ⟨hb, 0, none⟩), .pointer (some ⟨b, 0, none⟩), .bool true]) ∧ Lay (· < w.heap.size) w w' b hb (V2 n) := by
  have HM := Lib.hid (fun (w' : World) => memory_ok n (by omega) hn w')
  have HN := Lib.hid (fun hb pb w' hB h h1 h2 => new_lay hb pb (List.replicate n Pg.zero) w w' hB h h1 h2)
  have HFo := Lib.hid (fun w' b hb (L : Lay (· < w.heap.size) w w' b hb ⟨List.replicate n Pg.zero, []⟩) => format_lay L n h4 hn)
  have v0 := V0_ok n h4 hn
  have v1 := V1_ok n h4 hn
  have HM1 := Lib.hid (fun w' b hb (L : Lay (· < w.heap.size) w w' b hb (V0 n)) => make_lay L v0.vol 0 (by omega) rfl (by omega) 2 (by omega) (by rw [v0.bits 2 (by omega)]; rfl) (fun j hj => by rw [v0.bits j (by omega)]; simpa using hj) 1 (.inl rfl) 1 rfl)
  have hd1 : ∀ j, j < 1 → dV1.a j ≠ 0 := fun j hj => by
    obtain rfl : j = 0 := by omega
    rw [(v1.dir 0 (by simp)).1]; decide
  have HM2 := Lib.hid (fun w' b hb (L : Lay (· < w.heap.size) w w' b hb (V1 n)) => make_lay L v1.vol 1 (by omega) (v1.free 1 (by simp) (by omega)) hd1 3 (by omega) (by rw [v1.bits 3 (by omega)]; rfl) (fun j hj => by rw [v1.bits j (by omega)]; simpa using hj) 2 (.inr (.inl rfl)) 2 rfl)
  clear v0 v1 hd1
  go_enter Tryz.func6, Tryz.ntmps6
  go_wp2_with fail
  with_reducible refine (HM.out _).mono ?_; rintro e w1 ⟨hb, pb, rfl, hb1, q1, q2, hs1⟩
  have K1 := Lib.hid hb1
  have K2 := Lib.hid hs1
  clear hb1 hs1
  go_wp2_with fail
  with_reducible refine (HN.out hb pb _ K1.out K2.out q1 q2).mono ?_; rintro e w2 ⟨b, rfl, L2⟩
  have K3 := Lib.hid L2
  clear L2
  go_wp2_with fail
  with_reducible refine (HFo.out _ _ _ K3.out).mono ?_; rintro e w3 ⟨rfl, L3⟩
  have K4 : Hid (Lay (· < w.heap.size) w w3 b hb (V0 n)) := Lib.hid L3
  clear L3
  go_wp2_with fail
  with_reducible refine (HM1.out _ _ _ K4.out).mono ?_; rintro e w4 ⟨rfl, L4⟩
  have K5 : Hid (Lay (· < w.heap.size) w w4 b hb (V1 n)) := Lib.hid L4
  clear L4
  go_wp2_with fail
  with_reducible refine (HM2.out _ _ _ K5.out).mono ?_; rintro e w5 ⟨rfl, L5⟩
  have K6 : Hid (Lay (· < w.heap.size) w w5 b hb (V2 n)) := Lib.hid L5
  clear L5
  go_wp2_with fail
  first
    | exact ret_tmp3 rfl rfl ⟨b, hb, rfl, K6.out⟩
    | (go_ret; exact ⟨b, hb, rfl, K6.out⟩)

set_option maxHeartbeats 4000000 in
set_option maxRecDepth 100000 in
theorem awake22 (w : World) :
    Calls Tryz.prog 5 #[] w fun e w' => e = .returned (.bool true) ∧ Below w.heap.size w w' := by
  have HV := Lib.hid (fun (w' : World) => volume22 16 (by omega) (by omega) w')
  rw [show ((16 : Nat) : Int) = 16 from rfl] at HV
  have v2 := V2_ok 16 (by omega) (by omega)
  have HC := Lib.hid (fun (w' : World) b hb (L : Lay (· < w.heap.size) w w' b hb (V2 16)) => newCheck v2 L)
  have HT := Lib.hid (fun (w' : World) b hb (L : Lay (· < w.heap.size) w w' b hb (V2 16)) => take_lay L v2.vol 4 (by omega) (by rw [v2.bits 4 (by omega)]; rfl) (fun j hj => by rw [v2.bits j (by omega)]; simpa using hj))
  have v3 := v2.take (by omega)
  have HC2 := Lib.hid (fun (w' : World) b hb (L : Lay (· < w.heap.size) w w' b hb ((V2 16).put 1 (markPg (mV2 16) 4 true))) => newCheck v3 L)
  have HNil := Lib.hid (fun (w' : World) => auCheck_bad (.pointer none) w' (nomap_nil w'))
  clear v2 v3
  go_enter Tryz.func5, Tryz.ntmps5
  go_wp2_with fail
  with_reducible refine (HV.out _).mono ?_; rintro e w1 ⟨b, hb, rfl, L1⟩
  have K1 := Lib.hid L1
  clear L1
  go_wp2_with fail
  with_reducible refine (HC.out _ _ _ K1.out).mono ?_; rintro e w2 ⟨rfl, L2⟩
  have K2 := Lib.hid L2
  clear L2
  go_wp2_with fail
  with_reducible refine (HT.out _ _ _ K2.out).mono ?_; rintro e w3 ⟨rfl, L3⟩
  have K3 := Lib.hid L3
  clear L3
  go_wp2_with fail
  with_reducible refine (HC2.out _ _ _ K3.out).mono ?_; rintro e w4 ⟨rfl, L4⟩
  have K4 := Lib.hid L4
  clear L4
  go_wp2_with fail
  with_reducible refine (HNil.out _).mono ?_; rintro e w5 ⟨er, her, rfl, hb5⟩
  have he1 : (er != 0) = true := by simpa using her
  have K5 := Lib.hid (K4.out.low.trans (hb5.mono K4.out.low.size))
  clear hb5
  go_wp2_with fail
  go_ret
  exact ⟨rfl, K5.out⟩
end Go.Proofs.YtljommhbhpappaaGreat
