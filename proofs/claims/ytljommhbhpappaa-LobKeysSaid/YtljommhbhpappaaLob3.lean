/-
  Layer 17 (lob): all bytes of an object, read off the tree.
-/
import Derived.Test.YtljommhbhpappaaLob2
namespace Go.Proofs.Ytljommhbhpappaa
open Go.RowKit Go.Joins
set_option linter.unusedVariables false
set_option linter.unusedSimpArgs false

/-- the pieces from one on, joined -/
def readF (F : List NC) (num : Int) : Nat → Nat → ByteArray → ByteArray
  | 0, _, acc => acc
  | f + 1, i, acc => match getL (key4 num i) F with
    | some v => readF F num f (i + 1) (acc ++ v)
    | none => acc
/-- what a call answers: bytes and an error's number -/
def bytesR (F : List NC) (num : Int) : ByteArray × Int :=
  if num < 0 ∨ 1000 ≤ num then (ByteArray.empty, 1) else match getL (key4 num 0) F with
    | some v => (readF F num 256 1 v, 0)
    | none => (ByteArray.empty, 150)
theorem key4_ok (n p : Int) : KeyOk (key4 n p) := ⟨fun e => by have := congrArg ByteArray.size e; rw [key4_size] at this; simp at this, by rw [key4_size]; omega⟩
theorem getL_size {st : Int} {S : Vol} {N : Nat} {T : Tr N} (h : TrAt S st N T) {key v : ByteArray} (hg : getL key (flat (Tr.leaves N T)) = some v) : v.size ≤ 20 := by
  unfold getL at hg
  cases hs : seekL key (flat (Tr.leaves N T)) with
  | none => rw [hs] at hg; cases hg
  | some c =>
    rw [hs] at hg
    simp only at hg
    split at hg
    · cases hg
      have hm : c ∈ flat (Tr.leaves N T) := List.mem_of_find?_eq_some hs
      obtain ⟨x, hx, hc⟩ := mem_flat.1 hm
      exact ((h.leafOk x hx).1.2.2.1 rfl c hc).2.2.2
    · cases hg

set_option maxHeartbeats 4000000 in
set_option maxRecDepth 100000 in
theorem lbytes_any {S : Vol} {st : Int} {N : Nat} {T : Tr N} (h : TrAt S st N T) (b mb hb pb : Nat) (kd : Int) (hkd : kd = 2 ∨ kd = 3)
    (hf : ∀ w', StageAt w' b mb hb pb S → Calls Try.prog 68 #[.pointer (some ⟨b, 0, none⟩), .int .i64 st] w' fun e w2 => e = .returned (.tuple #[.int .i64 kd, .int .i64 (Tr.id N T), .int .i64 1, .int .i64 0]) ∧ Below w'.heap.size w' w2)
    (num : Int) (w : World) (hs : StageAt w b mb hb pb S) :
    Calls Try.prog 60 #[.pointer (some ⟨b, 0, none⟩), .int .i64 st, .int .i64 num] w fun e w' => e = .returned (.tuple #[.string (bytesR (flat (Tr.leaves N T)) num).1, .int .i64 (bytesR (flat (Tr.leaves N T)) num).2]) ∧ Below w.heap.size w w' := by
  obtain ⟨R, hR⟩ : ∃ R, bytesR (flat (Tr.leaves N T)) num = R := ⟨_, rfl⟩
  rw [hR]
  unfold bytesR at hR
  by_cases hbad : num < 0 ∨ 1000 ≤ num
  · rw [if_pos hbad] at hR
    subst hR
    rcases hbad with h1 | h1
    · have h1i : decide (num < 0) = true := by simp [h1]
      clear hf
      go_enter Try.func60, Try.ntmps60
      go_wp2_with fail
      go_ret2
      exact ⟨rfl, Below.refl _ _⟩
    · have h1i : decide (num < 0) = false := by simp; omega
      have h2i : decide (1000 ≤ num) = true := by simp [h1]
      clear hf
      go_enter Try.func60, Try.ntmps60
      go_wp2_with fail
      go_ret2
      exact ⟨rfl, Below.refl _ _⟩
  · rw [if_neg hbad] at hR
    have h1i : decide (num < 0) = false := by simp; omega
    have h2i : decide (1000 ≤ num) = false := by simp; omega
    have HS := Lib.hid hs
    have hlt := hs.lt
    have HG := Lib.hid (fun (i : Nat) w' hs' => tget_any h b mb hb pb kd hkd hf (key4 num i) (key4_ok num i) w' hs')
    have HSz := Lib.hid (fun key v (hg : getL key (flat (Tr.leaves N T)) = some v) => getL_size h hg)
    have HK := Lib.hid (fun (i : Nat) w' => lkey_any num (i : Int) w')
    clear hf hs h
    generalize flat (Tr.leaves N T) = F at *
    go_enter Try.func60, Try.ntmps60
    go_wp2_with fail
    go_loopw [8, 9] (fun s v wr => ∃ (k : Nat) (acc : ByteArray), k ≤ 257 ∧ v = .int .i64 k ∧ s = .string acc ∧ acc.size ≤ 20 * k ∧ Below w.heap.size w wr ∧ ((k = 0 ∧ acc = ByteArray.empty) ∨ (0 < k ∧ R = (readF F num (257 - k) k acc, 0)))) (fun _ v _ => 257 - (intOf v).toNat)
    case atStart => exact ⟨0, ByteArray.empty, by omega, rfl, rfl, by simp, Below.refl _ _, .inl ⟨rfl, rfl⟩⟩
    case round =>
      obtain ⟨k, acc, hk, rfl, rfl, hacc, hbw, hst⟩ := hrel
      have hz := hbw.size
      have SR := Lib.hid (HS.out.below hbw hlt)
      have BW := Lib.hid hbw
      by_cases hk7 : k ≤ 256
      · have hki : decide ((k : Int) ≤ 256) = true := by simp; omega
        have HKk := Lib.hid (HK.out k)
        have HGk := Lib.hid (HG.out k)
        have hszk := HSz.out (key4 num k)
        cases hg : getL (key4 num k) F with
        | none =>
          rw [hg] at HGk
          unfold getV at HGk
          rcases hst with ⟨rfl, rfl⟩ | ⟨hk0, hRk⟩
          · rw [show ((0 : Nat) : Int) = 0 from rfl] at hg
            rw [hg] at hR
            simp only at hR
            generalize key4 num ((0 : Nat) : Int) = ky at *
            clear hg hszk hbw
            go_wp2_with fail
            refine (HKk.out _).mono ?_; rintro e w3 ⟨rfl, hb3⟩
            have S3 := Lib.hid (SR.out.below hb3 SR.out.lt)
            have B3 := Lib.hid (BW.out.trans (hb3.mono hz))
            clear hb3
            go_wp2_with fail
            refine (HGk.out _ S3.out).mono ?_; rintro e w4 ⟨rfl, hb4⟩
            have B4 := Lib.hid (B3.out.trans (hb4.mono B3.out.size))
            clear hb4
            go_wp2_with fail
            go_ret2
            exact ⟨by rw [← hR]; rfl, B4.out⟩
          · have hk0i : decide ((0 : Int) < (k : Int)) = true := by simp; omega
            have hR2 : R = (acc, 0) := by
              rw [hRk, show 257 - k = (256 - k) + 1 from by omega]
              simp only [readF, hg]
            generalize key4 num (k : Int) = ky at *
            clear hg hszk hbw hRk hR
            go_wp2_with fail
            refine (HKk.out _).mono ?_; rintro e w3 ⟨rfl, hb3⟩
            have S3 := Lib.hid (SR.out.below hb3 SR.out.lt)
            have B3 := Lib.hid (BW.out.trans (hb3.mono hz))
            clear hb3
            go_wp2_with fail
            refine (HGk.out _ S3.out).mono ?_; rintro e w4 ⟨rfl, hb4⟩
            have B4 := Lib.hid (B3.out.trans (hb4.mono B3.out.size))
            clear hb4
            go_wp2_with fail
            go_ret2
            exact ⟨by rw [hR2]; rfl, B4.out⟩
        | some v =>
          rw [hg] at HGk
          unfold getV at HGk
          have hvs := hszk v hg
          have hnew : R = (readF F num (257 - (k + 1)) (k + 1) (acc ++ v), 0) := by
            rcases hst with ⟨rfl, rfl⟩ | ⟨hk0, hRk⟩
            · rw [show ((0 : Nat) : Int) = 0 from rfl] at hg
              rw [hg] at hR
              rw [← hR]
              simp
            · rw [hRk, show 257 - k = (257 - (k + 1)) + 1 from by omega]
              simp only [readF, hg]
          have hsz2 : (acc ++ v).size = acc.size + v.size := ByteArray.size_append
          have hts : ¬ 9223372036854775807 < acc.size + v.size := by omega
          generalize key4 num (k : Int) = ky at *
          clear hg hszk hbw hst hR
          go_wp2_with fail
          refine (HKk.out _).mono ?_; rintro e w3 ⟨rfl, hb3⟩
          have S3 := Lib.hid (SR.out.below hb3 SR.out.lt)
          have B3 := Lib.hid (BW.out.trans (hb3.mono hz))
          clear hb3
          go_wp2_with fail
          refine (HGk.out _ S3.out).mono ?_; rintro e w4 ⟨rfl, hb4⟩
          have B4 := Lib.hid (B3.out.trans (hb4.mono B3.out.size))
          clear hb4
          go_wp2_with fail
          refine ⟨⟨k + 1, acc ++ v, by omega, by go_num, rfl, by rw [hsz2]; omega, B4.out, .inr ⟨by omega, hnew⟩⟩, ?_⟩
          simp [intOf]; omega
      · have hke : k = 257 := by omega
        subst hke
        have hR2 : R = (acc, 0) := by
          rcases hst with ⟨h0, -⟩ | ⟨-, hRk⟩
          · omega
          · rw [hRk]; rfl
        clear hst hbw hR
        go_wp2_with fail
        go_ret2
        exact ⟨by rw [hR2]; rfl, BW.out⟩
end Go.Proofs.Ytljommhbhpappaa
