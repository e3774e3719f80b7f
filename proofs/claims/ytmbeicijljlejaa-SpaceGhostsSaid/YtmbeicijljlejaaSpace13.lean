/-
  Layer 14 (space): contracts in the form that the laws use: a stage in new memory (Lay); what is refused.
-/
import Derived.Test.YtmbeicijljlejaaSpace12
namespace Go.Proofs.Ytmbeicijljlejaa
open Go.RowKit Go.Joins
set_option linter.unusedVariables false
set_option linter.unusedSimpArgs false

/-- a stage in memory from block B on; below B the world is as it was at w0 -/
structure Lay (B : Nat) (w0 w : World) (b : Nat) (S : Vol) : Prop where
  low : Below B w0 w
  sz : B ≤ w.heap.size
  at' : ∃ mb hb pb, StageAt w b mb hb pb S ∧ B ≤ b ∧ B ≤ mb ∧ B ≤ hb ∧ B ≤ pb

theorem Lay.step {B : Nat} {w0 w w' : World} {b : Nat} {S : Vol} (h : Lay B w0 w b S) (hb : Below w.heap.size w w') : Lay B w0 w' b S := by
  obtain ⟨h1, h2, mb, hb', pb, h3, h4⟩ := h
  exact ⟨h1.trans (hb.mono h2), Nat.le_trans h2 hb.size, mb, hb', pb, h3.below hb h3.lt, h4⟩
theorem Lay.alloc {B : Nat} {w0 w : World} {b : Nat} {S : Vol} (h : Lay B w0 w b S) (o : Obj) : Lay B w0 (w.alloc o) b S := h.step ((Below.refl _ _).alloc (Nat.le_refl _) _)
theorem Lay.write {B : Nat} {w0 w w' : World} {b mb hb pb : Nat} {S' : Vol} (h1 : Below B w0 w) (h2 : B ≤ w.heap.size) (h4 : B ≤ b ∧ B ≤ mb ∧ B ≤ hb ∧ B ≤ pb) (hg : w.grownBy w' (some mb)) (hs : StageAt w' b mb hb pb S') : Lay B w0 w' b S' :=
  ⟨h1.grown hg h2 (fun k hk => by cases hk; exact h4.2.1), Nat.le_trans h2 hg.size, mb, hb, pb, hs, h4⟩

theorem five_of (kd r : Int) (h0 : 0 ≤ kd) (h1 : kd < 256) (h2 : 0 ≤ r) (h3 : r < 4294967296) : ∃ b0 b1 b2 b3 b4 : UInt8, entryD kd r = five b0 b1 b2 b3 b4 ∧ ((b0.toNat : Nat) : Int) = kd ∧ ((b1.toNat + 256 * b2.toNat + 65536 * b3.toNat + 16777216 * b4.toNat : Nat) : Int) = r := by
  refine ⟨UInt8.ofNat kd.toNat, UInt8.ofNat (r % 256).toNat, UInt8.ofNat (r / 256 % 256).toNat, UInt8.ofNat (r / 65536 % 256).toNat, UInt8.ofNat (r / 16777216).toNat, ?_, ?_, ?_⟩
  · unfold entryD le1 le4 five
    rfl
  · simp only [UInt8.toNat_ofNat']
    omega
  · simp only [UInt8.toNat_ofNat']
    omega

theorem find_lay {B : Nat} {w0 w : World} {b : Nat} {S : Vol} {d m : Pg} {n : Nat} (L : Lay B w0 w b S) (h : VolOk S d m n) (k : Nat) (hk : k < 6) (ha : d.a k ≠ 0) (kd r : Int) (h0 : 0 ≤ kd) (h1 : kd < 256) (h2 : 0 ≤ r) (h3 : r < 4294967296) (h5 : d.d k = entryD kd r) (st : Int) (hst : st = (k : Int) + 1) (a : Int) (hda : d.a k = a) :
    Calls Try.prog 12 #[.pointer (some ⟨b, 0, none⟩), .int .i64 st] w fun e w' => e = .returned (.tuple #[.int .i64 kd, .int .i64 r, .int .i64 a, .int .i64 0]) ∧ Lay B w0 w' b S := by
  obtain ⟨mb, hb, pb, hs, h4⟩ := L.at'
  obtain ⟨b0, b1, b2, b3, b4, e1, e2, e3⟩ := five_of kd r h0 h1 h2 h3
  have hc := find_ok S b mb hb pb d w hs h.dir k hk ha b0 b1 b2 b3 b4 (h5.trans e1)
  rw [e2, e3, hda] at hc
  subst hst
  exact hc.mono fun e w' ⟨he, hb⟩ => ⟨he, L.step hb⟩

theorem state_lay {B : Nat} {w0 w : World} {b : Nat} {S : Vol} {d m : Pg} {n : Nat} (L : Lay B w0 w b S) (h : VolOk S d m n) (k : Nat) (hk : k < 6) (ha : d.a k ≠ 0) (hd : 0 < (d.d k).size) (st : Int) (hst : st = (k : Int) + 1) (x : Int) (hx : x = 1 ∨ x = 2) :
    Calls Try.prog 13 #[.pointer (some ⟨b, 0, none⟩), .int .i64 st, .int .i64 x] w fun e w' => e = .returned (.int .i64 0) ∧ Lay B w0 w' b (S.put 0 (d.setA k x)) := by
  obtain ⟨mb, hb, pb, hs, h4⟩ := L.at'
  subst hst
  exact (state_ok S b mb hb pb d w hs h.dir k hk ha x hx (h.setA k x hk hx hd).1).mono fun e w' ⟨he, hg, hs'⟩ => ⟨he, Lay.write L.low L.sz h4 hg hs'⟩

theorem make_lay {B : Nat} {w0 w : World} {b : Nat} {S : Vol} {d m : Pg} {n : Nat} (L : Lay B w0 w b S) (h : VolOk S d m n) (k : Nat) (hk : k < 6) (ha : d.a k = 0) (hbef : ∀ j, j < k → d.a j ≠ 0)
    (id : Nat) (hid : id < n) (hf : bitAt m id = false) (hbelow : ∀ j, j < id → bitAt m j = true) (kind : Int) (hkind : kind = 1 ∨ kind = 2 ∨ kind = 3) (st : Int) (hst : st = (k : Int) + 1) :
    Calls Try.prog 11 #[.pointer (some ⟨b, 0, none⟩), .int .i64 kind] w fun e w' => e = .returned (.tuple #[.int .i64 st, .int .i64 0]) ∧ Lay B w0 w' b (S.made d m k id kind) := by
  obtain ⟨mb, hb, pb, hs, h4⟩ := L.at'
  subst hst
  have h2 : 2 ≤ id := by
    by_cases e0 : id = 0
    · subst e0; rw [h.z0] at hf; cases hf
    by_cases e1 : id = 1
    · subst e1; rw [h.z1] at hf; cases hf
    omega
  have hok := ok_setC h.dok k hk 1 (entryD kind id) (okC_full (.inl rfl) (by rw [entry_size]; omega) (by rw [entry_size]; omega))
  rcases hkind with rfl | hkind
  · exact (make_heap S b mb hb pb d m n w hs h.dir h.map k hk ha hbef id hid hf hbelow hok).mono fun e w' ⟨he, hg, hs'⟩ => ⟨he, Lay.write L.low L.sz h4 hg (by unfold Vol.made; rw [if_pos rfl]; exact hs')⟩
  · exact (make_ok S b mb hb pb d m n w hs h.dir h.map k hk ha hbef id hid hf hbelow kind hkind hok).mono fun e w' ⟨he, hg, hs'⟩ => ⟨he, Lay.write L.low L.sz h4 hg (by unfold Vol.made; rw [if_neg (by omega)]; exact hs')⟩

theorem forget_lay {B : Nat} {w0 w : World} {b : Nat} {S : Vol} {d m : Pg} {n : Nat} (L : Lay B w0 w b S) (h : VolOk S d m n) (k : Nat) (hk : k < 6) (ha : d.a k ≠ 0) (st : Int) (hst : st = (k : Int) + 1) :
    Calls Try.prog 14 #[.pointer (some ⟨b, 0, none⟩), .int .i64 st] w fun e w' => e = .returned (.int .i64 0) ∧ Lay B w0 w' b (S.forgot d m n k) := by
  obtain ⟨mb, hb, pb, hs, h4⟩ := L.at'
  subst hst
  exact (forget_walk S b mb hb pb d m n w hs h k hk ha).mono fun e w' ⟨he, hg, hs'⟩ => ⟨he, Lay.write L.low L.sz h4 hg hs'⟩

theorem format_lay {B : Nat} {w0 w : World} {b : Nat} {S : Vol} (L : Lay B w0 w b S) (n : Nat) (h4 : 4 ≤ n) (hn : n ≤ 1024) :
    Calls Try.prog 10 #[.pointer (some ⟨b, 0, none⟩), .int .i64 n] w fun e w' => e = .returned (.int .i64 0) ∧ Lay B w0 w' b (S.formed n) := by
  obtain ⟨mb, hb, pb, hs, hB⟩ := L.at'
  exact (format_ok S b mb hb pb w hs n h4 hn).mono fun e w' ⟨he, hg, hs'⟩ => ⟨he, Lay.write L.low L.sz hB hg hs'⟩

set_option maxHeartbeats 1000000 in
theorem make_bad (p : Value) (kind : Int) (w : World) (h : kind < 1 ∨ 3 < kind) :
    Calls Try.prog 11 #[p, .int .i64 kind] w fun e w' => e = .returned (.tuple #[.int .i64 0, .int .i64 1]) ∧ w = w' := by
  by_cases h1 : kind < 1
  · clear h
    go_enter Try.func11, Try.ntmps11
    go_wp2_with fail
    go_ret2
    exact ⟨rfl, rfl⟩
  · have h2 : 3 < kind := by omega
    clear h
    go_enter Try.func11, Try.ntmps11
    go_wp2_with fail
    go_ret2
    exact ⟨rfl, rfl⟩
set_option maxHeartbeats 1000000 in
theorem format_nil (n : Int) (w : World) :
    Calls Try.prog 10 #[.pointer none, .int .i64 n] w fun e w' => e = .returned (.int .i64 1) ∧ w = w' := by
  go_enter Try.func10, Try.ntmps10
  go_wp2_with fail
  go_ret
  exact ⟨rfl, rfl⟩

/-- stage.New over stage.Memory's shelf -/
theorem new_lay (hb pb : Nat) (l : List Pg) (w0 w : World) (hB : Below w0.heap.size w0 w) (h : ShelfAt w hb pb l) (h1 : w0.heap.size ≤ hb) (h2 : w0.heap.size ≤ pb) :
    Calls Try.prog 9 #[.iface 23 (.pointer (some ⟨hb, 0, none⟩))] w fun e w' => ∃ b, e = .returned (.pointer (some ⟨b, 0, none⟩)) ∧ Lay w0.heap.size w0 w' b ⟨l, []⟩ :=
  (new_any hb pb l w h).mono fun e w' ⟨b, mb, he, hb', h3, h4, hs⟩ => by
    have := hB.size
    exact ⟨b, he, hB.trans (hb'.mono hB.size), Nat.le_trans hB.size hb'.size, mb, hb, pb, hs, by omega, by omega, h1, h2⟩
end Go.Proofs.Ytmbeicijljlejaa
