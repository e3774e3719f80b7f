/-
  Layer 14 (space): contracts in the form that the laws use: a stage in new memory (Lay); what is refused.
-/
import Derived.Test.YtljommhbhpappaaSpace12
namespace Go.Proofs.Ytljommhbhpappaa
open Go.RowKit Go.Joins
set_option linter.unusedVariables false
set_option linter.unusedSimpArgs false

/-- the blocks of a class are as they were, and so are the streams -/
structure Keep (P : Nat → Prop) (w w' : World) : Prop where
  os : w'.os = w.os
  tape : w'.tape = w.tape
  output : w'.output = w.output
  size : w.heap.size ≤ w'.heap.size
  block : ∀ k, P k → w'.heap[k]? = w.heap[k]?
theorem Keep.refl (P : Nat → Prop) (w : World) : Keep P w w := ⟨rfl, rfl, rfl, Nat.le_refl _, fun _ _ => rfl⟩
theorem Keep.trans {P : Nat → Prop} {w w' w2 : World} (h : Keep P w w') (k : Keep P w' w2) : Keep P w w2 :=
  ⟨k.os.trans h.os, k.tape.trans h.tape, k.output.trans h.output, Nat.le_trans h.size k.size, fun i hi => (k.block i hi).trans (h.block i hi)⟩
theorem Keep.below {P : Nat → Prop} {w w' : World} (h : Keep P w w') {B : Nat} (hP : ∀ k, k < B → P k) : Below B w w' := ⟨h.os, h.tape, h.output, h.size, fun k hk => h.block k (hP k hk)⟩
theorem Keep.of_below {P : Nat → Prop} {w w' : World} {B : Nat} (h : Below B w w') (hP : ∀ k, P k → k < B) : Keep P w w' := ⟨h.os, h.tape, h.output, h.size, fun k hk => h.block k (hP k hk)⟩
theorem Keep.intMap {P : Nat → Prop} {w w' : World} (h : Keep P w w') {b : Nat} {M : List (Int × Value)} (hm : IntMap w b M) (hb : P b) : IntMap w' b M := by
  obtain ⟨es, c, h1, h2⟩ := hm
  exact ⟨es, c, (h.block b hb).trans h1, h2⟩

/-- a stage in memory, none of its blocks of class P; the blocks of class P are as they were at w0 -/
structure Lay (P : Nat → Prop) (w0 w : World) (b hb : Nat) (S : Vol) : Prop where
  keep : Keep P w0 w
  dom : ∀ k, P k → k < w0.heap.size
  at' : ∃ mb pb, StageAt w b mb hb pb S ∧ ¬ P b ∧ ¬ P mb ∧ ¬ P hb ∧ ¬ P pb

theorem Lay.low {B : Nat} {w0 w : World} {b hb : Nat} {S : Vol} (h : Lay (· < B) w0 w b hb S) : Below B w0 w := h.keep.below fun _ h => h
theorem Lay.step {P : Nat → Prop} {w0 w w' : World} {b hb : Nat} {S : Vol} (h : Lay P w0 w b hb S) (hbl : Below w.heap.size w w') : Lay P w0 w' b hb S := by
  obtain ⟨h1, h2, mb, pb, h3, h4⟩ := h
  exact ⟨h1.trans (Keep.of_below hbl fun k hk => Nat.lt_of_lt_of_le (h2 k hk) h1.size), h2, mb, pb, h3.below hbl h3.lt, h4⟩
theorem Lay.alloc {P : Nat → Prop} {w0 w : World} {b hb : Nat} {S : Vol} (h : Lay P w0 w b hb S) (o : Obj) : Lay P w0 (w.alloc o) b hb S := h.step ((Below.refl _ _).alloc (Nat.le_refl _) _)
theorem Lay.drew {P : Nat → Prop} {w0 w : World} {b hb : Nat} {S : Vol} (h : Lay P w0 w b hb S) : Lay P w0 w.drew b hb S := h.step ((Below.refl _ _).drew)
theorem Lay.write {P : Nat → Prop} {w0 w w' : World} {b mb hb pb : Nat} {S' : Vol} (h1 : Keep P w0 w) (h2 : ∀ k, P k → k < w0.heap.size) (h4 : ¬ P b ∧ ¬ P mb ∧ ¬ P hb ∧ ¬ P pb) (hg : w.grownBy w' (some mb)) (hs : StageAt w' b mb hb pb S') : Lay P w0 w' b hb S' :=
  ⟨h1.trans ⟨hg.os, hg.tape, hg.output, hg.size, fun k hk => hg.block k (Nat.lt_of_lt_of_le (h2 k hk) h1.size) (fun e => h4.2.1 (by cases e; exact hk))⟩, h2, mb, pb, hs, h4⟩
theorem Lay.rebase {P : Nat → Prop} {w0 w : World} {b hb : Nat} {S : Vol} (h : Lay P w0 w b hb S) : Lay P w w b hb S := ⟨Keep.refl _ _, fun k hk => Nat.lt_of_lt_of_le (h.dom k hk) h.keep.size, h.at'⟩
/-- a block of the caller's own beside the stage -/
theorem Lay.guard {P : Nat → Prop} {w0 w : World} {b hb : Nat} {S : Vol} (h : Lay P w0 w b hb S) (o : Obj) : Lay (fun k => P k ∨ k = w.heap.size) (w.alloc o) (w.alloc o) b hb S := by
  obtain ⟨h1, h2, mb, pb, h3, h4⟩ := h
  obtain ⟨q1, q2, q3, q4⟩ := h3.lt
  refine ⟨Keep.refl _ _, fun k hk => ?_, mb, pb, h3.below ((Below.refl _ _).alloc (Nat.le_refl _) o) h3.lt, fun hk => ?_, fun hk => ?_, fun hk => ?_, fun hk => ?_⟩
  · rw [World.size_alloc]
    rcases hk with hk | hk
    · have := h2 k hk; have := h1.size; omega
    · omega
  · rcases hk with hk | hk
    · exact h4.1 hk
    · omega
  · rcases hk with hk | hk
    · exact h4.2.1 hk
    · omega
  · rcases hk with hk | hk
    · exact h4.2.2.1 hk
    · omega
  · rcases hk with hk | hk
    · exact h4.2.2.2 hk
    · omega
/-- what happens in the caller's own blocks does not touch the stage -/
theorem Lay.poke {P : Nat → Prop} {w0 w w' : World} {b hb k : Nat} {S : Vol} (h : Lay P w0 w b hb S) (hk : P k) (hg : w.grownBy w' (some k)) : Lay P w' w' b hb S := by
  obtain ⟨h1, h2, mb, pb, h3, h4⟩ := h
  obtain ⟨q1, q2, q3, q4⟩ := h3.lt
  have g : ∀ i, i < w.heap.size → ¬ P i → w'.heap[i]? = w.heap[i]? := fun i hi hp => hg.block i hi (fun e => hp (by cases e; exact hk))
  obtain ⟨t1, ⟨es, c, t2, t3⟩, ⟨t4, t5, t6⟩, t7⟩ := h3
  exact ⟨Keep.refl _ _, fun i hi => Nat.lt_of_lt_of_le (h2 i hi) (Nat.le_trans h1.size hg.size), mb, pb, ⟨(g b q1 h4.1).trans t1, ⟨es, c, (g mb q2 h4.2.1).trans t2, t3⟩, ⟨(g hb q3 h4.2.2.1).trans t4, (g pb q4 h4.2.2.2).trans t5, t6⟩, t7⟩, h4⟩

theorem five_of (kd r : Int) (h0 : 0 ≤ kd) (h1 : kd < 256) (h2 : 0 ≤ r) (h3 : r < 4294967296) : ∃ b0 b1 b2 b3 b4 : UInt8, entryD kd r = five b0 b1 b2 b3 b4 ∧ ((b0.toNat : Nat) : Int) = kd ∧ ((b1.toNat + 256 * b2.toNat + 65536 * b3.toNat + 16777216 * b4.toNat : Nat) : Int) = r := by
  refine ⟨UInt8.ofNat kd.toNat, UInt8.ofNat (r % 256).toNat, UInt8.ofNat (r / 256 % 256).toNat, UInt8.ofNat (r / 65536 % 256).toNat, UInt8.ofNat (r / 16777216).toNat, ?_, ?_, ?_⟩
  · unfold entryD le1 le4 five
    rfl
  · simp only [UInt8.toNat_ofNat']
    omega
  · simp only [UInt8.toNat_ofNat']
    omega

theorem find_lay {P : Nat → Prop} {w0 w : World} {b hb : Nat} {S : Vol} {d m : Pg} {n : Nat} (L : Lay P w0 w b hb S) (h : VolOk S d m n) (k : Nat) (hk : k < 6) (ha : d.a k ≠ 0) (kd r : Int) (h0 : 0 ≤ kd) (h1 : kd < 256) (h2 : 0 ≤ r) (h3 : r < 4294967296) (h5 : d.d k = entryD kd r) (st : Int) (hst : st = (k : Int) + 1) (a : Int) (hda : d.a k = a) :
    Calls Try.prog 68 #[.pointer (some ⟨b, 0, none⟩), .int .i64 st] w fun e w' => e = .returned (.tuple #[.int .i64 kd, .int .i64 r, .int .i64 a, .int .i64 0]) ∧ Lay P w0 w' b hb S := by
  obtain ⟨mb, pb, hs, h4⟩ := L.at'
  obtain ⟨b0, b1, b2, b3, b4, e1, e2, e3⟩ := five_of kd r h0 h1 h2 h3
  have hc := find_ok S b mb hb pb d w hs h.dir k hk ha b0 b1 b2 b3 b4 (h5.trans e1)
  rw [e2, e3, hda] at hc
  subst hst
  exact hc.mono fun e w' ⟨he, hbl⟩ => ⟨he, L.step hbl⟩

theorem make_lay {P : Nat → Prop} {w0 w : World} {b hb : Nat} {S : Vol} {d m : Pg} {n : Nat} (L : Lay P w0 w b hb S) (h : VolOk S d m n) (k : Nat) (hk : k < 6) (ha : d.a k = 0) (hbef : ∀ j, j < k → d.a j ≠ 0)
    (id : Nat) (hid : id < n) (hf : bitAt m id = false) (hbelow : ∀ j, j < id → bitAt m j = true) (kind : Int) (hkind : kind = 1 ∨ kind = 2 ∨ kind = 3) (st : Int) (hst : st = (k : Int) + 1) :
    Calls Try.prog 40 #[.pointer (some ⟨b, 0, none⟩), .int .i64 kind] w fun e w' => e = .returned (.tuple #[.int .i64 st, .int .i64 0]) ∧ Lay P w0 w' b hb (S.made d m k id kind) := by
  obtain ⟨mb, pb, hs, h4⟩ := L.at'
  subst hst
  have h2 : 2 ≤ id := by
    by_cases e0 : id = 0
    · subst e0; rw [h.z0] at hf; cases hf
    by_cases e1 : id = 1
    · subst e1; rw [h.z1] at hf; cases hf
    omega
  have hok := ok_setC h.dok k hk 1 (entryD kind id) (okC_full (.inl rfl) (by rw [entry_size]; omega) (by rw [entry_size]; omega))
  rcases hkind with rfl | hkind
  · exact (make_heap S b mb hb pb d m n w hs h.dir h.map k hk ha hbef id hid hf hbelow hok).mono fun e w' ⟨he, hg, hs'⟩ => ⟨he, Lay.write L.keep L.dom h4 hg (by unfold Vol.made; rw [if_pos rfl]; exact hs')⟩
  · exact (make_ok S b mb hb pb d m n w hs h.dir h.map k hk ha hbef id hid hf hbelow kind hkind hok).mono fun e w' ⟨he, hg, hs'⟩ => ⟨he, Lay.write L.keep L.dom h4 hg (by unfold Vol.made; rw [if_neg (by omega)]; exact hs')⟩

theorem format_lay {P : Nat → Prop} {w0 w : World} {b hb : Nat} {S : Vol} (L : Lay P w0 w b hb S) (n : Nat) (h4 : 4 ≤ n) (hn : n ≤ 1024) :
    Calls Try.prog 38 #[.pointer (some ⟨b, 0, none⟩), .int .i64 n] w fun e w' => e = .returned (.int .i64 0) ∧ Lay P w0 w' b hb (S.formed n) := by
  obtain ⟨mb, pb, hs, hB⟩ := L.at'
  exact (format_ok S b mb hb pb w hs n h4 hn).mono fun e w' ⟨he, hg, hs'⟩ => ⟨he, Lay.write L.keep L.dom hB hg hs'⟩

set_option maxHeartbeats 1000000 in
theorem make_bad (p : Value) (kind : Int) (w : World) (h : kind < 1 ∨ 3 < kind) :
    Calls Try.prog 40 #[p, .int .i64 kind] w fun e w' => e = .returned (.tuple #[.int .i64 0, .int .i64 1]) ∧ w = w' := by
  by_cases h1 : kind < 1
  · clear h
    go_enter Try.func40, Try.ntmps40
    go_wp2_with fail
    go_ret2
    exact ⟨rfl, rfl⟩
  · have h2 : 3 < kind := by omega
    clear h
    go_enter Try.func40, Try.ntmps40
    go_wp2_with fail
    go_ret2
    exact ⟨rfl, rfl⟩
set_option maxHeartbeats 1000000 in
theorem format_nil (n : Int) (w : World) :
    Calls Try.prog 38 #[.pointer none, .int .i64 n] w fun e w' => e = .returned (.int .i64 1) ∧ w = w' := by
  go_enter Try.func38, Try.ntmps38
  go_wp2_with fail
  go_ret
  exact ⟨rfl, rfl⟩

/-- stage.New over stage.Memory's shelf -/
theorem new_lay (hb pb : Nat) (l : List Pg) (w0 w : World) (hB : Below w0.heap.size w0 w) (h : ShelfAt w hb pb l) (h1 : w0.heap.size ≤ hb) (h2 : w0.heap.size ≤ pb) :
    Calls Try.prog 37 #[.iface 69 (.pointer (some ⟨hb, 0, none⟩))] w fun e w' => ∃ b, e = .returned (.pointer (some ⟨b, 0, none⟩)) ∧ Lay (· < w0.heap.size) w0 w' b hb ⟨l, []⟩ :=
  (new_any hb pb l w h).mono fun e w' ⟨b, mb, he, hb', h3, h4, hs⟩ => by
    have := hB.size
    exact ⟨b, he, Keep.of_below (hB.trans (hb'.mono hB.size)) (fun _ h => h), fun _ h => h, mb, pb, hs, by omega, by omega, by omega, by omega⟩
end Go.Proofs.Ytljommhbhpappaa
