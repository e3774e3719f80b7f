/-
  Layer 9 (locks): the document's table in memory: rows; who holds, who waits, who wants.
-/
import Derived.Test.YtileamjmhhifaaaGreatLk5
import Derived.Test.YtileamjmhhifaaaGreatLk2
import Derived.BigRegion
import Derived.Deep.RegionHeld3
namespace Go.Proofs.YtileamjmhhifaaaGreat
open Go.RowKit Go.Joins Go.Sort Go.Shelf
set_option linter.unusedVariables false
set_option linter.unusedSimpArgs false

/-- a row of the document's table -/
structure Dr where
  n : Nm
  x : Int
  m : Int
  w : Int
  t : Int
instance : Inhabited Dr := ⟨⟨⟨0, ⟨#[]⟩⟩, 0, 0, 0, 0⟩⟩
def Dr.cs (r : Dr) : Array Value := #[.int .i64 r.n.s, .string r.n.i, .int .i64 r.x, .int .i64 r.m, .int .i64 r.w, .int .i64 r.t]
def Dr.l (r : Dr) : List Value := r.cs.toList
def drRow (R : List Dr) : List Value := R.flatMap Dr.l
theorem drRow_get (R : List Dr) (i k : Nat) (hi : i < R.length) (hk : k < 6) : (drRow R)[i * 6 + k]? = R[i].l[k]? := flat_get (f := Dr.l) (n := 6) (fun _ => rfl) R i k hi hk
structure DAt (w : World) (B tb : Nat) (rv : Value) (R : List Dr) (T : Int) : Prop where
  lo : B ≤ tb
  at_ : w.heap[tb]? = some (.cells #[rv, .int .i64 T] 29)
  own : w.ownsRow B 69 6 rv R.length (drRow R)
  len : R.length ≤ 2000
theorem dlow {w w' : World} {base n : Nat} {e : TypeId} {v : Value} {xs : List Value} {s : Nat} (h : w.ownsRow base e s v n xs) (hb : Below w.heap.size w w') : w'.ownsRow base e s v n xs := h.kept (row := none) ⟨hb.os, hb.tape, hb.output, hb.size, fun i hi _ => hb.block i hi⟩ (by cases v.ownBlock <;> simp)
theorem DAt.below {w w' : World} {B tb : Nat} {rv : Value} {R : List Dr} {T : Int} (h : DAt w B tb rv R T) (hb : Below w.heap.size w w') : DAt w' B tb rv R T :=
  ⟨h.lo, (hb.block tb (Array.getElem?_eq_some_iff.1 h.at_).1).trans h.at_, dlow h.own hb, h.len⟩
theorem DAt.hd {w : World} {B tb : Nat} {rv : Value} {R : List Dr} {T : Int} (h : DAt w B tb rv R T) : w.cell? ⟨tb, 0, none⟩ = some rv := (cell_of_block h.at_ 0).trans rfl
theorem DAt.form {w : World} {B tb : Nat} {rv : Value} {R : List Dr} {T : Int} (h : DAt w B tb rv R T) : ∃ a c, rv = .slice a R.length c ∧ (0 < R.length → ∃ g, a = some ⟨g, 0, none⟩ ∧ B ≤ g ∧ g < w.heap.size) := by
  rcases h.own.2 with ⟨rfl, h0⟩ | ⟨g, cap, cur, rfl, hb, hg, _⟩
  · exact ⟨none, 0, by rw [h0], fun h => by omega⟩
  · exact ⟨_, cap, rfl, fun _ => ⟨g, rfl, hb, (Array.getElem?_eq_some_iff.1 hg).1⟩⟩
theorem DAt.cell {w : World} {B tb g c : Nat} {R : List Dr} {T : Int} (h : DAt w B tb (.slice (some ⟨g, 0, none⟩) R.length c) R T) (i k : Nat) (hi : i < R.length) (u : Value) (hu : R[i].l[k]? = some u) : w.cell? ⟨g, i * 6 + k, none⟩ = some u := by
  have hk : k < 6 := by
    have := (List.getElem?_eq_some_iff.1 hu).1
    exact this
  have := h.own.cells (g := g) rfl (i * 6 + k) u ((drRow_get R i k hi hk).trans hu)
  rw [Addr.add_lit] at this
  simpa using this

/-- the first row that is like that; -1: none -/
def idxD (p : Dr → Bool) (R : List Dr) : Int := match R.findIdx? p with | some i => (i : Int) | none => -1
theorem idxD_some {p : Dr → Bool} {R : List Dr} {i : Nat} (hi : i < R.length) (hp : p R[i] = true) (hno : ∀ j, j < i → ∀ h : j < R.length, p R[j] = false) : idxD p R = (i : Int) := by
  have : R.findIdx? p = some i := by
    rw [List.findIdx?_eq_some_iff_getElem]
    exact ⟨hi, hp, fun j hj => by simpa using hno j hj (by omega)⟩
  unfold idxD; rw [this]
theorem idxD_none {p : Dr → Bool} {R : List Dr} (hno : ∀ j, ∀ h : j < R.length, p R[j] = false) : idxD p R = -1 := by
  have : R.findIdx? p = none := by
    rw [List.findIdx?_eq_none_iff]
    intro x hx
    obtain ⟨j, hj, rfl⟩ := List.mem_iff_getElem.1 hx
    exact hno j hj
  unfold idxD; rw [this]
def holdP (x : Int) (n : Nm) (r : Dr) : Bool := r.x == x && (r.n.eqB n && r.m != 0)
theorem nm_eqv (a b : Nm) (W : World) : (Op.equalIn 10000 31 (.agg #[.int .i64 a.s, .string a.i]) (.agg #[.int .i64 b.s, .string b.i])).run Tryz.prog W = .ok (a.eqB b) W := run_equalIn_nm a b W

section
variable {w : World} {B tb : Nat} {rv : Value} {R : List Dr} {T : Int}
set_option maxHeartbeats 8000000 in
set_option maxRecDepth 100000 in
theorem dhold_any (h : DAt w B tb rv R T) (x : Int) (n : Nm) :
    Calls Tryz.prog 30 #[.pointer (some ⟨tb, 0, none⟩), .int .i64 x, .agg #[.int .i64 n.s, .string n.i]] w fun e w' => e = .returned (.int .i64 (idxD (holdP x n) R)) ∧ Gr w w' := by
  obtain ⟨a, c, rfl, ha⟩ := h.form
  have htb := (Array.getElem?_eq_some_iff.1 h.at_).1
  have hb0 : Below w.heap.size w (w.alloc (.cells #[.int .i64 n.s, .string n.i] 31)) := (Below.refl _ _).alloc (Nat.le_refl _) _
  have hn0 := heap_alloc_new w (.cells #[.int .i64 n.s, .string n.i] 31)
  have H1 := Lib.hid (h.below hb0)
  have HB0 : Hid (Gr w (w.alloc (.cells #[.int .i64 n.s, .string n.i] 31))) := Lib.hid ((Gr.refl w).alloc _)
  have HN0 := Lib.hid hn0
  have hlen := h.len
  clear h hb0 hn0
  go_enter Tryz.func30, Tryz.ntmps30
  go_wp2_with fail
  generalize hw1 : w.alloc (.cells #[.int .i64 n.s, .string n.i] 31) = w1 at *
  go_loopw [7] (fun v wr => ∃ i, i ≤ R.length ∧ v = .int .i64 i ∧ Gr w1 wr ∧ ∀ j, j < i → ∀ h : j < R.length, holdP x n R[j] = false) (fun v _ => R.length - (intOf v).toNat)
  case atStart => exact ⟨0, by omega, rfl, Gr.refl _, fun j hj => by omega⟩
  case round =>
    obtain ⟨i, hi, rfl, hbw, hno⟩ := hrel
    obtain ⟨wo, rfl⟩ : ∃ wo : World, wo = wr := ⟨_, rfl⟩
    have HD := Lib.hid (H1.out.below hbw.below)
    have c0 := HD.out.hd
    have BW := Lib.hid (HB0.out.trans hbw)
    have hnx := (hbw.below.block w.heap.size (by rw [← hw1]; simp)).trans HN0.out
    have n0 : wo.cell? ⟨w.heap.size, 0, none⟩ = some (.int .i64 n.s) := (cell_of_block hnx 0).trans rfl
    have n1 : wo.cell? ⟨w.heap.size, 1, none⟩ = some (.string n.i) := (cell_of_block hnx 1).trans rfl
    by_cases hlt : i < R.length
    · obtain ⟨g, rfl, hBg, -⟩ := ha (by omega)
      have hik : (i : Int) < (R.length : Int) := by omega
      have hi0 : (0 : Int) ≤ (i : Int) := by omega
      have k0 : wo.cell? ⟨g, i * 6, none⟩ = some (.int .i64 R[i].n.s) := HD.out.cell i 0 hlt _ rfl
      have k1 : wo.cell? ⟨g, i * 6 + 1, none⟩ = some (.string R[i].n.i) := HD.out.cell i 1 hlt _ rfl
      have k2 : wo.cell? ⟨g, i * 6 + 2, none⟩ = some (.int .i64 R[i].x) := HD.out.cell i 2 hlt _ rfl
      have k3 : wo.cell? ⟨g, i * 6 + 3, none⟩ = some (.int .i64 R[i].m) := HD.out.cell i 3 hlt _ rfl
      have hp : ∀ b, (R[i].x == x && (R[i].n.eqB n && R[i].m != 0)) = b → (b = true → idxD (holdP x n) R = (i : Int)) ∧ (b = false → ∀ j, j < i + 1 → ∀ h : j < R.length, holdP x n R[j] = false) := fun b hb => ⟨fun e => idxD_some hlt (hb.trans e) hno, fun e j hj hjl => by
        by_cases e2 : j = i
        · subst e2; exact hb.trans e
        · exact hno j (by omega) hjl⟩
      have heq := nm_eqv R[i].n n
      have hbw' := hbw
      clear hno hnx hbw
      generalize R[i] = r at *
      obtain ⟨⟨rs, ri⟩, rx, rm, rw', rt⟩ := r
      simp only at k0 k1 k2 k3 hp heq
      have HBW := Lib.hid hbw'
      clear hbw'
      by_cases e1 : rx = x
      · subst e1
        cases e2 : Nm.eqB ⟨rs, ri⟩ n with
        | false =>
          rw [e2] at heq hp
          have HP := Lib.hid ((hp false (by simp)).2 rfl)
          clear hp e2
          go_wp2_with fail
          go_quiet (fail)
          go_wp2_with fail
          exact ⟨⟨i + 1, by omega, by go_num, HBW.out.drewN _, HP.out⟩, by simp [intOf]; omega⟩
        | true =>
          rw [e2] at heq hp
          by_cases e3 : rm = 0
          · subst e3
            have HP := Lib.hid ((hp false (by simp)).2 rfl)
            clear hp e2
            go_wp2_with fail
            go_quiet (fail)
            go_wp2_with fail
            exact ⟨⟨i + 1, by omega, by go_num, HBW.out.drewN _, HP.out⟩, by simp [intOf]; omega⟩
          · have e4 : (rm != 0) = true := by simpa using e3
            have HI := Lib.hid ((hp true (by simp [e3])).1 rfl)
            clear hp e2
            go_wp2_with fail
            go_quiet (fail)
            go_wp2_with fail
            go_ret
            exact ⟨by rw [HI.out]; rfl, BW.out.drewN _⟩
      · have e4 : (rx == x) = false := by simpa using e1
        have HP := Lib.hid ((hp false (by simp [e4])).2 rfl)
        clear hp e1
        go_wp2_with fail
        go_quiet (fail)
        go_wp2_with fail
        exact ⟨⟨i + 1, by omega, by go_num, HBW.out.drewN _, HP.out⟩, by simp [intOf]; omega⟩
    · have hie : i = R.length := by omega
      have hid : Hid (idxD (holdP x n) R = -1) := Lib.hid (idxD_none fun j hj => hno j (by omega) hj)
      subst hie
      clear hno hnx
      go_wp2_with fail
      go_ret
      exact ⟨by rw [hid.out]; rfl, BW.out⟩
end
end Go.Proofs.YtileamjmhhifaaaGreat
