/-
  Several texts in one: Tree19, Tree20.
-/
import Derived.Test.YtljommhbhpappaaPkOps
import Derived.Test.YtljommhbhpappaaFrame16
namespace Go.Proofs.Ytljommhbhpappaa
/-!
  Layer 16 (tree): a law's do.
-/
section
open Go.RowKit Go.Joins
set_option linter.unusedVariables false
set_option linter.unusedSimpArgs false

/-- what a change has left of the cells -/
def DidDo (F F' : List NC) (c : Cl) (kp : List ByteArray) (u : Un) (er : Int) : Prop :=
  (c.kind = 0 ∧ PutDid F F' ⟨c.key, 1, c.val⟩ (kp ++ [c.key]) u er) ∨ (c.kind = 1 ∧ ChDid F F' c.key (setOf c.key c.val) u er) ∨ (c.kind = 2 ∧ ChDid F F' c.key (cutOf c.key) u er) ∨
  (c.kind ≠ 0 ∧ c.kind ≠ 1 ∧ c.kind ≠ 2 ∧ u = Un.zero ∧ er = 0 ∧ F' = F)
set_option maxHeartbeats 8000000 in
set_option maxRecDepth 100000 in
theorem do16 {S : Vol} {nn : Nat} {kd : Int} {F : List NC} (h : Has S nn kd F) (c : Cl) (ka : Option Addr) (kc : Nat) (kp : List ByteArray) (b mb hb pb : Nat) (w0 w : World) (hs : One w0 w b mb hb pb S) (hkp : StrIn w ka kp) :
    Calls Try.prog 50 #[.pointer (some ⟨b, 0, none⟩), c.v, .slice ka kp.length kc] w fun e w' => ∃ u er S' F', e = .returned (.tuple #[u.v, .int .i64 er]) ∧ One w0 w' b mb hb pb S' ∧ DidDo F F' c kp u er ∧ Ready S S' nn kd F' er ∧ w.grownBy w' (some mb) := by
  have hmb := hs.st.lt.2.1
  have B0 : Below w.heap.size w ((w.alloc (.cells c.cs 92)).alloc (.cells Un.zero.cs 86)) := ((Below.refl _ _).alloc (Nat.le_refl _) _).alloc (by go_size) _
  have hs0 := hs.below B0
  have hk0 : StrIn ((w.alloc (.cells c.cs 92)).alloc (.cells Un.zero.cs 86)) ka kp := hkp.below B0
  have HPut := Lib.hid (fun key val => op_put h key val ka kc kp b mb hb pb w0 _ hs0 hk0)
  have HSet := Lib.hid (fun key val => op_set h key val b mb hb pb w0 _ hs0)
  have HCut := Lib.hid (fun key => op_cut h key b mb hb pb w0 _ hs0)
  have R4 : rowAt ((w.alloc (.cells c.cs 92)).alloc (.cells Un.zero.cs 86)) w.heap.size = some c.cs := (rowAt_past _ _ _ (by go_size)).trans (rowAt_at w _ _ _ rfl)
  have R6 := Lib.hid (rowAt_at (w.alloc (.cells c.cs 92)) Un.zero.cs 86 (w.heap.size + 1) (by go_size))
  have c0 := (cell_row R4 0).trans (show c.cs[0]? = some (.int .i64 c.kind) from rfl)
  have c1 := (cell_row R4 1).trans (show c.cs[1]? = some (.string c.key) from rfl)
  have c2 := (cell_row R4 2).trans (show c.cs[2]? = some (.string c.val) from rfl)
  have HS := Lib.hid hs0
  have HB := Lib.hid B0
  have H := Lib.hid h
  have hzW : ((w.alloc (.cells c.cs 92)).alloc (.cells Un.zero.cs 86)).heap.size = w.heap.size + 1 + 1 := by go_size
  have hw0 := hs.low.size
  have FIN : ∀ (u : Un) (er : Int) (S' : Vol) (F' : List NC) (w1 : World), ((w.alloc (.cells c.cs 92)).alloc (.cells Un.zero.cs 86)).grownBy w1 (some mb) → One w0 w1 b mb hb pb S' → rowAt w1 (w.heap.size + 1) = some Un.zero.cs ∧ One w0 (w1.setRow (w.heap.size + 1) u.cs) b mb hb pb S' ∧ w.grownBy (w1.setRow (w.heap.size + 1) u.cs) (some mb) := fun u er S' F' w1 hg h1 => by
    have BW : Below w.heap.size w1 (w1.setRow (w.heap.size + 1) u.cs) := below_setRow (Below.refl _ _) _ (by omega)
    have hl := hs.st.lt
    refine ⟨(rowAt_grown hg (by go_size) (by omega)).trans R6.out, ⟨h1.low.trans (BW.mono hw0), h1.st.below BW hl, h1.hi⟩, grown_below ((grown_of_below HB.out _).trans hg) BW (Nat.le_refl _)⟩
  have HFin := Lib.hid FIN
  clear hs hkp h hs0 hk0 B0 R4 FIN
  by_cases k0 : c.kind = 0
  · rw [k0] at c0
    go_enter Try.func50, Try.ntmps50
    go_wp2_with fail
    refine (HPut.out c.key c.val).mono ?_; rintro e w1 ⟨u, er, S', F', rfl, h1, h2, h3, -, hg⟩
    obtain ⟨r1, o1, g1⟩ := HFin.out u er S' F' w1 hg h1
    have r7 : row7 (rowAt w1 (w.heap.size + 1)) = true := by rw [r1]; rfl
    have RF := rowAt_setRow w1 _ _ u.cs r1
    have O1 := Lib.hid o1
    have D := Lib.hid h2
    have Rd := Lib.hid h3
    clear h1 h2 h3 o1 hg c1 c2
    go_wp2_with fail
    exact ret_un rfl rfl (w.heap.size + 1) u rfl RF ⟨u, er, S', F', rfl, O1.out, .inl ⟨k0, D.out⟩, Rd.out, g1⟩
  by_cases k1 : c.kind = 1
  · rw [k1] at c0
    go_enter Try.func50, Try.ntmps50
    go_wp2_with fail
    refine (HSet.out c.key c.val).mono ?_; rintro e w1 ⟨u, er, S', F', rfl, h1, h2, h3, hg⟩
    obtain ⟨r1, o1, g1⟩ := HFin.out u er S' F' w1 hg h1
    have r7 : row7 (rowAt w1 (w.heap.size + 1)) = true := by rw [r1]; rfl
    have RF := rowAt_setRow w1 _ _ u.cs r1
    have O1 := Lib.hid o1
    have D := Lib.hid h2
    have Rd := Lib.hid h3
    clear h1 h2 h3 o1 hg c1 c2
    go_wp2_with fail
    exact ret_un rfl rfl (w.heap.size + 1) u rfl RF ⟨u, er, S', F', rfl, O1.out, .inr (.inl ⟨k1, D.out⟩), Rd.out, g1⟩
  by_cases k2 : c.kind = 2
  · rw [k2] at c0
    go_enter Try.func50, Try.ntmps50
    go_wp2_with fail
    refine (HCut.out c.key).mono ?_; rintro e w1 ⟨u, er, S', F', rfl, h1, h2, h3, -, hg⟩
    obtain ⟨r1, o1, g1⟩ := HFin.out u er S' F' w1 hg h1
    have r7 : row7 (rowAt w1 (w.heap.size + 1)) = true := by rw [r1]; rfl
    have RF := rowAt_setRow w1 _ _ u.cs r1
    have O1 := Lib.hid o1
    have D := Lib.hid h2
    have Rd := Lib.hid h3
    clear h1 h2 h3 o1 hg c1 c2
    go_wp2_with fail
    exact ret_un rfl rfl (w.heap.size + 1) u rfl RF ⟨u, er, S', F', rfl, O1.out, .inr (.inr (.inl ⟨k2, D.out⟩)), Rd.out, g1⟩
  · have b0 : (c.kind == 0) = false := by simp [k0]
    have b1 : (c.kind == 1) = false := by simp [k1]
    have b2 : (c.kind == 2) = false := by simp [k2]
    go_enter Try.func50, Try.ntmps50
    go_wp2_with fail
    exact ret_un rfl rfl (w.heap.size + 1) Un.zero rfl R6.out ⟨Un.zero, 0, S, F, rfl, HS.out, .inr (.inr (.inr ⟨k0, k1, k2, rfl, rfl, rfl⟩)), ⟨H.out.1, rfl, fun _ => H.out.2⟩, grown_of_below HB.out _⟩
end

/-!
  Layer 16 (tree): the walk of TreeKept.
-/
section
open Go.RowKit Go.Joins
set_option linter.unusedVariables false
set_option linter.unusedSimpArgs false

/-- a key's own error -/
theorem wrong16 (key : ByteArray) (w : World) : Calls Try.prog 45 #[.string key, .string ⟨#[]⟩] w fun e w' => e = .returned (.int .i64 (if KeyOk key then 0 else 1)) ∧ w = w' := by
  by_cases h0 : key = ByteArray.empty
  · subst h0
    rw [if_neg (fun hk : KeyOk ByteArray.empty => hk.1 rfl)]
    go_enter Try.func45, Try.ntmps45
    go_wp2_with fail
    go_ret
    exact ⟨rfl, rfl⟩
  · have h3 := sem_f h0
    by_cases h8 : key.size ≤ 8
    · have h1 : decide ((8 : Int) < (key.size : Int)) = false := by simp; omega
      rw [if_pos (show KeyOk key from ⟨h0, h8⟩)]
      go_enter Try.func45, Try.ntmps45
      go_wp2_with fail
      go_ret
      exact ⟨rfl, rfl⟩
    · have h1 : decide ((8 : Int) < (key.size : Int)) = true := by simp; omega
      rw [if_neg (fun hk : KeyOk key => h8 hk.2)]
      go_enter Try.func45, Try.ntmps45
      go_wp2_with fail
      go_ret
      exact ⟨rfl, rfl⟩
/-- a ghost that is kept stays, whatever is done with other keys -/
theorem did_kept {F F' : List NC} {c : Cl} {key : ByteArray} {u : Un} {er : Int} (h : DidDo F F' c [key] u er) (hk : c.key ≠ key) {x : NC} (hx : x ∈ F) (hxk : x.key = key) : x ∈ F' := by
  have hset : ∀ y : NC, y.key = c.key → x ∈ setC y F := fun y hy => by
    refine List.mem_map.2 ⟨x, hx, if_neg fun e => hk ?_⟩
    rw [← hy, ← e, hxk]
  rcases h with ⟨-, ⟨-, -, ⟨y, -, hy, -, -, rfl⟩ | ⟨-, -, hf⟩⟩ | ⟨-, -, rfl⟩⟩ | ⟨-, ⟨-, y, -, hy, -, -, rfl⟩ | ⟨-, -, rfl, -⟩⟩ | ⟨-, ⟨-, y, -, hy, -, -, rfl⟩ | ⟨-, -, rfl, -⟩⟩ | ⟨-, -, -, -, -, rfl⟩
  · exact hset _ rfl
  · exact hf.kept x hx (.inr (by simp [hxk]))
  · exact hx
  · exact hset _ rfl
  · exact hx
  · exact hset _ rfl
  · exact hx
  · exact hx
/-- the two calls with which TreeKept begins -/
theorem kept_put (key : ByteArray) (hk : KeyOk key) (b mb hb pb : Nat) (w0 w : World) (hs : One w0 w b mb hb pb (I0 150 150 2).laid) :
    Calls Try.prog 47 #[.pointer (some ⟨b, 0, none⟩), .int .i64 1, .string key, .string ⟨#[107, 101, 112, 116]⟩, .slice none 0 0] w fun e w' => ∃ (u : Un) (S' : Vol) (F' : List NC), e = .returned (.tuple #[u.v, .int .i64 0]) ∧ One w0 w' b mb hb pb S' ∧ Has S' 150 2 F' ∧ S'.base = (I0 150 150 2).laid.base ∧ (⟨key, 1, ⟨#[107, 101, 112, 116]⟩⟩ : NC) ∈ F' := by
  refine (op_putN (I0_hasN 150 (by omega) (by omega)) (by omega) (.inl (by omega)) key ⟨#[107, 101, 112, 116]⟩ hk (by decide) none 0 [] b mb hb pb w0 w hs ⟨by simp, .inl rfl⟩).mono ?_
  rintro e w2 ⟨u, er, S', F', rfl, h1, h2, h3, h5, h4⟩
  obtain rfl : er = 0 := by
    rcases h4 with e | ⟨-, x, hx, -⟩
    · exact e
    · cases hx
  refine ⟨u, S', F', rfl, h1, h3.has, h5, ?_⟩
  rcases h2 with ⟨-, -, ⟨y, hy, -⟩ | ⟨-, -, hfp⟩⟩ | ⟨h, -⟩
  · cases hy
  · exact hfp.memc
  · exact absurd rfl h
theorem kept_cut {S : Vol} {F : List NC} (h : Has S 150 2 F) (key v : ByteArray) (hF : (⟨key, 1, v⟩ : NC) ∈ F) (b mb hb pb : Nat) (w0 w : World) (hs : One w0 w b mb hb pb S) :
    Calls Try.prog 48 #[.pointer (some ⟨b, 0, none⟩), .int .i64 1, .string key] w fun e w' => ∃ (S' : Vol) (F' : List NC), e = .returned (.tuple #[(unC key ⟨key, 1, v⟩).v, .int .i64 0]) ∧ One w0 w' b mb hb pb S' ∧ Ready S S' 150 2 F' 0 ∧ (⟨key, 2, v⟩ : NC) ∈ F' := by
  refine (op_cut h key b mb hb pb w0 w hs).mono ?_
  rintro e w2 ⟨u, er, S', F', rfl, h1, h2, h3, h4, -⟩
  rcases h2 with ⟨rfl, x, hx, hk, hst, rfl, rfl⟩ | ⟨h5, -, -, h6⟩
  · have hxe : x = ⟨key, 1, v⟩ := by
      have e1 := seekL_there h.rising hx
      have e2 := seekL_there h.rising hF
      rw [hk] at e1
      rw [e1] at e2
      exact Option.some.inj e2
    subst hxe
    exact ⟨S', _, rfl, h1, h3, List.mem_map.2 ⟨_, hF, by simp [cutOf]⟩⟩
  · rcases h6 with e | e
    · exact absurd e h4
    · exact absurd rfl (e _ hF rfl)
end
end Go.Proofs.Ytljommhbhpappaa
