/-
  Layer 15 (heap): one stage of a law's own; a fresh heap; the laws' awake.
-/
import Derived.Test.YthehglhbgplfhaaHeap10
namespace Go.Proofs.Ythehglhbgplfhaa
open Go.RowKit Go.Joins
set_option linter.unusedVariables false
set_option linter.unusedSimpArgs false

/-- a stage in a law's own memory -/
structure One (w0 w : World) (b mb hb pb : Nat) (S : Vol) : Prop where
  low : Below w0.heap.size w0 w
  st : StageAt w b mb hb pb S
  hi : w0.heap.size ≤ mb ∧ w0.heap.size ≤ pb
theorem One.below {w0 w w' : World} {b mb hb pb : Nat} {S : Vol} (h : One w0 w b mb hb pb S) (hb2 : Below w.heap.size w w') : One w0 w' b mb hb pb S :=
  ⟨h.low.trans (hb2.mono h.low.size), h.st.below hb2 h.st.lt, h.hi⟩
theorem One.grow {w0 w w' : World} {b mb hb pb : Nat} {S S' : Vol} (h : One w0 w b mb hb pb S) (hg : w.grownBy w' (some mb)) (hs : StageAt w' b mb hb pb S') : One w0 w' b mb hb pb S' :=
  ⟨h.low.grown hg h.low.size (fun q hq => by cases hq; exact h.hi.1), hs, h.hi⟩
theorem One.alloc {w0 w : World} {b mb hb pb : Nat} {S : Vol} (h : One w0 w b mb hb pb S) (o : Obj) : One w0 (w.alloc o) b mb hb pb S := h.below ((Below.refl _ _).alloc (Nat.le_refl _) o)
theorem One.drew {w0 w : World} {b mb hb pb : Nat} {S : Vol} (h : One w0 w b mb hb pb S) : One w0 w.drew b mb hb pb S := h.below (Below.refl _ _).drew

/-- a fresh heap on a volume of n pages, over a shelf of N -/
def H0 (N n : Nat) : Vol := (Vol.formed ⟨List.replicate N Pg.zero, []⟩ n).made { k := 1 } (newMap n) 0 2 1
theorem H0_ok (N n : Nat) (h4 : 4 ≤ n) (hn : n ≤ 1024) (hN : n ≤ N) : HeapOk (H0 N n) n [freshH] := HeapOk.new _ _ n h4 hn (by simpa using hN)
theorem H0_fit (N n : Nat) (h4 : 4 ≤ n) (hN : n ≤ N) (h1 : N ≤ 1024) : (H0 N n).Fit N := by
  have h0 := VolOk.new (List.replicate N Pg.zero) n [] h4 (by omega) (by simpa using hN)
  have hf0 : Vol.Fit ⟨List.replicate N Pg.zero, []⟩ N := by
    have := Vol.Fit.nil (List.replicate N Pg.zero) (by simpa using h1)
    simpa using this
  exact made_fit h0 (formed_fit hf0 h4 hN) hN 0 2 1 (by omega) (by omega) (by omega)
theorem make_start (N n : Nat) (h4 : 4 ≤ n) (hn : n ≤ 1024) (hN : n ≤ N) (b mb hb pb : Nat) (w : World) (hs : StageAt w b mb hb pb (Vol.formed ⟨List.replicate N Pg.zero, []⟩ n)) :
    Calls Try.prog 16 #[.pointer (some ⟨b, 0, none⟩), .int .i64 1] w fun e w' => e = .returned (.tuple #[.int .i64 1, .int .i64 0]) ∧ w.grownBy w' (some mb) ∧ StageAt w' b mb hb pb (H0 N n) := by
  have h0 := VolOk.new (List.replicate N Pg.zero) n [] h4 hn (by simpa using hN)
  have ha : ({ k := 1 } : Pg).a 0 = 0 := rfl
  have hok := ok_setC h0.dok 0 (by omega) 1 (entryD 1 2) (okC_full (.inl rfl) (by rw [entry_size]; omega) (by rw [entry_size]; omega))
  refine (make_heap _ b mb hb pb { k := 1 } (newMap n) n w hs h0.dir h0.map 0 (by omega) ha (by omega) 2 (by omega) (by rw [newMap_bit _ _ (by omega)]; rfl) (fun j hj => by rw [newMap_bit _ _ (by omega)]; simp [hj]) hok).mono ?_
  rintro e w' ⟨h1, h2, h3⟩
  refine ⟨h1, h2, ?_⟩
  unfold H0 Vol.made
  rw [if_pos rfl]
  exact h3
theorem format_start (N n : Nat) (h4 : 4 ≤ n) (hn : n ≤ 1024) (b mb hb pb : Nat) (w : World) (hs : StageAt w b mb hb pb ⟨List.replicate N Pg.zero, []⟩) :
    Calls Try.prog 15 #[.pointer (some ⟨b, 0, none⟩), .int .i64 n] w fun e w' => e = .returned (.int .i64 0) ∧ w.grownBy w' (some mb) ∧ StageAt w' b mb hb pb (Vol.formed ⟨List.replicate N Pg.zero, []⟩ n) :=
  format_ok _ b mb hb pb w hs n h4 hn
theorem new_one (hb pb : Nat) (l : List Pg) (w0 w : World) (hB : Below w0.heap.size w0 w) (h : ShelfAt w hb pb l) (h2 : w0.heap.size ≤ pb) :
    Calls Try.prog 14 #[.iface 24 (.pointer (some ⟨hb, 0, none⟩))] w fun e w' => ∃ b mb, e = .returned (.pointer (some ⟨b, 0, none⟩)) ∧ One w0 w' b mb hb pb ⟨l, []⟩ :=
  (new_any hb pb l w h).mono fun e w' ⟨b, mb, he, hb', h3, h4, hs⟩ => by
    have := hB.size
    exact ⟨b, mb, he, hB.trans (hb'.mono hB.size), hs, by omega, h2⟩

/-- with nothing to be kept a fresh page has its first place -/
theorem place_fresh (zs : List Int) (id : Int) : placeI zs 0 id freshH = 0 :=
  placeI_at 0 (by omega) (by simp [freeAt, inRow, freshH, Pg.a]) (fun j hj => by omega)
theorem RowOk.none' (w : World) : RowOk w none 0 [] := ⟨by omega, .inl rfl⟩
/-- the first record of a fresh heap -/
theorem insert_first {S : Vol} {n : Nat} (hh : HeapOk S n [freshH]) (b mb hb pb : Nat) (val : ByteArray) (hval : val.size ≤ 32) (w : World) (hs : StageAt w b mb hb pb S) :
    Calls Try.prog 17 #[.pointer (some ⟨b, 0, none⟩), .int .i64 1, .string val, .slice none 0 0] w fun e w' => ∃ u : Un,
      e = .returned (.tuple #[.int .i64 16, u.v, .int .i64 0]) ∧ w.grownBy w' (some mb) ∧ ∃ S', StageAt w' b mb hb pb S' ∧ HeapOk S' n [freshH.setC 0 1 val] := by
  refine (insert_any hh b mb hb pb val hval none 0 0 [] w hs (RowOk.none' w)).mono ?_
  rintro e w' (⟨g, k, i, S1, q, rfl, ho⟩ | ⟨S1, rfl, hbd⟩)
  · have hg : g = 0 := by
      by_cases h : g = 0
      · exact h
      · have := (ho.at'.fresh (by omega)).2.2 0 (by simp)
        have e := place_fresh [] ((2 + 0 : Nat) : Int)
        simp only [List.getElem_cons_zero] at this
        rw [e] at this; cases this
    subst hg
    have hk := ho.at'.lt
    have hk0 : k = 0 := by simpa [growN] using hk
    subst hk0
    have hq : freshH = q := ho.at'.pg hk
    subst hq
    have hi := ho.place
    rw [place_fresh] at hi
    have hi0 : i = 0 := by omega
    subst hi0
    refine ⟨_, rfl, ho.grown, _, ho.stage, ?_⟩
    exact ho.at'.heap.set 0 hk (freshH.setC 0 1 val) (ok_setC fresh_ok 0 (by omega) 1 val (by simp [okC]; omega)) ⟨rfl, rfl, rfl⟩
  · have := hbd.full 0 (by simp)
    simp only [List.getElem_cons_zero] at this
    rw [place_fresh] at this; cases this

set_option maxHeartbeats 4000000 in
set_option maxRecDepth 100000 in
theorem awake15 (w : World) :
    Calls Try.prog 12 #[] w fun e w' => e = .returned (.bool true) ∧ Below w.heap.size w w' := by
  have HM := Lib.hid (fun (w' : World) => memory_ok 8 (by omega) (by omega) w')
  have HN := Lib.hid (fun hb pb w' hB h h2 => new_one hb pb (List.replicate 8 Pg.zero) w w' hB h h2)
  have HFo := Lib.hid (fun b mb hb pb w' hs => format_start 8 8 (by omega) (by omega) b mb hb pb w' hs)
  have HMa := Lib.hid (fun b mb hb pb w' hs => make_start 8 8 (by omega) (by omega) (by omega) b mb hb pb w' hs)
  have HIn := Lib.hid (fun b mb hb pb w' hs => insert_first (H0_ok 8 8 (by omega) (by omega) (by omega)) b mb hb pb ⟨#[97]⟩ (by decide) w' hs)
  go_enter Try.func12, Try.ntmps12
  go_wp2_with fail
  refine (HM.out _).mono ?_; rintro e w1 ⟨hb, pb, rfl, hb1, q1, q2, hs1⟩
  have K1 := Lib.hid hb1
  have K2 := Lib.hid hs1
  clear hb1 hs1
  go_wp2_with fail
  refine (HN.out hb pb _ K1.out K2.out q2).mono ?_; rintro e w2 ⟨b, mb, rfl, h2⟩
  have K3 := Lib.hid h2
  clear h2
  go_wp2_with fail
  refine (HFo.out b mb hb pb _ K3.out.st).mono ?_; rintro e w3 ⟨rfl, g3, s3⟩
  have K4 := Lib.hid (K3.out.grow g3 s3)
  clear g3 s3
  go_wp2_with fail
  refine (HMa.out b mb hb pb _ K4.out.st).mono ?_; rintro e w4 ⟨rfl, g4, s4⟩
  have K5 := Lib.hid (K4.out.grow g4 s4)
  clear g4 s4
  go_wp2_with fail
  refine (HIn.out b mb hb pb _ K5.out.st).mono ?_; rintro e w5 ⟨u, rfl, g5, S5, s5, h5⟩
  have K6 := Lib.hid ((K5.out.grow g5 s5).alloc (.cells u.cs 36))
  obtain ⟨p, hp⟩ : ∃ p, freshH.setC 0 1 ⟨#[97]⟩ = p := ⟨_, rfl⟩
  have hit : hitB (2 + 0) p 16 = true := by rw [← hp]; rfl
  rw [hp] at h5
  have hde := delete_hit h5 b mb hb pb 16 (by omega) 0 (by simp) hit _ K6.out.st
  have hu6 : undoOf [p] 16 0 = { kind := 1, page := 2, slot := 0, st := 1, d := ⟨#[97]⟩ } := by rw [← hp]; rfl
  have hp2 : p.setC (16 % 8 : Int).toNat 2 (p.d (16 % 8 : Int).toNat) = freshH.setC 0 2 ⟨#[97]⟩ := by rw [← hp]; rfl
  rw [hu6] at hde
  simp only [List.getElem_cons_zero] at hde
  rw [hp2] at hde
  have HDe := Lib.hid hde
  have h6 : HeapOk (S5.put ((2 + 0 : Nat) : Int) (freshH.setC 0 2 ⟨#[97]⟩)) 8 [freshH.setC 0 2 ⟨#[97]⟩] := h5.set 0 (by simp) _ (ok_setC fresh_ok 0 (by omega) 2 _ (by rfl)) (by rw [← hp]; exact ⟨rfl, rfl, rfl⟩)
  have H6 := Lib.hid h6
  clear g5 s5 h5 hit hde hu6 hp2 hp h6
  go_wp2_with fail
  refine HDe.out.mono ?_; rintro e w6 ⟨rfl, g6, s6⟩
  obtain ⟨u6, hu6⟩ : ∃ u6 : Un, u6 = { kind := 1, page := 2, slot := 0, st := 1, d := ⟨#[97]⟩ } := ⟨_, rfl⟩
  have K7 := Lib.hid ((K6.out.grow g6 s6).alloc (.cells u6.cs 36))
  rw [← hu6]
  have HU6 := Lib.hid hu6
  have hrd := read_any H6.out b mb hb pb 16 (by omega) _ K7.out.st
  have HRd := Lib.hid hrd
  have R6 := rowAt_at w6 u6.cs 36 _ rfl
  clear g6 s6 hu6 hrd
  go_wp2_with fail
  refine HRd.out.mono ?_; rintro e w7 ⟨hb7, ⟨k, hk, hbad, rfl⟩ | ⟨-, rfl⟩⟩
  · exfalso
    obtain rfl : k = 0 := by simpa using hk
    cases hbad
  · have K8 := Lib.hid (K7.out.below hb7)
    have R7 := (rowAt_below hb7 (by simp)).trans R6
    have hre := restore_ok H6.out b mb hb pb u6 0 0 (by simp) (by omega) (by rw [HU6.out]) (by rw [HU6.out]; rfl) (by rw [HU6.out]; rfl) (by rw [HU6.out]; rfl) _ K8.out.st
    simp only [List.getElem_cons_zero] at hre
    have h7 : HeapOk ((S5.put ((2 + 0 : Nat) : Int) (freshH.setC 0 2 ⟨#[97]⟩)).put ((2 + 0 : Nat) : Int) ((freshH.setC 0 2 ⟨#[97]⟩).setC 0 u6.st u6.d)) 8 [(freshH.setC 0 2 ⟨#[97]⟩).setC 0 u6.st u6.d] := H6.out.set 0 (by simp) _ (by rw [HU6.out]; exact ok_setC (ok_setC fresh_ok 0 (by omega) 2 _ (by rfl)) 0 (by omega) 1 _ (by rfl)) ⟨rfl, rfl, rfl⟩
    have H7 := Lib.hid h7
    have HRe := Lib.hid hre
    clear hb7 hre h7 R6
    go_wp2_with fail
    refine HRe.out.mono ?_; rintro e w8 ⟨rfl, g8, s8⟩
    have K9 := Lib.hid (K8.out.grow g8 s8)
    have HR9 := Lib.hid (read_any H7.out b mb hb pb 16 (by omega) _ K9.out.st)
    clear g8 s8 R7
    go_wp2_with fail
    refine HR9.out.mono ?_; rintro e w9 ⟨hb9, ⟨k, hk, hgd, rfl⟩ | ⟨hno, rfl⟩⟩
    · obtain rfl : k = 0 := by simpa using hk
      have hd : ([(freshH.setC 0 2 ⟨#[97]⟩).setC 0 u6.st u6.d][0]).d (16 % 8 : Int).toNat = ⟨#[97]⟩ := by rw [HU6.out]; rfl
      rw [hd]
      have K10 := Lib.hid (K9.out.below hb9)
      clear hb9 hgd hd
      go_wp2_with fail
      go_ret
      exact ⟨rfl, K10.out.low⟩
    · exfalso
      have := hno 0 (by simp)
      rw [HU6.out] at this
      cases this
end Go.Proofs.Ythehglhbgplfhaa
