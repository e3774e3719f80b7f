/-
  A volume with one store, an index or one of objects; one stage in a law's own memory.
-/
import Derived.Test.YtljommhbhpappaaTree3
namespace Go.Proofs.Ytljommhbhpappaa
open Go.RowKit Go.Joins
set_option linter.unusedVariables false
set_option linter.unusedSimpArgs false

/-- a stage in a law's own memory -/
structure One (w0 w : World) (b mb hb pb : Nat) (S : Vol) : Prop where
  low : Below w0.heap.size w0 w
  st : StageAt w b mb hb pb S
  hi : w0.heap.size ≤ mb ∧ w0.heap.size ≤ pb
theorem One.below {w0 w w' : World} {b mb hb pb : Nat} {S : Vol} (h : One w0 w b mb hb pb S) (hb2 : Below w.heap.size w w') : One w0 w' b mb hb pb S :=
  ⟨h.low.trans (hb2.mono h.low.size), h.st.below hb2 h.st.lt, h.hi⟩
theorem One.grow {w0 w w' : World} {b mb hb pb : Nat} {S S' : Vol} (h : One w0 w b mb hb pb S) (hg : w.grownBy w' (some mb)) (hs : StageAt w' b mb hb pb S') : One w0 w' b mb hb pb S' :=
  ⟨h.low.grown hg h.low.size (fun q hq => by cases hq; exact h.hi.1), hs, h.hi⟩
theorem One.alloc {w0 w : World} {b mb hb pb : Nat} {S : Vol} (h : One w0 w b mb hb pb S) (o : Obj) : One w0 (w.alloc o) b mb hb pb S := h.below ((Below.refl _ _).alloc (Nat.le_refl _) o)
theorem One.drew {w0 w : World} {b mb hb pb : Nat} {S : Vol} (h : One w0 w b mb hb pb S) : One w0 w.drew b mb hb pb S := h.below (Below.refl _ _).drew
theorem new_one (hb pb : Nat) (l : List Pg) (w0 w : World) (hB : Below w0.heap.size w0 w) (h : ShelfAt w hb pb l) (h2 : w0.heap.size ≤ pb) :
    Calls Try.prog 37 #[.iface 69 (.pointer (some ⟨hb, 0, none⟩))] w fun e w' => ∃ b mb, e = .returned (.pointer (some ⟨b, 0, none⟩)) ∧ One w0 w' b mb hb pb ⟨l, []⟩ :=
  (new_any hb pb l w h).mono fun e w' ⟨b, mb, he, hb', h3, h4, hs⟩ => by
    have := hB.size
    exact ⟨b, mb, he, hB.trans (hb'.mono hB.size), hs, by omega, h2⟩
theorem format_start (N n : Nat) (h4 : 4 ≤ n) (hn : n ≤ 1024) (b mb hb pb : Nat) (w : World) (hs : StageAt w b mb hb pb ⟨List.replicate N Pg.zero, []⟩) :
    Calls Try.prog 38 #[.pointer (some ⟨b, 0, none⟩), .int .i64 n] w fun e w' => e = .returned (.int .i64 0) ∧ w.grownBy w' (some mb) ∧ StageAt w' b mb hb pb (Vol.formed ⟨List.replicate N Pg.zero, []⟩ n) :=
  format_ok _ b mb hb pb w hs n h4 hn

/-- a volume whose first store is a tree, and nothing else -/
structure IdxOk (S : Vol) (d m : Pg) (n : Nat) (kd : Int) (N : Nat) (T : Tr N) : Prop where
  vol : VolOk S d m n
  live : d.a 0 = 1
  ent : d.d 0 = entryD kd (Tr.id N T)
  kind : kd = 2 ∨ kd = 3
  tree : TrAt S 1 N T
  bits : ∀ i : Nat, i < n → bitAt m i = (decide (i < 2) || decide ((i : Int) ∈ Tr.ids N T))
  most : ∀ i ∈ Tr.ids N T, 2 ≤ i ∧ i < n
theorem IdxOk.find {S : Vol} {d m : Pg} {n : Nat} {kd : Int} {N : Nat} {T : Tr N} (h : IdxOk S d m n kd N T) (b mb hb pb : Nat) (w' : World) (hs : StageAt w' b mb hb pb S) :
    Calls Try.prog 68 #[.pointer (some ⟨b, 0, none⟩), .int .i64 1] w' fun e w2 => e = .returned (.tuple #[.int .i64 kd, .int .i64 (Tr.id N T), .int .i64 1, .int .i64 0]) ∧ Below w'.heap.size w' w2 := by
  have hid := h.tree.tin.ids _ (id_mem N T)
  have hk := h.kind
  exact find_st b mb hb pb w' hs h.vol 0 (by omega) (by rw [h.live]; decide) kd (Tr.id N T) (by omega) (by omega) (by omega) (by omega) h.ent 1 rfl 1 h.live

/-- a new one -/
def I0 (N n : Nat) (kd : Int) : Vol := (Vol.formed ⟨List.replicate N Pg.zero, []⟩ n).made { k := 1 } (newMap n) 0 2 kd
def dI0 (kd : Int) : Pg := ({ k := 1 } : Pg).setC 0 1 (entryD kd 2)
theorem emptyNd (st : Int) : ({ k := 4, s := st } : Pg) = ndPg 0 st 0 [] := rfl
theorem I0_ok (N n : Nat) (kd : Int) (hkd : kd = 2 ∨ kd = 3) (h4 : 4 ≤ n) (hn : n ≤ 1024) (hN : n ≤ N) : IdxOk (I0 N n kd) (dI0 kd) (markPg (newMap n) 2 true) n kd 0 (2, []) := by
  have h0 := VolOk.new (List.replicate N Pg.zero) n [] h4 hn (by simpa using hN)
  have hkd1 : ¬ kd = 1 := by omega
  have hpg : stPg (I0 N n kd) 2 = ndPg 0 1 0 [] := by
    unfold I0 Vol.made
    rw [stPg_put, if_neg (by omega), stPg_put, if_pos (show (2 : Int) = ((2 : Nat) : Int) from rfl), if_neg hkd1]
    exact emptyNd 1
  have hse : stE (I0 N n kd) 2 = 0 := by
    unfold I0 Vol.made
    rw [stE_put, if_neg (by omega), stE_put, if_pos (show (2 : Int) = ((2 : Nat) : Int) from rfl)]
  have hkd0 : ({ k := 1 } : Pg).a 0 = 0 := rfl
  refine ⟨h0.make 0 2 kd (by omega) (by omega) (by omega), ?_, ?_, hkd, ⟨⟨trivial, ⟨by simp [Tr.cells], List.Pairwise.nil, fun _ c hc => (by cases hc), fun h => absurd rfl h⟩, ?_, ?_, by omega⟩, ?_, ?_, ?_⟩, ?_, ?_⟩
  · unfold dI0; rw [a_setC _ _ _ (by omega) (by omega), if_pos rfl]
  · unfold dI0; rw [d_setC _ _ _ (by omega) (by omega), if_pos rfl]; rfl
  · intro x hx
    have : x = ((2 : Int), ([] : List NC)) := by simpa [Tr.leaves] using hx
    subst this
    exact ⟨0, hpg⟩
  · intro i hi
    have : i = 2 := by simpa [Tr.ids] using hi
    subst this
    exact ⟨hse, by omega, by omega⟩
  · exact ⟨hpg, trivial⟩
  · simp [Tr.ids]
  · intro c hc
    cases hc
  · intro i hi
    rw [bitAt_mark _ _ _ _ (by omega) (by omega) h0.map.sz, newMap_bit _ _ (by omega)]
    simp only [Tr.ids, List.mem_cons, List.not_mem_nil, or_false]
    by_cases e : i = 2
    · subst e; simp
    · have : ¬ (i : Int) = 2 := by omega
      simp [e, this]
  · intro i hi
    have : i = 2 := by simpa [Tr.ids] using hi
    subst this
    omega
theorem make_start (N n : Nat) (kd : Int) (hkd : kd = 2 ∨ kd = 3) (h4 : 4 ≤ n) (hn : n ≤ 1024) (hN : n ≤ N) (b mb hb pb : Nat) (w : World) (hs : StageAt w b mb hb pb (Vol.formed ⟨List.replicate N Pg.zero, []⟩ n)) :
    Calls Try.prog 40 #[.pointer (some ⟨b, 0, none⟩), .int .i64 kd] w fun e w' => e = .returned (.tuple #[.int .i64 1, .int .i64 0]) ∧ w.grownBy w' (some mb) ∧ StageAt w' b mb hb pb (I0 N n kd) := by
  have h0 := VolOk.new (List.replicate N Pg.zero) n [] h4 hn (by simpa using hN)
  have ha : ({ k := 1 } : Pg).a 0 = 0 := rfl
  have hok := ok_setC h0.dok 0 (by omega) 1 (entryD kd (2 : Nat)) (okC_full (.inl rfl) (by rw [entry_size]; omega) (by rw [entry_size]; omega))
  refine (make_ok _ b mb hb pb { k := 1 } (newMap n) n w hs h0.dir h0.map 0 (by omega) ha (by omega) 2 (by omega) (by rw [newMap_bit _ _ (by omega)]; rfl) (fun j hj => by rw [newMap_bit _ _ (by omega)]; simp [hj]) kd hkd hok).mono ?_
  rintro e w' ⟨h1, h2, h3⟩
  refine ⟨h1, h2, ?_⟩
  unfold I0 Vol.made
  rw [if_neg (by omega)]
  exact h3
end Go.Proofs.Ytljommhbhpappaa
