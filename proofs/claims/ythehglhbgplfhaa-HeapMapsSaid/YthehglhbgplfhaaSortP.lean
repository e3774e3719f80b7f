/-
  Layer 15 (heap): slices.SortFunc of pairs that rise already: nothing turns.
-/
import Derived.Test.YthehglhbgplfhaaSortLay
import Derived.Test.YthehglhbgplfhaaRecs
namespace Go.Proofs.Ythehglhbgplfhaa
open Go.RowKit Go.Joins Go.Sort Go.Shelf
set_option linter.unusedVariables false
set_option linter.unusedSimpArgs false

/-- a pair whose number is small -/
abbrev PrB : Type := { x : Int × ByteArray // 0 ≤ x.1 ∧ x.1 < 8192 }
instance : Inhabited PrB := ⟨⟨(0, ByteArray.empty), by simp⟩⟩
def encPr (x : PrB) : List Value := (prCs x.1).toList
def cmpPr (x y : PrB) : Int := x.1.1 - y.1.1
theorem ltPr (x y : PrB) : ltOf cmpPr x y = decide (x.1.1 < y.1.1) := by
  unfold ltOf cmpPr
  exact decide_eq_decide.2 (by omega)
theorem swoPr : SWO (ltOf cmpPr) where
  irrefl x := by rw [ltPr]; simp
  trans x y z h1 h2 := by rw [ltPr] at *; simp at *; omega
  ntrans x y z h1 h2 := by rw [ltPr] at *; simp at *; omega

set_option maxHeartbeats 1000000 in
theorem clo_less (x y : PrB) (W : World) : Calls Try.prog 58 #[.agg (prCs x.1), .agg (prCs y.1)] W fun e w' => e = .returned (.int .i64 (cmpPr x y)) ∧ ∃ q os', w' = grow (W.drewN q) os' := by
  obtain ⟨⟨a, s⟩, h1, h2⟩ := x
  obtain ⟨⟨c, t⟩, h3, h4⟩ := y
  simp only at h1 h2 h3 h4
  show Calls _ _ #[.agg #[.string ⟨#[]⟩, .int .i64 a, .string s], .agg #[.string ⟨#[]⟩, .int .i64 c, .string t]] W fun e w' => e = .returned (.int .i64 (a - c)) ∧ ∃ q os', w' = grow (W.drewN q) os'
  go_enter Try.func58, Try.ntmps58
  go_wp2_with fail
  go_ret
  exact ⟨rfl, 0, _, by rw [alloc_eq_grow, alloc_eq_grow, grow_grow]; rfl⟩

/-- two lists of the same pairs, both rising: one list -/
theorem perm_sorted : ∀ {a b : List PrB}, a.Perm b → a.Pairwise (fun x y => x.1.1 < y.1.1) → b.Pairwise (fun x y => ¬ y.1.1 < x.1.1) → a = b
  | [], b, hp, _, _ => by simpa using hp.symm.eq_nil.symm
  | x :: r, [], hp, _, _ => by simpa using hp.length_eq
  | x :: r, y :: s, hp, ha, hb => by
    obtain ⟨ha1, ha2⟩ := List.pairwise_cons.1 ha
    obtain ⟨hb1, hb2⟩ := List.pairwise_cons.1 hb
    have hxy : x = y := by
      have hx : x ∈ y :: s := hp.subset (List.mem_cons_self ..)
      have hy : y ∈ x :: r := hp.symm.subset (List.mem_cons_self ..)
      rcases List.mem_cons.1 hx with h | h
      · exact h
      rcases List.mem_cons.1 hy with h' | h'
      · exact h'.symm
      exact absurd (ha1 y h') (hb1 x h)
    subst hxy
    rw [perm_sorted (List.Perm.cons_inv hp) ha2 hb2]

theorem sort_pairs (R : List (Int × ByteArray)) (hb : ∀ x ∈ R, 0 ≤ x.1 ∧ x.1 < 8192) (hs : R.Pairwise (fun x y => x.1 < y.1)) (hl : R.length ≤ 100000) (B : Nat) (v : Value) (w : World) (h : w.ownsRow B 90 3 v R.length (prRow R)) :
    Calls Try.prog 57 #[v, .func (.func 58) #[] #[]] w fun e w' => e = .returned (.tuple #[]) ∧ Below w.heap.size w w' := by
  rcases ownsRow_forms h with ⟨rfl, h0⟩ | ⟨g, cap, rfl⟩
  · refine (AnyF.slices_SortFunc_none Try.sortPr none 0 _ w).mono ?_
    rintro e w' ⟨rfl, rfl⟩
    exact ⟨rfl, Below.refl _ _⟩
  · obtain ⟨d, hd⟩ : ∃ d : Array PrB, d.toList.map (·.1) = R := by
      refine ⟨(R.pmap (fun x hx => (⟨x, hx⟩ : PrB)) hb).toArray, ?_⟩
      simp [List.map_pmap]
    have hlen : d.size = R.length := by rw [← hd]; simp
    have hget : ∀ j (hj : j < d.size), (d[j]'hj).1 = R[j]'(by omega) := by
      intro j hj
      have : (d.toList.map (·.1))[j]? = some (d[j]'hj).1 := by simp [hj]
      rw [hd, List.getElem?_eq_getElem (by omega)] at this
      exact (Option.some.inj this).symm
    have hgl := (h.lt g rfl).2
    have hH : HoldsK encPr 3 w g 0 d := by
      intro j hj
      rw [size_flatK] at hj
      have hj3 : j / 3 < d.size := by omega
      have hm : j % 3 < 3 := Nat.mod_lt _ (by omega)
      have hc := h.cellAt j (by omega)
      rw [get_flatK _ _ _ _ hj, getElem!_pos d (j / 3) hj3]
      have hrow : (prRow R)[j]? = (prCs (d[j / 3]'hj3).1).toList[j % 3]? := by
        have := prRow_get R (j / 3) (j % 3) (by omega) hm
        have e : j / 3 * 3 + j % 3 = j := by omega
        rw [e] at this
        rw [this, hget _ hj3]
      refine ⟨?_, ?_⟩
      · show w.cell? ⟨g, 0 + j, none⟩ = some (id ((encPr (d[j / 3]'hj3))[j % 3]!))
        rw [Nat.zero_add, hc, hrow]
        show _ = some ((prCs (d[j / 3]'hj3).1).toList[j % 3]!)
        have hlt : j % 3 < (prCs (d[j / 3]'hj3).1).toList.length := hm
        rw [List.getElem?_eq_getElem hlt, getElem!_pos (prCs (d[j / 3]'hj3).1).toList (j % 3) hlt]
      · rcases h.2 with ⟨h', _⟩ | ⟨g', cap', cur, h', _, hg', _⟩
        · cases h'
        · simp only [Value.slice.injEq, Option.some.injEq, Addr.mk.injEq, and_true, true_and] at h'
          obtain ⟨rfl, rfl⟩ := h'
          simp [World.frozen?, hg']
    have eg : ∀ args w, (callFunc 58 args).run Try.prog w = .ok (.enter 58 args) w := fun args w => by kernel_rfl
    have hcon := AnyQ.slices_SortFunc Try.sortPr 3 Try.isAgg90 Try.sizeOf90 encPr (fun _ => rfl) (fun x v hv => by simp [encPr, prCs] at hv; rcases hv with rfl | rfl | rfl <;> rfl) cmpPr swoPr 58 #[] g 0 cap d w eg (fun _ _ _ _ x y => clo_less x y _) hH hgl (by omega)
    rw [hlen] at hcon
    refine Calls.mono hcon ?_
    rintro e w' ⟨rfl, d', n, os, hp, hst, rfl⟩
    have hdd : d' = d := by
      have hsz : d'.size = R.length := hp.1.trans hlen
      have e1 : (d'.extract 0 R.length).toList = d'.toList := by rw [← hsz]; simp
      have e2 : (d.extract 0 R.length).toList = d.toList := by rw [← hlen]; simp
      have hperm := hp.2.2
      rw [e1, e2] at hperm
      have s1 : d.toList.Pairwise (fun x y => x.1.1 < y.1.1) := by
        rw [← hd, List.pairwise_map] at hs
        exact hs
      have s2 : d'.toList.Pairwise (fun x y => ¬ y.1.1 < x.1.1) := by
        rw [List.pairwise_iff_getElem]
        intro i j hi hj hij
        have := hst i j (Nat.zero_le _) hij (by simpa [hsz] using hj)
        rw [ltPr, decide_eq_false_iff_not, getElem!_pos d' j (by simpa using hj), getElem!_pos d' i (by simpa using hi)] at this
        simpa using this
      have := perm_sorted hperm.symm s1 s2
      exact (Array.toList_inj.1 this).symm
    rw [hdd]
    refine ⟨rfl, ?_⟩
    have hself : putRowK encPr 3 (Sort.ahead w n) g 0 d = Sort.ahead w n := putRowK_self encPr 3 (Sort.ahead w n) g 0 d hH
    show Below w.heap.size w (grow (putRowK encPr 3 (Sort.ahead w n) g 0 d) os)
    rw [hself]
    exact ⟨rfl, rfl, rfl, by simp [grow, Sort.ahead], fun k hk => by simp [grow, Sort.ahead, Array.getElem?_append, hk]⟩
end Go.Proofs.Ythehglhbgplfhaa
