/-
  Layer 17 (lob): lists of objects: the document's, and the one that is read off the tree.
-/
import Derived.Test.YtljommhbhpappaaLr17d
import Derived.Test.YtljommhbhpappaaLr17b
import Derived.Test.YtljommhbhpappaaTreeN
namespace Go.Proofs.Ytljommhbhpappaa
open Go.RowKit Go.Joins
set_option linter.unusedVariables false
set_option linter.unusedSimpArgs false

/-! ## objects as a list -/
abbrev Ob := Int × ByteArray
def obCs (x : Ob) : Array Value := #[.string ByteArray.empty, .int .i64 x.1, .string x.2]
def obRow (l : List Ob) : List Value := l.flatMap fun x => (obCs x).toList
theorem obRow_snoc (l : List Ob) (x : Ob) : obRow (l ++ [x]) = obRow l ++ (obCs x).toList := by simp [obRow]
def listM (M : Mo) (k : Nat) : List Ob := (List.range k).filterMap fun (n : Nat) => (M (n : Int)).map fun b => ((n : Int), b)
theorem listM_succ (M : Mo) (k : Nat) : listM M (k + 1) = listM M k ++ (match M k with | some b => [((k : Int), b)] | none => []) := by
  unfold listM
  rw [List.range_succ, List.filterMap_append]
  cases h : M (k : Int) <;> simp [h]
theorem listM_len (M : Mo) : ∀ k, (listM M k).length ≤ k
  | 0 => by simp [listM]
  | k + 1 => by
    have := listM_len M k
    rw [listM_succ, List.length_append]
    cases M (k : Int) <;> simp <;> omega
theorem listM_mem {M : Mo} {k : Nat} {x : Ob} : x ∈ listM M k ↔ ∃ n : Nat, n < k ∧ x.1 = (n : Int) ∧ M n = some x.2 := by
  unfold listM
  rw [List.mem_filterMap]
  constructor
  · rintro ⟨n, hn, hx⟩
    rw [Option.map_eq_some_iff] at hx
    obtain ⟨b, hb, rfl⟩ := hx
    exact ⟨n, List.mem_range.1 hn, rfl, hb⟩
  · rintro ⟨n, hn, h1, h2⟩
    refine ⟨n, List.mem_range.2 hn, ?_⟩
    rw [h2]
    obtain ⟨a, b⟩ := x
    simp only at h1
    subst h1
    rfl
theorem listM_up (M : Mo) : ∀ k, (listM M k).Pairwise fun x y => x.1 < y.1
  | 0 => List.Pairwise.nil
  | k + 1 => by
    rw [listM_succ]
    refine List.pairwise_append.2 ⟨listM_up M k, ?_, fun a ha b hb => ?_⟩
    · cases M (k : Int) <;> simp
    · obtain ⟨n, hn, h1, -⟩ := listM_mem.1 ha
      cases h : M (k : Int) with
      | none => rw [h] at hb; cases hb
      | some v =>
        rw [h] at hb
        obtain rfl : b = ((k : Int), v) := by simpa using hb
        simp only [h1]; omega
theorem up_ext : ∀ {a b : List Ob}, a.Pairwise (fun x y => x.1 < y.1) → b.Pairwise (fun x y => x.1 < y.1) → (∀ x, x ∈ a ↔ x ∈ b) → a = b
  | [], [], _, _, _ => rfl
  | [], y :: b, _, _, h => by have := (h y).2 (List.mem_cons_self ..); cases this
  | x :: a, [], _, _, h => by have := (h x).1 (List.mem_cons_self ..); cases this
  | x :: a, y :: b, ha, hb, h => by
    rw [List.pairwise_cons] at ha hb
    have hxy : x = y := by
      rcases List.mem_cons.1 ((h x).1 (List.mem_cons_self ..)) with e | h1
      · exact e
      · rcases List.mem_cons.1 ((h y).2 (List.mem_cons_self ..)) with e | h2
        · exact e.symm
        · have := ha.1 y h2; have := hb.1 x h1; omega
    subst hxy
    congr 1
    refine up_ext ha.2 hb.2 fun z => ⟨fun hz => ?_, fun hz => ?_⟩
    · rcases List.mem_cons.1 ((h z).1 (List.mem_cons_of_mem _ hz)) with e | h1
      · subst e; exact absurd (ha.1 z hz) (Int.lt_irrefl _)
      · exact h1
    · rcases List.mem_cons.1 ((h z).2 (List.mem_cons_of_mem _ hz)) with e | h1
      · subst e; exact absurd (hb.1 z hz) (Int.lt_irrefl _)
      · exact h1

set_option maxHeartbeats 4000000 in
set_option maxRecDepth 100000 in
theorem olist_any {w : World} {B ob : Nat} {L : List (Int × ByteArray)} (h : ObjsIn w B ob L) :
    Calls Try.prog 33 #[.pointer (some ⟨ob, 0, none⟩)] w fun e w' => ∃ v, e = .returned v ∧ Below w.heap.size w w' ∧ w'.ownsRow w.heap.size 105 3 v (listM (mo L) 1000).length (obRow (listM (mo L) 1000)) := by
  obtain ⟨j0, ji, jz0, jz1, jz2⟩ := info_parts infoPr
  have HO := Lib.hid h
  have HL := Lib.hid (listM_len (mo L))
  obtain ⟨h1, h2, nv, bv, h3, -, h5⟩ := h
  obtain ⟨ba, bc, rfl, hba⟩ := own_form22 h5
  have hlt := (Array.getElem?_eq_some_iff.1 h3).1
  have H3 := Lib.hid h3
  have H5 := Lib.hid h5
  have HBA := Lib.hid hba
  clear h3 h5 hba
  go_enter Try.func33, Try.ntmps33
  go_wp2_with fail
  go_loopw [3, 4] (fun l v wr => ∃ (k : Nat) (R : List Ob), k ≤ 1000 ∧ v = .int .i64 k ∧ listM (mo L) k = R ∧ wr.ownsRow w.heap.size 105 3 l R.length (obRow R) ∧ Below w.heap.size w wr) (fun _ v _ => 1000 - (intOf v).toNat)
  case atStart => exact ⟨0, [], by omega, rfl, rfl, World.ownsRow_nil _ _ _ _, Below.refl _ _⟩
  case round =>
    obtain ⟨k, R, hk, rfl, hR, hown, hbw⟩ := hrel
    obtain ⟨wo, rfl⟩ : ∃ wo : World, wo = wr := ⟨_, rfl⟩
    have hz := hbw.size
    have hlen := HL.out k
    rw [hR] at hlen
    by_cases hlk : k < 1000
    · have hki : decide ((k : Int) < 1000) = true := by simp; omega
      have HF := Lib.hid (ofind_any (HO.out.below hbw) (k : Int))
      have hs := listM_succ (mo L) k
      rw [hR] at hs
      rcases mo_at L (k : Int) with ⟨e, hno⟩ | ⟨i, hi, e, hin, hm⟩
      · rw [hno] at hs
        simp only [List.append_nil] at hs
        rw [e] at HF
        have HS := Lib.hid hs
        have HB := Lib.hid hbw
        have HW := Lib.hid hown
        clear hs hR e hno hbw hown
        go_wp2_with fail
        with_reducible refine HF.out.mono ?_; rintro e w1 ⟨rfl, rfl⟩
        go_wp2_with fail
        exact ⟨⟨k + 1, R, by omega, by go_num, HS.out, HW.out, HB.out⟩, by simp [intOf]; omega⟩
      · rw [hm] at hs
        simp only at hs
        rw [e] at HF
        obtain ⟨Gb, rfl, hBb, -⟩ := HBA.out (by omega)
        have cb := own_cell22 (own_low22 H5.out hbw) i (.string L[i].2) (by simp [hi])
        have c1 := (objs_cell ((hbw.block ob hlt).trans H3.out)).2
        have HS := Lib.hid hs
        have hi1 : (i : Int) < (L.length : Int) := by omega
        clear hs hR e hm hin
        generalize L[i].2 = x at *
        go_wp2_with fail
        with_reducible refine HF.out.mono ?_; rintro e w1 ⟨rfl, rfl⟩
        go_wp2_with (at_builtin; refine wpList_append_own _ rfl _ _ 63 rfl w.heap.size 105 j0 _ 3 40 Try.underlying63 ji jz0 jz1 jz2 rfl (by decide) _ _ _ rfl (hown.alloc _) ⟨wo.heap.size, 0, none⟩ 1 1 (obCs ((k : Int), x)).toList rfl rfl ?c1 ?c2 ?c3 ?c4 ?c5 ?_)
        case c1 => exact World.news_of_block (cs := obCs ((k : Int), x)) (t := 105) (fr := (0, 0)) (heap_alloc_new wo _)
        case c2 => intro u hu; simp [obCs] at hu; rcases hu with rfl | rfl | rfl <;> rfl
        case c3 => simp only [maxLen]; omega
        case c4 => omega
        case c5 => first | omega | (simp; omega)
        intro v' w5 hown' hgrow _
        have hb5 : Below w.heap.size w w5 := (hbw.alloc hz _).grown hgrow (by go_size) (fun q hq => (hown.lt q hq).1)
        clear hown hgrow
        go_wp2_with fail
        refine ⟨⟨k + 1, R ++ [((k : Int), x)], by omega, by go_num, HS.out, ?_, hb5⟩, by simp [intOf]; omega⟩
        rw [obRow_snoc]; simpa using hown'
    · have hke : k = 1000 := by omega
      subst hke
      have HR := Lib.hid hR
      clear hR
      go_wp2_with fail
      go_ret
      refine ⟨_, rfl, hbw, ?_⟩
      rw [HR.out]; exact hown
end Go.Proofs.Ytljommhbhpappaa
