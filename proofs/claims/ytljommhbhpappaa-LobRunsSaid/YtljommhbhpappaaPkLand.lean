/-
  Several texts in one: SortK, PageEq, Images, Apply, Land.
-/
import Derived.Test.YtljommhbhpappaaIter
import Derived.Test.YtljommhbhpappaaPkStage
import Derived.ChangeKeysEq
import Derived.OwnWalk
import Derived.Deep.AppendLies
import Derived.Test.YtljommhbhpappaaPkSpaceB
import Derived.Deep.MidRow
namespace Go.Proofs.Ytljommhbhpappaa
/-!
  Layer 13 (stage): the keys of the stage's map, sorted: maps.Keys and slices.Sorted by the shelf's contracts.
-/
section
open Go.RowKit Go.Joins Go.Maps Go.Sort Go.Shelf
open Go.WideElems (Fit rd rg rg_of rd_mk)
set_option linter.unusedVariables false
set_option linter.unusedSimpArgs false

/-- what every element reads as, for a law that asks nothing of elements -/
def R0 (_ : Value) : Option (DataW Unit × List MemPlace) := some (.nil, [])
def keyInt : Value → Int
  | .int _ a => a
  | _ => 0
theorem keyOf_i (a : Int) (h0 : 0 ≤ a) (h1 : a < 1024) : keyOf Try.prog 3 (.int .i64 a) = some (.int .i64 a) := keyOf_int_mk Try.underlying3 (WalkArith.wf_i64 (by omega))

theorem intMap_owns {w : World} {b : Nat} {M : List (Int × Value)} (h : IntMap w b M) (hM : ∀ x ∈ M, 0 ≤ x.1 ∧ x.1 < 1024) (hl : M.length ≤ 1024) :
    ∃ D : DataW Unit, w.ownsMap Try.prog 3 R0 b M.length D ∧ Maps.size D = M.length ∧ (intKeys D).Perm (M.map (·.1)) := by
  obtain ⟨es, clock, hb, hm, hst⟩ := h
  have hsz : es.size = M.length := by
    have := congrArg List.length hm
    simpa using this
  have hkey : ∀ x ∈ es.toList, ∃ a, x.key = .int .i64 a ∧ 0 ≤ a ∧ a < 1024 := by
    intro x hx
    have hmem : (x.key, x.val) ∈ es.toList.map (fun e => (e.key, e.val)) := List.mem_map.2 ⟨x, hx, rfl⟩
    rw [hm] at hmem
    obtain ⟨y, hy, he⟩ := List.mem_map.1 hmem
    exact ⟨y.1, (congrArg (·.1) he).symm, hM y hy⟩
  have hrd : ∀ x ∈ es.toList, rd Try.prog 3 R0 x = some (.int .i64 (keyInt x.key), .nil) := by
    intro x hx
    obtain ⟨a, ha, h0, h1⟩ := hkey x hx
    obtain ⟨key, val, born⟩ := x
    simp only at ha
    subst ha
    exact rd_mk (R := R0) (yv := (.nil, [])) (keyOf_i a h0 h1) rfl
  have F : Fit Try.prog 3 R0 es clock := ⟨by rw [hsz]; simp only [maxLen]; omega, hst, fun x hx => ⟨_, hrd x hx⟩⟩
  refine ⟨_, ⟨es, clock, hb, F, by omega, rfl⟩, ?_, ?_⟩
  · rw [Maps.size_eq, length_sorted]; simp [hsz]
  · have hp := (Go.WideShapes.sorted_perm (es.toList.map (rg Try.prog 3 R0))).map (fun p => Go.intOf p.1)
    refine hp.trans (List.Perm.of_eq ?_)
    rw [List.map_map]
    have e1 : es.toList.map ((fun p : Lit × DataW Unit => Go.intOf p.1) ∘ rg Try.prog 3 R0) = (es.toList.map (fun e => (e.key, e.val))).map (fun p => keyInt p.1) := by
      rw [List.map_map]
      refine List.map_congr_left fun x hx => ?_
      simp only [Function.comp, rg_of (hrd x hx), Go.intOf]
    rw [e1, hm, List.map_map]
    rfl

/-- slices.Sort's two contracts at this dump, at the fence that asks nothing -/
theorem sorts0 (m : Nat) : AnyZI.SortsIn Try.prog Try.sortedA_ren Fence.wide m :=
  ⟨fun blk off cap ss W hH hblk hsz => callsIn_wide.2 (AnyM.slices_Sort_int Try.sortA blk off cap ss W hH hblk hsz),
   fun p cap W => callsIn_wide.2 (AnyM.slices_Sort_int_none Try.sortA p cap W)⟩

theorem keys_plain (mb : Option Nat) (W : World) :
    Calls Try.prog 101 #[.map mb] W fun e w' => e = .returned (.func (.func 117) #[] #[.pointer (some ⟨W.heap.size, 0, none⟩)]) ∧ w' = W.alloc (.cells #[.map mb] 137) :=
  (callsIn_wide (n := 5)).1 (AnyZI.keys_in Try.keysA Fence.wide 5 trivial rfl mb W)

def sortK (M : List (Int × Value)) : List Int := (M.map (·.1)).mergeSort (fun x y => decide (x ≤ y))
theorem sortK_length (M : List (Int × Value)) : (sortK M).length = M.length := by simp [sortK]
theorem sortK_mem (M : List (Int × Value)) (x : Int) : x ∈ sortK M ↔ x ∈ M.map (·.1) := List.mem_mergeSort

theorem sorted_plain (b Bm : Nat) (M : List (Int × Value)) (w : World) (h : IntMap w b M) (hM : ∀ x ∈ M, 0 ≤ x.1 ∧ x.1 < 1024) (hl : M.length ≤ 1024) (hB : Bm < w.heap.size) (hm : w.cell? ⟨Bm, 0, none⟩ = some (.map (some b))) :
    Calls Try.prog 100 #[.func (.func 117) #[] #[.pointer (some ⟨Bm, 0, none⟩)]] w fun e w' => ∃ v, e = .returned v ∧ w'.ownsRow w.heap.size 3 1 v M.length ((sortK M).map encZ) ∧ Below w.heap.size w w' := by
  obtain ⟨D, hown, hsz, hperm⟩ := intMap_owns h hM hl
  have hseq : SeqGives Fence.wide 2 Try.prog 117 #[.pointer (some ⟨Bm, 0, none⟩)] encZ (fun ss => ss.Perm (intKeys D)) (Maps.size D) w :=
    AnyZI.keys_gives (ρ := Try.keysA_ren) { Try.keysA with } Fence.wide _ trivial rfl (by omega) Bm b M.length D _ hB hm hown
  have cS := AnyZI.sorted_in Try.sortedA Fence.wide 5 trivial trivial trivial trivial rfl (by omega) (sorts0 _) (enters_of Try.func116 (by kernel_rfl) rfl) 117 #[.pointer (some ⟨Bm, 0, none⟩)] trivial (enters_of Try.func117 (by kernel_rfl) rfl) _ _ (by rw [hsz]; simp only [maxLen]; omega) (by rw [hsz]; omega) _ hseq
  refine ((callsIn_wide (n := 5)).1 cS).mono ?_
  rintro e w' ⟨v, ss, rfl, hS, hrow, hnil, hb⟩
  have hp := hS.trans hperm
  have hlen : ss.length = M.length := by rw [hp.length_eq]; simp
  have e1 : ss.mergeSort (fun x y => decide (x ≤ y)) = sortK M := mergeSort_of_perm_i hp
  rw [e1, hlen] at hrow
  exact ⟨v, rfl, hrow, hb⟩
end

/-!
  Pages compared as values ('==' and '!=' of api.Page).
-/
section
open Go.RowKit Go.Joins
set_option linter.unusedVariables false
set_option linter.unusedSimpArgs false

def cellEq (a b : Int) (x y : ByteArray) : Bool := (a == b) && (x.toList == y.toList)
def pgEq (p q : Pg) : Bool := (p.k == q.k) && ((p.l == q.l) && ((p.s == q.s) && ((p.n == q.n) && (cellEq p.a0 q.a0 p.d0 q.d0 && (cellEq p.a1 q.a1 p.d1 q.d1 && (cellEq p.a2 q.a2 p.d2 q.d2 && (cellEq p.a3 q.a3 p.d3 q.d3 && (cellEq p.a4 q.a4 p.d4 q.d4 && cellEq p.a5 q.a5 p.d5 q.d5))))))))

theorem cellEq_iff (a b : Int) (x y : ByteArray) : cellEq a b x y = true ↔ a = b ∧ x = y := by
  unfold cellEq
  simp only [Bool.and_eq_true, beq_iff_eq, ByteArray.toList_eq, Array.toList_inj]
  exact and_congr_right fun _ => ⟨fun h => by cases x; cases y; cases h; rfl, fun h => by rw [h]⟩
theorem pgEq_iff (p q : Pg) : pgEq p q = true ↔ p = q := by
  cases p; cases q
  simp only [pgEq, Bool.and_eq_true, cellEq_iff, beq_iff_eq, Pg.mk.injEq]
  exact ⟨fun ⟨h1, h2, h3, h4, ⟨a, b⟩, ⟨c, d⟩, ⟨e, f⟩, ⟨g, h⟩, ⟨i, j⟩, k, l⟩ => ⟨h1, h2, h3, h4, a, b, c, d, e, f, g, h, i, j, k, l⟩, fun ⟨h1, h2, h3, h4, a, b, c, d, e, f, g, h, i, j, k, l⟩ => ⟨h1, h2, h3, h4, ⟨a, b⟩, ⟨c, d⟩, ⟨e, f⟩, ⟨g, h⟩, ⟨i, j⟩, k, l⟩⟩
theorem pgEq_self (p : Pg) : pgEq p p = true := (pgEq_iff p p).2 rfl
theorem pgEq_false {p q : Pg} (h : p ≠ q) : pgEq p q = false := by
  cases hh : pgEq p q with
  | false => rfl
  | true => exact absurd ((pgEq_iff p q).1 hh) h

theorem eqF_cons {d : Nat} {xs ys : Array Value} {f : Field} {fs : List Field} {a a' : Value} {b c : Bool} {w : World} (hn : f.name ≠ "_") (h1 : (part f.type xs f.offset).run Try.prog w = .ok a w) (h2 : (part f.type ys f.offset).run Try.prog w = .ok a' w)
    (h3 : (Op.equalIn d f.type a a').run Try.prog w = .ok b w) (h4 : (Op.eqFields d xs ys fs).run Try.prog w = .ok c w) : (Op.eqFields d xs ys (f :: fs)).run Try.prog w = .ok (b && c) w := by
  simp only [Op.eqFields, hn, ne_eq, not_false_eq_true, if_true, Sem.run_bind, h1, h2, h3, Result.andThen_ok]
  cases b
  · rfl
  · exact h4
theorem eqF_nil {d : Nat} {xs ys : Array Value} {w : World} : (Op.eqFields d xs ys []).run Try.prog w = .ok true w := rfl
theorem eqI_cons {d c' : Nat} {e : TypeId} {xs ys : Array Value} {i : Nat} {is : List Nat} {a a' : Value} {b c : Bool} {w : World} (h1 : (part e xs (i * c')).run Try.prog w = .ok a w) (h2 : (part e ys (i * c')).run Try.prog w = .ok a' w)
    (h3 : (Op.equalIn d e a a').run Try.prog w = .ok b w) (h4 : (Op.eqItems d e c' xs ys is).run Try.prog w = .ok c w) : (Op.eqItems d e c' xs ys (i :: is)).run Try.prog w = .ok (b && c) w := by
  simp only [Op.eqItems, Sem.run_bind, h1, h2, h3, Result.andThen_ok]
  cases b
  · rfl
  · exact h4
theorem eqI_nil {d c' : Nat} {e : TypeId} {xs ys : Array Value} {w : World} : (Op.eqItems d e c' xs ys []).run Try.prog w = .ok true w := rfl

theorem run_eq_cell (d : Nat) (a b : Int) (x y : ByteArray) (w : World) : (Op.equalIn (d + 2) 84 (.agg #[.int .i64 a, .string x]) (.agg #[.int .i64 b, .string y])).run Try.prog w = .ok (cellEq a b x y) w := by
  rw [run_equalIn_agg w (d + 1) 84 _ _ (by kernel_rfl) (by kernel_rfl)]
  simp only [Program.fieldsOf, Try.underlying84]
  have p0 : ∀ (v u : Value), (part 3 #[v, u] 0).run Try.prog w = .ok v w := fun v u => by kernel_rfl
  have p1 : ∀ (v u : Value), (part 9 #[v, u] 1).run Try.prog w = .ok u w := fun v u => by kernel_rfl
  have e0 := run_equalIn_int (P := Try.prog) w d 3 .i64 .i64 a b Try.underlying3
  have e1 := run_equalIn_string (P := Try.prog) w d 9 x y Try.underlying9
  have hh : cellEq a b x y = ((a == b) && ((x.toList == y.toList) && true)) := by simp [cellEq]
  rw [hh]
  exact eqF_cons (by decide) (p0 _ _) (p0 _ _) e0 (eqF_cons (by decide) (p1 _ _) (p1 _ _) e1 eqF_nil)

def pgA (p : Pg) : Array Value := #[.int .i64 p.a0, .string p.d0, .int .i64 p.a1, .string p.d1, .int .i64 p.a2, .string p.d2, .int .i64 p.a3, .string p.d3, .int .i64 p.a4, .string p.d4, .int .i64 p.a5, .string p.d5]
theorem run_eq_cells (p q : Pg) (w : World) : (Op.equalIn 9999 110 (.agg (pgA p)) (.agg (pgA q))).run Try.prog w = .ok (cellEq p.a0 q.a0 p.d0 q.d0 && (cellEq p.a1 q.a1 p.d1 q.d1 && (cellEq p.a2 q.a2 p.d2 q.d2 && (cellEq p.a3 q.a3 p.d3 q.d3 && (cellEq p.a4 q.a4 p.d4 q.d4 && cellEq p.a5 q.a5 p.d5 q.d5))))) w := by
  obtain ⟨i, hi⟩ : ∃ i, Try.prog.info? 84 = some i := info_of_underlying Try.underlying84
  have ea := run_equalIn_array (P := Try.prog) w 9998 (e := 84) (i := i) (pgA p) (pgA q) Try.underlying110 hi
  have hc2 : Try.prog.cellsOf 84 = 2 := by kernel_rfl
  rw [hc2] at ea
  refine ea.trans ?_
  have c0 : ∀ p : Pg, (part 84 (pgA p) (0 * 2)).run Try.prog w = .ok (.agg #[.int .i64 p.a0, .string p.d0]) w := fun _ => by kernel_rfl
  have c1 : ∀ p : Pg, (part 84 (pgA p) (1 * 2)).run Try.prog w = .ok (.agg #[.int .i64 p.a1, .string p.d1]) w := fun _ => by kernel_rfl
  have c2 : ∀ p : Pg, (part 84 (pgA p) (2 * 2)).run Try.prog w = .ok (.agg #[.int .i64 p.a2, .string p.d2]) w := fun _ => by kernel_rfl
  have c3 : ∀ p : Pg, (part 84 (pgA p) (3 * 2)).run Try.prog w = .ok (.agg #[.int .i64 p.a3, .string p.d3]) w := fun _ => by kernel_rfl
  have c4 : ∀ p : Pg, (part 84 (pgA p) (4 * 2)).run Try.prog w = .ok (.agg #[.int .i64 p.a4, .string p.d4]) w := fun _ => by kernel_rfl
  have c5 : ∀ p : Pg, (part 84 (pgA p) (5 * 2)).run Try.prog w = .ok (.agg #[.int .i64 p.a5, .string p.d5]) w := fun _ => by kernel_rfl
  have hk := fun a b x y => run_eq_cell 9996 a b x y w
  have h := eqI_cons (i := 0) (c0 p) (c0 q) (hk _ _ _ _) (eqI_cons (i := 1) (c1 p) (c1 q) (hk _ _ _ _) (eqI_cons (i := 2) (c2 p) (c2 q) (hk _ _ _ _) (eqI_cons (i := 3) (c3 p) (c3 q) (hk _ _ _ _) (eqI_cons (i := 4) (c4 p) (c4 q) (hk _ _ _ _) (eqI_cons (i := 5) (c5 p) (c5 q) (hk _ _ _ _) eqI_nil)))))
  rw [Bool.and_true] at h
  exact h

theorem run_eq_page (p q : Pg) (w : World) : (Op.equalIn 10000 112 p.v q.v).run Try.prog w = .ok (pgEq p q) w := by
  unfold Pg.v
  rw [show (10000 : Nat) = 9999 + 1 from rfl, run_equalIn_agg w 9999 112 _ _ (by kernel_rfl) (by kernel_rfl)]
  simp only [Program.fieldsOf, Try.underlying112]
  have p0 : ∀ (p : Pg), (part 3 p.cs 0).run Try.prog w = .ok (.int .i64 p.k) w := fun p => by kernel_rfl
  have p1 : ∀ (p : Pg), (part 3 p.cs 1).run Try.prog w = .ok (.int .i64 p.l) w := fun p => by kernel_rfl
  have p2 : ∀ (p : Pg), (part 3 p.cs 2).run Try.prog w = .ok (.int .i64 p.s) w := fun p => by kernel_rfl
  have p3 : ∀ (p : Pg), (part 3 p.cs 3).run Try.prog w = .ok (.int .i64 p.n) w := fun p => by kernel_rfl
  have p4 : ∀ (p : Pg), (part 110 p.cs 4).run Try.prog w = .ok (.agg (pgA p)) w := fun p => by kernel_rfl
  have e := fun a b => run_equalIn_int (P := Try.prog) w 9998 3 .i64 .i64 a b Try.underlying3
  have hh : pgEq p q = ((p.k == q.k) && ((p.l == q.l) && ((p.s == q.s) && ((p.n == q.n) && ((cellEq p.a0 q.a0 p.d0 q.d0 && (cellEq p.a1 q.a1 p.d1 q.d1 && (cellEq p.a2 q.a2 p.d2 q.d2 && (cellEq p.a3 q.a3 p.d3 q.d3 && (cellEq p.a4 q.a4 p.d4 q.d4 && cellEq p.a5 q.a5 p.d5 q.d5))))) && true))))) := by rw [Bool.and_true]; rfl
  rw [hh]
  exact eqF_cons (by decide) (p0 p) (p0 q) (e _ _) (eqF_cons (by decide) (p1 p) (p1 q) (e _ _) (eqF_cons (by decide) (p2 p) (p2 q) (e _ _) (eqF_cons (by decide) (p3 p) (p3 q) (e _ _) (eqF_cons (by decide) (p4 p) (p4 q) (run_eq_cells p q w) eqF_nil))))

theorem eqGuardPg : Try.prog.eqGuardType Try.prog.depth 112 = false := by kernel_rfl
@[go_sem] theorem run_eqGuard_page (op : BinOp) (x y : Operand) (p q : Pg) (w : World) : (eqGuard op 112 x y p.v q.v).run Try.prog w = .ok () w := run_eqGuard_agg w op 112 x y p.cs q.cs eqGuardPg
def neqPg (p q : Pg) : Bool := !pgEq p q
@[go_sem] theorem run_neq_page (p q : Pg) (w : World) : (Go.binOp .neq 112 p.v q.v).run Try.prog w = .ok (.bool (!pgEq p q)) w := by
  have h := run_neq_struct (P := Try.prog) w 112 p.cs q.cs
  have e := run_eq_page p q w
  unfold Pg.v at e ⊢
  rw [h, e]
  rfl
@[go_sem] theorem run_eql_page (p q : Pg) (w : World) : (Go.binOp .eql 112 p.v q.v).run Try.prog w = .ok (.bool (pgEq p q)) w := by
  have h := run_eql_struct (P := Try.prog) w 112 p.cs q.cs
  have e := run_eq_page p q w
  unfold Pg.v at e ⊢
  rw [h, e]
  rfl
end

/-!
  Layer 13 (stage): the contract of Stage.Images where the shelf below has every page that is set.
-/
section
open Go.RowKit Go.Joins
set_option linter.unusedVariables false
set_option linter.unusedSimpArgs false

/-- an image as a value -/
def imgCs (id : Int) (p : Pg) : Array Value := #[.int .i64 id, .int .i64 p.k, .int .i64 p.l, .int .i64 p.s, .int .i64 p.n, .int .i64 p.a0, .string p.d0, .int .i64 p.a1, .string p.d1, .int .i64 p.a2, .string p.d2, .int .i64 p.a3, .string p.d3, .int .i64 p.a4, .string p.d4, .int .i64 p.a5, .string p.d5]
def imgV (id : Int) (p : Pg) : Value := .agg (imgCs id p)
@[go_sem] theorem imgV_cells (id : Int) (p : Pg) : (imgV id p).cells = imgCs id p := rfl
@[go_sem] theorem imgCs_size (id : Int) (p : Pg) : (imgCs id p).size = 17 := rfl
@[go_sem] theorem imgCs_len (id : Int) (p : Pg) : (imgCs id p).toList.length = 17 := rfl
def buildImg (parts : Array (Nat × Value)) : Sem Value := Instr.build 184 parts
@[go_sem ↓] theorem buildImg_eq (parts : Array (Nat × Value)) : Instr.build 184 parts = buildImg parts := rfl
@[go_sem] theorem run_buildImg (w : World) (id : Int) (p : Pg) : (buildImg #[(0, .int .i64 id), (1, p.v)]).run Try.prog w = .ok (imgV id p) w := by kernel_rfl
def rowImg (parts : Array (Nat × Value)) : Sem Value := Instr.buildSlice 141 1 parts
@[go_sem ↓] theorem rowImg_eq (parts : Array (Nat × Value)) : Instr.buildSlice 141 1 parts = rowImg parts := rfl
@[go_sem] theorem run_rowImg (w : World) (id : Int) (p : Pg) : (rowImg #[(0, imgV id p)]).run Try.prog w = .ok (.slice (some ⟨w.heap.size, 0, none⟩) 1 1) (w.alloc (.cells (imgCs id p) 184)) := by kernel_rfl

theorem infoImg : (Try.prog.info? 184).map (fun i => (i.zero, i.size, i.bytes)) = some (some (imgV 0 Pg.zero), 17, 184) := by kernel_rfl

/-- the images of some pages of a stage -/
def imgs (S : Vol) (L : List Int) : List (Int × Pg) := (L.filter fun id => !pgEq (shelfPg S.base id) (stPg S id)).map fun id => (id, stPg S id)
def imgRow (l : List (Int × Pg)) : List Value := l.flatMap fun x => (imgCs x.1 x.2).toList
theorem imgRow_len (l : List (Int × Pg)) : (imgRow l).length = l.length * 17 := by
  induction l with
  | nil => rfl
  | cons x r ih =>
    have e : imgRow (x :: r) = (imgCs x.1 x.2).toList ++ imgRow r := rfl
    rw [e, List.length_append, ih, imgCs_len, List.length_cons]; omega
theorem imgRow_snoc (l : List (Int × Pg)) (x : Int × Pg) : imgRow (l ++ [x]) = imgRow l ++ (imgCs x.1 x.2).toList := by
  simp [imgRow]
theorem imgs_snoc (S : Vol) (L : List Int) (id : Int) : imgs S (L ++ [id]) = if pgEq (shelfPg S.base id) (stPg S id) then imgs S L else imgs S L ++ [(id, stPg S id)] := by
  unfold imgs
  rw [List.filter_append, List.map_append]
  cases h : pgEq (shelfPg S.base id) (stPg S id) <;> simp [h]
theorem imgs_len (S : Vol) (L : List Int) : (imgs S L).length ≤ L.length := by
  unfold imgs
  rw [List.length_map]
  exact List.length_filter_le _ _

/-- what holds of a stage's map: no number twice, each of a page -/
structure Vol.Ok (S : Vol) : Prop where
  once : (S.M.map (·.1)).Nodup
  range : ∀ x ∈ S.M, 0 ≤ x.1 ∧ x.1 < 1024

theorem own_low {w w' : World} {base n : Nat} {e : TypeId} {v : Value} {xs : List Value} {s : Nat} (h : w.ownsRow base e s v n xs) (hb : Below w.heap.size w w') : w'.ownsRow base e s v n xs := h.kept (row := none) ⟨hb.os, hb.tape, hb.output, hb.size, fun i hi _ => hb.block i hi⟩ (by cases v.ownBlock <;> simp)
theorem own_ne {w : World} {b b' s s' n n' : Nat} {e e' : TypeId} {v v' : Value} {xs xs' : List Value} (h : w.ownsRow b e s v n xs) (h' : w.ownsRow b' e' s' v' n' xs') (he : e ≠ e') : v.ownBlock = none ∨ v.ownBlock ≠ v'.ownBlock := by
  rcases h.2 with ⟨rfl, _⟩ | ⟨g, cap, cur, rfl, _, hg, _⟩
  · exact .inl rfl
  rcases h'.2 with ⟨rfl, _⟩ | ⟨g', cap', cur', rfl, _, hg', _⟩
  · exact .inr (by simp [Value.ownBlock])
  refine .inr fun h => he ?_
  simp only [Value.ownBlock, Option.some.injEq] at h
  subst h
  rw [hg] at hg'
  simp at hg'
  exact hg'.2

theorem pigeon : ∀ (n : Nat) (l : List Nat), l.Nodup → (∀ x ∈ l, x < n) → l.length ≤ n
  | 0, l, _, h => by
    cases l with
    | nil => exact Nat.le_refl _
    | cons x r => exact absurd (h x (List.mem_cons_self ..)) (by omega)
  | n + 1, l, hn, h => by
    have h1 := pigeon n (l.erase n) (hn.erase n) fun x hx => by
      have h2 := (List.Nodup.mem_erase_iff hn).1 hx
      have h3 := h x h2.2
      have h4 := h2.1
      omega
    have h5 := List.length_erase (a := n) (l := l)
    split at h5 <;> omega
theorem nodup_range : ∀ (l : List Int), l.Nodup → (∀ x ∈ l, 0 ≤ x ∧ x < 1024) → l.length ≤ 1024 := by
  intro l hn hr
  have h1 : (l.map Int.toNat).Nodup := by
    refine List.pairwise_map.2 (hn.imp_of_mem fun {a b} ha hb hab e => hab ?_)
    have := hr a ha; have := hr b hb; omega
  have := pigeon 1024 (l.map Int.toNat) h1 fun x hx => by
    obtain ⟨y, hy, rfl⟩ := List.mem_map.1 hx
    have := hr y hy
    omega
  simpa using this
theorem Vol.Ok.len {S : Vol} (h : S.Ok) : S.M.length ≤ 1024 := by
  have := nodup_range (S.M.map (·.1)) h.once (fun x hx => by obtain ⟨y, hy, rfl⟩ := List.mem_map.1 hx; exact h.range y hy)
  simpa using this
theorem getM_mem {S : Vol} {id : Int} (h : id ∈ S.M.map (·.1)) : ∃ p, getM S id = some p := by
  obtain ⟨x, hx, rfl⟩ := List.mem_map.1 h
  unfold getM
  cases hf : S.M.find? (fun y => y.1 == x.1) with
  | some y => exact ⟨_, rfl⟩
  | none => have := List.find?_eq_none.1 hf x hx; simp at this
theorem mem_updM {k : Int} {p : Pg} {M : List (Int × Pg)} {x : Int} : x ∈ (updM k p M).map (·.1) ↔ x = k ∨ x ∈ M.map (·.1) := by
  induction M with
  | nil => simp [updM]
  | cons y r ih =>
    unfold updM
    by_cases h : k = y.1
    · rw [if_pos h]; simp [h]
    · rw [if_neg h]
      simp only [List.map_cons, List.mem_cons, ih]
      exact ⟨fun h => by rcases h with h | h | h <;> simp [h], fun h => by rcases h with h | h | h <;> simp [h]⟩
theorem once_updM {k : Int} {p : Pg} {M : List (Int × Pg)} (h : (M.map (·.1)).Nodup) : ((updM k p M).map (·.1)).Nodup := by
  induction M with
  | nil => simp [updM]
  | cons y r ih =>
    have hn := List.nodup_cons.1 h
    unfold updM
    by_cases hk : k = y.1
    · rw [if_pos hk]
      simp only [List.map_cons, hk]
      exact List.nodup_cons.2 hn
    · rw [if_neg hk]
      simp only [List.map_cons]
      refine List.nodup_cons.2 ⟨fun hm => ?_, ih hn.2⟩
      rcases mem_updM.1 hm with e | e
      · exact hk e.symm
      · exact hn.1 e
theorem range_updM {k : Int} {p : Pg} {M : List (Int × Pg)} (hk : 0 ≤ k ∧ k < 1024) (h : ∀ x ∈ M, 0 ≤ x.1 ∧ x.1 < 1024) : ∀ x ∈ updM k p M, 0 ≤ x.1 ∧ x.1 < 1024 := by
  induction M with
  | nil => intro x hx; simp [updM] at hx; subst hx; exact hk
  | cons y r ih =>
    unfold updM
    split
    · intro x hx
      rcases List.mem_cons.1 hx with rfl | hx
      · exact hk
      · exact h x (List.mem_cons_of_mem _ hx)
    · intro x hx
      rcases List.mem_cons.1 hx with rfl | hx
      · exact h _ (List.mem_cons_self ..)
      · exact ih (fun z hz => h z (List.mem_cons_of_mem _ hz)) x hx
theorem Vol.Ok.put {S : Vol} (h : S.Ok) (id : Int) (p : Pg) (h0 : 0 ≤ id) (h1 : id < 1024) : (S.put id p).Ok :=
  ⟨once_updM h.once, range_updM ⟨h0, h1⟩ h.range⟩
theorem Vol.Ok.nil (l : List Pg) : Vol.Ok ⟨l, []⟩ := ⟨by simp, by simp⟩

/-- the keys, sorted -/
def Vol.keys (S : Vol) : List Int := sortK (S.M.map fun x => (x.1, x.2.v))
theorem Vol.mem_keys (S : Vol) (x : Int) : x ∈ S.keys ↔ x ∈ S.M.map (·.1) := by
  unfold Vol.keys
  rw [sortK_mem, List.map_map]
  rfl
theorem Vol.keys_len (S : Vol) : S.keys.length = S.M.length := by simp [Vol.keys, sortK_length]

theorem lookup1_some {S : Vol} {b mb hb pb : Nat} {w : World} (h : StageAt w b mb hb pb S) {id : Int} {p : Pg} (hp : getM S id = some p) :
    (Instr.lookup 137 (.map (some mb)) (.int .i64 id) false).run Try.prog w = .ok p.v w := by
  rw [run_lookup1_int Try.underlying137 Try.underlying3 _ mb _ id _ (zeroPage _) h.2.1]
  have e := findI_M S.M id 0
  have e2 : (S.M.find? fun x => x.1 == id).map (·.2) = some p := hp
  rw [e2] at e
  cases hf : findI id (S.M.map fun x => (x.1, x.2.v)) 0 with
  | none => rw [hf] at e; cases e
  | some x => rw [hf] at e; simp at e; simp [e]
theorem StageAt.drew {w : World} {b mb hb pb : Nat} {S : Vol} (h : StageAt w b mb hb pb S) : StageAt w.drew b mb hb pb S := h

def ImagesAt (S : Vol) (b mb hb pb : Nat) (L : List Int) (B1 B2 : Nat) (kv l : Value) (w0 : World) (k : Nat) (wr : World) : Prop :=
  k ≤ L.length ∧ StageAt wr b mb hb pb S ∧ Below w0.heap.size w0 wr ∧ wr.ownsRow B1 3 1 kv L.length (L.map encZ) ∧ wr.ownsRow B2 184 17 l (imgs S (L.take k)).length (imgRow (imgs S (L.take k)))

set_option maxHeartbeats 4000000 in
set_option maxRecDepth 100000 in
theorem images_ok (S : Vol) (b mb hb pb : Nat) (w : World) (hs : StageAt w b mb hb pb S) (hok : S.Ok) (hbase : ∀ x ∈ S.M, shelfE S.base x.1 = 0) :
    Calls Try.prog 72 #[.pointer (some ⟨b, 0, none⟩)] w fun e w' => ∃ v, e = .returned (.tuple #[v, .int .i64 0]) ∧ Below w.heap.size w w' ∧ w'.ownsRow w.heap.size 184 17 v (imgs S S.keys).length (imgRow (imgs S S.keys)) := by
  obtain ⟨l1, l2, l3, l4⟩ := hs.lt
  have hlen := hok.len
  have HK := Lib.hid (fun W => keys_plain (some mb) W)
  have HSo := Lib.hid (fun W Bm (h : StageAt W b mb hb pb S) hB hm => sorted_plain mb Bm _ W h.2.1 (by intro x hx; obtain ⟨y, hy, rfl⟩ := List.mem_map.1 hx; exact hok.range y hy) (by rw [List.length_map]; exact hlen) hB hm)
  have hkl : S.keys.length ≤ 1024 := by rw [Vol.keys_len]; exact hlen
  have HM := Lib.hid (fun id (h : id ∈ S.keys) => getM_mem ((Vol.mem_keys S id).1 h))
  have he : ∀ id ∈ S.keys, shelfE S.base id = 0 := fun id h => by
    obtain ⟨x, hx, rfl⟩ := List.mem_map.1 ((Vol.mem_keys S id).1 h)
    exact hbase x hx
  have HE := Lib.hid he
  have hkeys : sortK (S.M.map fun x => (x.1, x.2.v)) = S.keys := rfl
  have hml : (S.M.map fun x => (x.1, x.2.v)).length = S.keys.length := by rw [Vol.keys_len, List.length_map]
  rw [hkeys, hml] at HSo
  have HS := Lib.hid hs
  have c1 := cell_of_block hs.1 1
  simp only [List.getElem?_toArray, List.getElem?_cons_succ, List.getElem?_cons_zero] at c1
  have m1 := meth_shelf
  obtain ⟨i0, hi, hz0, hz1, hz2⟩ := info_parts infoImg
  clear hs hok hbase hkeys hml hlen he
  generalize S.keys = L at *
  go_enter Try.func72, Try.ntmps72
  go_wp2_with fail
  refine (HK.out _).mono ?_; rintro e w1 ⟨rfl, rfl⟩
  go_wp2_with fail
  refine (HSo.out _ _ (HS.out.below ((Below.refl w.heap.size w).alloc (Nat.le_refl _) _) ⟨l1, l2, l3, l4⟩) (by go_size) (by simp [go_sem])).mono ?_; rintro e w2 ⟨kv, rfl, hkv, hb2⟩
  have hz := hb2.size
  simp only [World.size_alloc] at hz
  have hBW : Below w.heap.size w w2 := ((Below.refl w.heap.size w).alloc (Nat.le_refl _) (.cells #[.map (some mb)] 137)).trans (hb2.mono (by go_size))
  have HA : Hid (ImagesAt S b mb hb pb L (w.heap.size + 1) w.heap.size kv (.slice none 0 0) w 0 w2) :=
    Lib.hid ⟨Nat.zero_le _, HS.out.below hBW ⟨l1, l2, l3, l4⟩, hBW, by simpa using hkv, by simp only [List.take_zero]; exact World.ownsRow_nil _ _ _ _⟩
  obtain ⟨vp, vc, hv⟩ : ∃ vp vc, kv = .slice vp L.length vc := by
    rcases ownsRow_forms hkv with ⟨h1, h2⟩ | ⟨g, c, h1⟩
    · exact ⟨_, _, by rw [h1, h2]⟩
    · exact ⟨_, _, h1⟩
  subst hv
  clear hkv hb2 hBW
  go_wp2_with fail
  go_loopw [4, 18] (fun l i wr => ∃ j : Nat, i = .int .i64 j ∧ ImagesAt S b mb hb pb L (w.heap.size + 1) w.heap.size (.slice vp L.length vc) l w j wr) (fun _ i _ => L.length - (intOf i).toNat)
  case atStart => exact ⟨0, rfl, HA.out⟩
  case round =>
    obtain ⟨j, rfl, hj, h3, h4, h5, h6⟩ := hrel
    clear HA
    obtain ⟨q1, q2, q3, q4⟩ := h3.lt
    have hsw := h4.size
    by_cases hlt : j < L.length
    · obtain ⟨g, hv⟩ : ∃ g, vp = some ⟨g, 0, none⟩ := by
        obtain ⟨g, cap, hv⟩ := ownsRow_form h5 (by omega)
        simp only [Value.slice.injEq] at hv
        exact ⟨g, hv.1⟩
      subst hv
      have hc := (h5.cellAt j (by omega)).trans (show (L.map encZ)[j]? = some (.int .i64 L[j]) by simp [hlt])
      have c0 := cell_of_block h3.1 0
      have c1 := cell_of_block h3.1 1
      simp only [List.getElem?_toArray, List.getElem?_cons_succ, List.getElem?_cons_zero] at c0 c1
      have hmem : L[j] ∈ L := List.getElem_mem hlt
      have he := HE.out _ hmem
      obtain ⟨p, hp⟩ := HM.out _ hmem
      have hst : stPg S L[j] = p := by unfold stPg; rw [hp]
      have HG := Lib.hid (fun w' h => shelfGet_any hb pb S.base L[j] w' h)
      rw [he] at HG
      have HL := Lib.hid (fun w' (h : StageAt w' b mb hb pb S) => lookup1_some h hp)
      have htk : L.take (j + 1) = L.take j ++ [L[j]] := by rw [List.take_succ_eq_append_getElem hlt]
      have hsn := imgs_snoc S (L.take j) L[j]
      rw [← htk, hst] at hsn
      have hil := imgs_len S (L.take j)
      have htl : (L.take j).length ≤ j := List.length_take_le _ _
      obtain ⟨old, hold⟩ : ∃ old, shelfPg S.base L[j] = old := ⟨_, rfl⟩
      rw [hold] at HG hsn
      clear hmem he hp hst hold htk
      generalize L[j] = id at *
      have HSn := Lib.hid hsn
      have HS3 := Lib.hid h3
      have HB4 := Lib.hid h4
      have HO5 := Lib.hid h5
      have HO6 := Lib.hid h6
      clear h3 h4 h5 h6 hsn
      go_wp2_with fail
      refine (HG.out _ HS3.out.2.2.1).mono ?_; rintro e w3 ⟨rfl, hb3⟩
      have hz3 := hb3.size
      have hst3 := HS3.out.below hb3 ⟨q1, q2, q3, q4⟩
      have d0 := (hb3.cell (p := ⟨b, 0, none⟩) q1).trans c0
      have d1 := (hb3.cell (p := ⟨b, 1, none⟩) q1).trans c1
      have hl3 := HL.out _ (hst3.below ((Below.refl w3.heap.size w3).alloc (Nat.le_refl _) (.cells old.cs 112)) ⟨by omega, by omega, by omega, by omega⟩).drew
      have ho5 := Lib.hid (own_low HO5.out hb3)
      have ho6 := own_low HO6.out hb3
      have HST := Lib.hid hst3
      have HB5 := Lib.hid (HB4.out.trans (hb3.mono hsw))
      have d2 := (((Below.refl w3.heap.size w3).alloc (Nat.le_refl _) (.cells old.cs 112)).cell (p := ⟨b, 1, none⟩) (by simp; omega)).trans d1
      clear hb3 hst3 c0 c1 HO5 HO6
      go_wp2_with fail
      cases heq : pgEq old p with
      | true =>
        rw [heq] at HSn
        simp only [if_true] at HSn
        have HQ := Lib.hid heq
        go_region
        go_wp2_with fail
        go_roundw
        case rel => exact ⟨j + 1, by go_num, by omega, (HST.out.below ((Below.refl w3.heap.size w3).alloc (Nat.le_refl _) (.cells old.cs 112)) ⟨by omega, by omega, by omega, by omega⟩).drew, (HB5.out.alloc (by omega) _).drew, ho5.out.alloc _, by rw [HSn.out]; exact (ho6.alloc _)⟩
        case measure => simp [intOf]; omega
      | false =>
        rw [heq] at HSn
        have HQ := Lib.hid heq
        go_region
        have hown := (ho6.alloc (.cells old.cs 112)).drew
        clear ho6
        go_wp2_with (at_builtin; refine wpList_append_own _ rfl _ _ 141 rfl w.heap.size 184 i0 _ 17 184 Try.underlying141 hi hz0 hz1 hz2 rfl (by decide) _ _ _ rfl (hown.alloc _) ⟨w3.heap.size + 1, 0, none⟩ 1 1 (imgCs id p).toList rfl rfl ?c1 ?c2 ?c3 ?c4 ?c5 ?_)
        case c1 =>
          have hn := heap_alloc_new (w3.alloc (.cells old.cs 112)) (.cells (imgCs id p) 184)
          rw [World.size_alloc] at hn
          exact World.news_of_block (w := ((w3.alloc (.cells old.cs 112)).alloc (.cells (imgCs id p) 184)).drew) hn
        case c2 => intro u hu; simp [imgCs] at hu; rcases hu with rfl | rfl | rfl | rfl | rfl | rfl | rfl | rfl | rfl | rfl | rfl | rfl | rfl | rfl | rfl | rfl | rfl <;> rfl
        case c3 => simp only [maxLen]; omega
        case c4 => omega
        case c5 => first | omega | (simp; omega)
        intro v' w5 hown' hgrow _
        have B6 : Below w.heap.size w w5 := (((HB5.out.alloc (by omega) (.cells old.cs 112)).alloc (by simp; omega) (.cells (imgCs id p) 184)).drew).grown hgrow (by simp; omega) (fun q hq => (hown.lt q hq).1)
        have K5 : w5.ownsRow (w.heap.size + 1) 3 1 (.slice (some ⟨g, 0, none⟩) L.length vc) L.length (L.map encZ) := by
          refine (((ho5.out.alloc (.cells old.cs 112)).alloc (.cells (imgCs id p) 184)).drew).kept hgrow ?_
          exact own_ne (((ho5.out.alloc (.cells old.cs 112)).alloc (.cells (imgCs id p) 184)).drew) ((hown.alloc (.cells (imgCs id p) 184)).drew) (by decide)
        have H5 := Lib.hid hown'
        have HB6 := Lib.hid B6
        have HK5 := Lib.hid K5
        have HSm := Lib.hid (HS.out.below B6 ⟨l1, l2, l3, l4⟩)
        clear hown hgrow hown' B6 K5
        go_wp2_with fail
        go_roundw
        case rel => exact ⟨j + 1, by go_num, by omega, HSm.out, HB6.out, HK5.out, by rw [HSn.out]; simp only [Bool.false_eq_true, if_false, List.length_append, List.length_singleton, imgRow_snoc]; exact H5.out⟩
        case measure => simp [intOf]; omega
    · have hje : j = L.length := by omega
      subst hje
      rw [List.take_length] at h6
      have HB4 := Lib.hid h4
      have HO6 := Lib.hid h6
      clear h3 h4 h5 h6
      go_wp2_with fail
      go_ret2
      exact ⟨_, rfl, HB4.out, HO6.out⟩
end

/-!
  Layer 13 (stage): the contracts of Shelf.Apply (images that fit) and Stage.Drop.
-/
section
open Go.RowKit Go.Joins
set_option linter.unusedVariables false
set_option linter.unusedSimpArgs false

@[go_sem] theorem imgCs_0 (id : Int) (p : Pg) : (imgCs id p)[0]? = some (.int .i64 id) := rfl
/-- loads, stores and new variables of an image's type, under names that the walk does not open -/
def loadImg (a : Value) : Sem Value := Instr.loadAt 184 a
def storeImg (a v : Value) : Sem Unit := Instr.storeAt 184 a v
def allocImg : Sem Value := Instr.alloc 184 true (.tuple #[])
@[go_sem ↓] theorem loadImg_eq (a : Value) : Instr.loadAt 184 a = loadImg a := rfl
@[go_sem ↓] theorem storeImg_eq (a v : Value) : Instr.storeAt 184 a v = storeImg a v := rfl
@[go_sem ↓] theorem allocImg_eq : Instr.alloc 184 true (.tuple #[]) = allocImg := rfl
@[go_sem] theorem run_allocImg (w : World) : allocImg.run Try.prog w = .ok (.pointer (some ⟨w.heap.size, 0, none⟩)) (w.alloc (.cells (imgCs 0 Pg.zero) 184)) := by kernel_rfl
theorem sizeImg : (Try.prog.info? 184).map (·.size) = some 17 := by kernel_rfl
def row17 (o : Option (Array Value)) : Bool := match o with | some c => c.size == 17 | none => false
@[go_sem] theorem row17_img (id : Int) (p : Pg) : row17 (some (imgCs id p)) = true := rfl
@[go_sem] theorem run_storeImg (w : World) (n : Nat) (id : Int) (p : Pg) (h : row17 (rowAt w n) = true) : (storeImg (.pointer (some ⟨n, 0, none⟩)) (imgV id p)).run Try.prog w = .ok () (w.setRow n (imgCs id p)) := by
  have hv : (storeVar 184 ⟨n, 0, none⟩ (imgV id p)).run Try.prog w = .ok () (w.setRow n (imgCs id p)) := by
    cases hr : rowAt w n with
    | none => rw [hr] at h; cases h
    | some c =>
      rw [hr] at h
      obtain ⟨t, ht⟩ := rowAt_heap hr
      have hs : c.size = 17 := by simpa [row17] using h
      have hst := run_storeCells_at Try.prog n 0 t (imgCs id p).toList 0 c w ht (by simp [hs, imgCs_size]) (by intro u hu; simp [imgCs] at hu; rcases hu with rfl | rfl | rfl | rfl | rfl | rfl | rfl | rfl | rfl | rfl | rfl | rfl | rfl | rfl | rfl | rfl | rfl <;> rfl)
      have e : c.toList.drop (0 + 0 + (imgCs id p).toList.length) = [] := by simp [hs, imgCs_size]
      rw [e] at hst
      cases hq : Try.prog.info? 184 with
      | none => have := sizeImg; simp [hq] at this
      | some i =>
        have hi : i.size = 17 := by have := sizeImg; simpa [hq] using this
        simp only [List.take_zero, List.nil_append, List.append_nil, Nat.add_zero, Array.toArray_toList] at hst
        simp [storeVar, Sem.run_bind, sizeOf, typeInfo, hq, hi, imgV_cells, imgCs_size, hst]
  simp only [storeImg, Instr.storeAt, Instr.sureAddr, Sem.run_bind, Sem.run_pure, Result.andThen_ok, hv]

theorem imgRow_get (I : List (Int × Pg)) (j k : Nat) (hj : j < I.length) (hk : k < 17) : (imgRow I)[j * 17 + k]? = (imgCs I[j].1 I[j].2).toList[k]? := by
  induction I generalizing j with
  | nil => simp at hj
  | cons x r ih =>
    have e : imgRow (x :: r) = (imgCs x.1 x.2).toList ++ imgRow r := rfl
    cases j with
    | zero =>
      rw [e, List.getElem?_append_left (by rw [imgCs_len]; omega)]
      simp
    | succ j =>
      rw [e, List.getElem?_append_right (by rw [imgCs_len]; omega), imgCs_len, show (j + 1) * 17 + k - 17 = j * 17 + k from by omega]
      exact ih j (by simpa using hj)
/-- an image read out of a slice of images -/
theorem load_img {w : World} {B g n c : Nat} {I : List (Int × Pg)} (h : w.ownsRow B 184 17 (.slice (some ⟨g, 0, none⟩) n c) n (imgRow I)) (j : Nat) (hj : j < I.length) :
    (loadImg (.pointer (some ⟨g, j * 17, none⟩))).run Try.prog w = .ok (imgV I[j].1 I[j].2) w := by
  have hl := h.1
  rw [imgRow_len] at hl
  exact run_loadAt_mid w g (j * 17) 184 (imgCs I[j].1 I[j].2).toList _ (fun k v hv => by
    have hk : k < 17 := (List.getElem?_eq_some_iff.1 hv).1
    rw [h.cellAt (j * 17 + k) (by omega), imgRow_get I j k hj hk]
    exact hv) Try.underlying184 rfl sizeImg
/-- the page of an image in a variable -/
theorem load_imgPage {w : World} {n : Nat} {id : Int} {p : Pg} (h : rowAt w n = some (imgCs id p)) : (loadPg (.pointer (some ⟨n, 1, none⟩))).run Try.prog w = .ok p.v w := by
  exact run_loadAt_mid w n 1 112 p.cs.toList _ (fun k v hv => by
    rw [cell_row h]
    have hk : k < 16 := (List.getElem?_eq_some_iff.1 hv).1
    have h16 : k = 0 ∨ k = 1 ∨ k = 2 ∨ k = 3 ∨ k = 4 ∨ k = 5 ∨ k = 6 ∨ k = 7 ∨ k = 8 ∨ k = 9 ∨ k = 10 ∨ k = 11 ∨ k = 12 ∨ k = 13 ∨ k = 14 ∨ k = 15 := by omega
    rw [← hv]
    rcases h16 with rfl | rfl | rfl | rfl | rfl | rfl | rfl | rfl | rfl | rfl | rfl | rfl | rfl | rfl | rfl | rfl <;> rfl) Try.underlying112 rfl infoPage

theorem rowsC_set (l : List Pg) (i : Nat) (hi : i < l.length) (p : Pg) : rowsC (l.set i p) = (rowsC l).take (i * 16) ++ p.cs.toList ++ (rowsC l).drop (i * 16 + 16) := by
  induction l generalizing i with
  | nil => simp at hi
  | cons q r ih =>
    have e : rowsC (q :: r) = q.cs.toList ++ rowsC r := rfl
    have e16 : q.cs.toList.length = 16 := rfl
    cases i with
    | zero =>
      have e2 : rowsC ((q :: r).set 0 p) = p.cs.toList ++ rowsC r := rfl
      rw [e2, e, Nat.zero_mul, List.take_zero, List.nil_append, Nat.zero_add, ← e16, List.drop_left]
    | succ i =>
      have e2 : rowsC ((q :: r).set (i + 1) p) = q.cs.toList ++ rowsC (r.set i p) := rfl
      rw [e2, e, ih i (by simpa using hi), show (i + 1) * 16 = q.cs.toList.length + i * 16 from by rw [e16]; omega, List.take_length_add_append, show q.cs.toList.length + i * 16 + 16 = q.cs.toList.length + (i * 16 + 16) from by omega, List.drop_length_add_append]
      simp only [List.append_assoc]
theorem store_shelf {w : World} {pb : Nat} {l : List Pg} (h : w.heap[pb]? = some (.cells (rowsC l).toArray 112)) (i : Nat) (hi : i < l.length) (p : Pg) :
    (storePg (.pointer (some ⟨pb, i * 16, none⟩)) p.v).run Try.prog w = .ok () (w.setRow pb (rowsC (l.set i p)).toArray) := by
  have hv : (storeVar 112 ⟨pb, i * 16, none⟩ p.v).run Try.prog w = .ok () (w.setRow pb (rowsC (l.set i p)).toArray) := by
    have hst := run_storeCells_at Try.prog pb (i * 16) 112 p.cs.toList 0 (rowsC l).toArray w h (by simp [rowsC_size, Pg.size_cs]; omega) (by intro u hu; simp [Pg.cs] at hu; rcases hu with rfl | rfl | rfl | rfl | rfl | rfl | rfl | rfl | rfl | rfl | rfl | rfl | rfl | rfl | rfl | rfl <;> rfl)
    have e16 : p.cs.toList.length = 16 := rfl
    rw [e16] at hst
    simp only [Nat.add_zero] at hst
    rw [rowsC_set l i hi p]
    cases hq : Try.prog.info? 112 with
    | none => have := infoPage; simp [hq] at this
    | some f =>
      have hf : f.size = 16 := by have := infoPage; simpa [hq] using this
      simp [storeVar, Sem.run_bind, sizeOf, typeInfo, hq, hf, Pg.cells_v, Pg.size_cs, hst]
  simp only [storePg, Instr.storeAt, Instr.sureAddr, Sem.run_bind, Sem.run_pure, Result.andThen_ok, hv]

/-- images applied to a shelf's pages -/
def appl (l : List Pg) (I : List (Int × Pg)) : List Pg := I.foldl (fun l x => l.set x.1.toNat x.2) l
theorem appl_length (l : List Pg) (I : List (Int × Pg)) : (appl l I).length = l.length := by
  unfold appl
  induction I generalizing l with
  | nil => rfl
  | cons x r ih => rw [List.foldl_cons, ih, List.length_set]
theorem appl_snoc (l : List Pg) (I : List (Int × Pg)) (x : Int × Pg) : appl l (I ++ [x]) = (appl l I).set x.1.toNat x.2 := by simp [appl]

theorem ShelfAt.set {w : World} {hb pb : Nat} {l : List Pg} (h : ShelfAt w hb pb l) (i : Nat) (p : Pg) : ShelfAt (w.setRow pb (rowsC (l.set i p)).toArray) hb pb (l.set i p) := by
  obtain ⟨h1, h2, h3, h4, h5⟩ := h
  refine ⟨?_, ?_, h3, by simpa using h4, by simpa using h5⟩
  · rw [List.length_set, setRow_other w pb hb _ h3]; exact h1
  · exact setRow_heap w pb _ _ _ (0, 0) h2
theorem grown_drew {w w' : World} {r : Option Nat} (h : w.grownBy w' r) : w.grownBy w'.drew r := ⟨h.os, h.tape, h.output, h.size, h.block⟩
theorem grown_setRow {w w' : World} {pb : Nat} (h : w.grownBy w' (some pb)) (c : Array Value) : w.grownBy (w'.setRow pb c) (some pb) :=
  ⟨h.os, h.tape, h.output, by simpa [World.setRow] using h.size, fun i hi hne => by
    rw [← h.block i hi hne]
    exact setRow_other w' pb i c (by intro e; subst e; exact hne rfl)⟩

theorem img_ne_shelf {w : World} {B g n c hb pb : Nat} {xs : List Value} {l : List Pg} (h : w.ownsRow B 184 17 (.slice (some ⟨g, 0, none⟩) n c) n xs) (hs : ShelfAt w hb pb l) : g ≠ pb := by
  intro e
  subst e
  rcases h.2 with ⟨h1, _⟩ | ⟨g', cap, cur, h1, _, h2, _⟩
  · cases h1
  · simp only [Value.slice.injEq, Option.some.injEq, Addr.mk.injEq] at h1
    rw [← h1.1.1] at h2
    rw [hs.2.1] at h2
    simp at h2

def Fits (l : List Pg) (I : List (Int × Pg)) : Prop := ∀ x ∈ I, 0 ≤ x.1 ∧ x.1 < l.length ∧ okPg x.2 = true

set_option maxHeartbeats 4000000 in
set_option maxRecDepth 100000 in
theorem apply_ok (hb pb : Nat) (l : List Pg) (I : List (Int × Pg)) (v : Value) (B : Nat) (w : World) (hs : ShelfAt w hb pb l) (hI : Fits l I) (hv : w.ownsRow B 184 17 v I.length (imgRow I)) (hn : I.length ≤ 2000) :
    Calls Try.prog 73 #[.pointer (some ⟨hb, 0, none⟩), v] w fun e w' => e = .returned (.int .i64 0) ∧ w.grownBy w' (some pb) ∧ ShelfAt w' hb pb (appl l I) := by
  have l1 := (Array.getElem?_eq_some_iff.1 hs.1).1
  have l2 := (Array.getElem?_eq_some_iff.1 hs.2.1).1
  have hll := hs.2.2.2.2
  have HS := Lib.hid hs
  have HI := Lib.hid hI
  have HV := Lib.hid hv
  obtain ⟨vp, vc, hv2⟩ : ∃ vp vc, v = .slice vp I.length vc := by
    rcases ownsRow_forms hv with ⟨h1, h2⟩ | ⟨g, c, h1⟩
    · exact ⟨_, _, by rw [h1, h2]⟩
    · exact ⟨_, _, h1⟩
  subst hv2
  clear hs hI hv
  go_enter Try.func73, Try.ntmps73
  go_wp2_with fail
  go_loopw [13] (fun i wr => ∃ j : Nat, j ≤ I.length ∧ i = .int .i64 j ∧ Below w.heap.size w wr) (fun i _ => I.length - (intOf i).toNat)
  case atStart => exact ⟨0, by omega, rfl, Below.refl _ _⟩
  case round =>
    obtain ⟨j, hj, rfl, hbl⟩ := hrel
    have hz := hbl.size
    by_cases hlt : j < I.length
    · obtain ⟨g, hg⟩ : ∃ g, vp = some ⟨g, 0, none⟩ := by
        obtain ⟨g, cap, hv⟩ := ownsRow_form HV.out (by omega)
        simp only [Value.slice.injEq] at hv
        exact ⟨g, hv.1⟩
      subst hg
      have hld := load_img (own_low HV.out hbl) j hlt
      have hfit := HI.out _ (List.getElem_mem hlt)
      have c0 := (hbl.cell (p := ⟨hb, 0, none⟩) l1).trans (cell_of_block HS.out.1 0)
      simp only [List.getElem?_toArray, List.getElem?_cons_zero] at c0
      generalize I[j] = x at *
      obtain ⟨id, p⟩ := x
      simp only at hld hfit
      obtain ⟨i, rfl⟩ := Int.eq_ofNat_of_zero_le hfit.1
      have hi : (i : Int) < (l.length : Int) := hfit.2.1
      have HC := Lib.hid (fun w' => check_any p w')
      rw [hfit.2.2] at HC
      have e0 : chkE true = 0 := rfl
      rw [e0] at HC
      have hlp := load_imgPage (rowAt_at wr (imgCs i p) 184 _ rfl)
      have HB := Lib.hid hbl
      have c1 : (wr.alloc (.cells (imgCs i p) 184)).cell? ⟨hb, 0, none⟩ = some (.slice (some ⟨pb, 0, none⟩) l.length l.length) := (((Below.refl wr.heap.size wr).alloc (Nat.le_refl _) (.cells (imgCs i p) 184)).cell (p := ⟨hb, 0, none⟩) (by show hb < wr.heap.size; omega)).trans c0
      have g1 : decide ((i : Int) < 0) = false := by simp
      have g2 : decide ((l.length : Int) ≤ (i : Int)) = false := by simp; omega
      have g3 : decide (l.length ≤ i) = false := by simp; omega
      clear hbl hfit e0
      go_wp2_with fail
      have hR : rowAt (wr.alloc (.cells (imgCs i p) 184)).drew wr.heap.size = some (imgCs i p) := rowAt_at wr _ _ _ rfl
      have k1 : (wr.alloc (.cells (imgCs i p) 184)).drew.cell? ⟨wr.heap.size, 0, none⟩ = some (.int .i64 (i : Int)) := (cell_row hR 0).trans rfl
      have k2 : (wr.alloc (.cells (imgCs i p) 184)).drew.cell? ⟨hb, 0, none⟩ = some (.slice (some ⟨pb, 0, none⟩) l.length l.length) := c1
      have k3 := load_imgPage hR
      have hhb : hb < wr.heap.size := by omega
      go_region_held3 (fun w' => w'.cell? ⟨wr.heap.size, 0, none⟩ = some (.int .i64 (i : Int)) ∧ w'.cell? ⟨hb, 0, none⟩ = some (.slice (some ⟨pb, 0, none⟩) l.length l.length) ∧ (loadPg (.pointer (some ⟨wr.heap.size, 1, none⟩))).run Try.prog w' = .ok p.v w')
        (first
          | exact ⟨k1, k2, k3⟩
          | exact ⟨(hb1.cell (p := ⟨wr.heap.size, 0, none⟩) (by simp)).trans k1, (hb1.cell (p := ⟨hb, 0, none⟩) (by simp; omega)).trans k2, load_imgPage ((rowAt_below hb1 (by simp)).trans hR)⟩)
        (first | ((go_at_call 91; refine (HC.out _).mono ?_; rintro e w1 ⟨rfl, hb1⟩)))
      have B1 : Below w.heap.size w w1 := (HB.out.alloc hz (.cells (imgCs i p) 184)).drew.trans (hb1.mono (by simp; omega))
      have HB1 := Lib.hid B1
      clear hb1 B1 k1 k2 k3 hR
      go_wp2_with fail
      go_roundw
      case rel => exact ⟨j + 1, by omega, by go_num, HB1.out⟩
      case measure => simp [intOf]; omega
    · have hje : j = I.length := by omega
      subst hje
      have HB := Lib.hid hbl
      have hs1 := Lib.hid (HS.out.below hbl l1 l2)
      have hv1 := Lib.hid (own_low HV.out hbl)
      clear hbl
      obtain ⟨wo, rfl⟩ : ∃ wo : World, wo = wr := ⟨_, rfl⟩
      go_wp2_with fail
      go_loopw [39] (fun i wr => ∃ j : Nat, j ≤ I.length ∧ i = .int .i64 j ∧ w.grownBy wr (some pb) ∧ ShelfAt wr hb pb (appl l (I.take j)) ∧ wr.ownsRow B 184 17 (.slice vp I.length vc) I.length (imgRow I)) (fun i _ => I.length - (intOf i).toNat)
      case atStart => exact ⟨0, by omega, rfl, grown_of_below HB.out _, hs1.out, hv1.out⟩
      case round =>
        obtain ⟨j, hj, rfl, hg, hs2, hv2⟩ := hrel
        have hz2 := hg.size
        by_cases hlt : j < I.length
        · obtain ⟨g, hg'⟩ : ∃ g, vp = some ⟨g, 0, none⟩ := by
            obtain ⟨g, cap, hv⟩ := ownsRow_form hv2 (by omega)
            simp only [Value.slice.injEq] at hv
            exact ⟨g, hv.1⟩
          subst hg'
          have hld := load_img hv2 j hlt
          have hfit := HI.out _ (List.getElem_mem hlt)
          have hgp := img_ne_shelf hv2 hs2
          have c0 := cell_of_block hs2.1 0
          simp only [List.getElem?_toArray, List.getElem?_cons_zero, appl_length] at c0
          have htk : I.take (j + 1) = I.take j ++ [I[j]] := by rw [List.take_succ_eq_append_getElem hlt]
          have hap := appl_snoc l (I.take j) I[j]
          rw [← htk] at hap
          clear htk
          generalize I[j] = x at *
          obtain ⟨id, p⟩ := x
          simp only at hld hfit hap
          obtain ⟨i, rfl⟩ := Int.eq_ofNat_of_zero_le hfit.1
          rw [Int.toNat_natCast] at hap
          have hi : (i : Int) < (l.length : Int) := hfit.2.1
          have hi2 : i < (appl l (I.take j)).length := by rw [appl_length]; omega
          obtain ⟨l', hl'⟩ : ∃ l', appl l (I.take j) = l' := ⟨_, rfl⟩
          rw [hl'] at hs2 hap hi2
          have hR : rowAt (wr.alloc (.cells (imgCs i p) 184)).drew wr.heap.size = some (imgCs i p) := rowAt_at wr _ _ _ rfl
          have k3 := load_imgPage hR
          have hb2 : (wr.alloc (.cells (imgCs i p) 184)).drew.heap[pb]? = some (.cells (rowsC l').toArray 112) := (Below.heap_alloc wr _ pb (by omega)).trans hs2.2.1
          have k4 := store_shelf hb2 i hi2 p
          have k2 : (wr.alloc (.cells (imgCs i p) 184)).cell? ⟨hb, 0, none⟩ = some (.slice (some ⟨pb, 0, none⟩) l.length l.length) := (((Below.refl wr.heap.size wr).alloc (Nat.le_refl _) (.cells (imgCs i p) 184)).cell (p := ⟨hb, 0, none⟩) (by show hb < wr.heap.size; omega)).trans c0
          have HS2 := Lib.hid hs2
          have HV2 := Lib.hid hv2
          have HG2 := Lib.hid hg
          have HAp := Lib.hid hap
          clear hs2 hv2 hg hap hb2 hl' hfit
          go_wp2_with fail
          go_region
          have hgr : some g ≠ some pb := by simpa using hgp
          have hsA := (HS2.out.below ((Below.refl wr.heap.size wr).alloc (Nat.le_refl _) (.cells (imgCs i p) 184)) (by omega) (by omega)).set i p
          have hgA := grown_setRow (grown_drew (HG2.out.trans (World.grownBy_alloc wr (.cells (imgCs i p) 184) (some pb)))) (rowsC (l'.set i p)).toArray
          have hvA := (HV2.out.alloc (.cells (imgCs i p) 184)).kept (grown_setRow (grown_of_below (Below.refl _ _) (some pb)) (rowsC (l'.set i p)).toArray) (.inr hgr)
          have KS := Lib.hid hsA
          have KG := Lib.hid hgA
          have KV := Lib.hid hvA
          clear hsA hgA hvA k2 k3 k4 hR hld c0
          go_wp2_with fail
          go_roundw
          case rel => exact ⟨j + 1, by omega, by go_num, KG.out, by rw [HAp.out]; exact KS.out, KV.out⟩
          case measure => simp [intOf]; omega
        · have hje : j = I.length := by omega
          subst hje
          rw [List.take_length] at hs2
          have KS := Lib.hid hs2
          have KG := Lib.hid hg
          clear hs2 hg hv2
          go_wp2_with fail
          go_ret
          exact ⟨rfl, KG.out, KS.out⟩

/-- all changes forgotten -/
theorem run_clearMap (ty : TypeId) (mb : Nat) (es : Array MapEntry) (clock : Nat) (w : World) (h : w.heap[mb]? = some (.map es clock)) : (Builtin.clear_ #[137] ty #[.map (some mb)]).run Try.prog w = .ok (.tuple #[]) (ChangeMaps.setBlock w mb (.map #[] clock)) := by
  have hg : (getObj mb).run Try.prog w = .ok (.map es clock) w := MapKept.run_getObj_map h
  have hset : (setObj mb (.map #[] clock)).run Try.prog w = .ok () (ChangeMaps.setBlock w mb (.map #[] clock)) := by
    simp only [setObj, Sem.run, h]; rfl
  unfold Builtin.clear_
  simp [run_underlying Try.underlying137, hg, hset]

set_option maxHeartbeats 1000000 in
set_option maxRecDepth 100000 in
theorem drop_ok (S : Vol) (b mb hb pb : Nat) (w : World) (hs : StageAt w b mb hb pb S) :
    Calls Try.prog 42 #[.pointer (some ⟨b, 0, none⟩)] w fun e w' => e = .returned (.tuple #[]) ∧ w.grownBy w' (some mb) ∧ StageAt w' b mb hb pb ⟨S.base, []⟩ := by
  have c1 := cell_of_block hs.1 1
  simp only [List.getElem?_toArray, List.getElem?_cons_succ, List.getElem?_cons_zero] at c1
  obtain ⟨es, clock, hm, hM, hSt⟩ := hs.2.1
  have hc := fun ty => run_clearMap ty mb es clock w hm
  have HS := Lib.hid hs
  have HM := Lib.hid hm
  clear hs hm hM hSt
  go_enter Try.func42, Try.ntmps42
  go_wp2_with fail
  go_end0
  have hg := grown_setBlock (grown_of_below (Below.refl _ w) (some mb)) (.map #[] clock)
  exact ⟨rfl, hg, HS.out.grown (M := []) hg ⟨#[], clock, ChangeMaps.heap_setBlock_same HM.out _, rfl, MapKept.stamped_empty clock⟩⟩

/-- two worlds one behind the other, each with one old block that may have been written -/
theorem Lay.drop {P : Nat → Prop} {w0 w : World} {b hb : Nat} {S : Vol} (L : Lay P w0 w b hb S) :
    Calls Try.prog 42 #[.pointer (some ⟨b, 0, none⟩)] w fun e w' => e = .returned (.tuple #[]) ∧ Lay P w0 w' b hb ⟨S.base, []⟩ := by
  obtain ⟨mb, pb, hs, h4⟩ := L.at'
  exact (drop_ok S b mb hb pb w hs).mono fun e w' ⟨he, hg, hs'⟩ => ⟨he, Lay.write L.keep L.dom h4 hg hs'⟩
end

/-!
  Layer 14 (space): what is set lands on the shelf below; Take, Give, Used in the form of the laws; what is refused.
-/
section
open Go.RowKit Go.Joins
set_option linter.unusedVariables false
set_option linter.unusedSimpArgs false

/-- a stage whose pages fit the shelf below -/
structure Vol.Fit (S : Vol) (N : Nat) : Prop where
  once : (S.M.map (·.1)).Nodup
  fit : ∀ x ∈ S.M, 0 ≤ x.1 ∧ x.1 < N ∧ okPg x.2 = true
  len : S.base.length = N
  hi : N ≤ 1024

theorem Vol.Fit.ok {S : Vol} {N : Nat} (h : S.Fit N) : S.Ok := ⟨h.once, fun x hx => ⟨(h.fit x hx).1, by have := (h.fit x hx).2.1; have := h.hi; omega⟩⟩
theorem fit_updM {N : Nat} {k : Int} {p : Pg} {M : List (Int × Pg)} (hk : 0 ≤ k ∧ k < N ∧ okPg p = true) (h : ∀ x ∈ M, 0 ≤ x.1 ∧ x.1 < N ∧ okPg x.2 = true) : ∀ x ∈ updM k p M, 0 ≤ x.1 ∧ x.1 < N ∧ okPg x.2 = true := by
  induction M with
  | nil => intro x hx; simp [updM] at hx; subst hx; exact hk
  | cons y r ih =>
    unfold updM
    split
    · intro x hx
      rcases List.mem_cons.1 hx with rfl | hx
      · exact hk
      · exact h x (List.mem_cons_of_mem _ hx)
    · intro x hx
      rcases List.mem_cons.1 hx with rfl | hx
      · exact h _ (List.mem_cons_self ..)
      · exact ih (fun z hz => h z (List.mem_cons_of_mem _ hz)) x hx
theorem Vol.Fit.put {S : Vol} {N : Nat} (h : S.Fit N) (id : Int) (p : Pg) (h0 : 0 ≤ id) (h1 : id < N) (hp : okPg p = true) : (S.put id p).Fit N :=
  ⟨once_updM h.once, fit_updM ⟨h0, h1, hp⟩ h.fit, h.len, h.hi⟩
theorem Vol.Fit.nil (l : List Pg) (h : l.length ≤ 1024) : Vol.Fit ⟨l, []⟩ l.length := ⟨by simp, by simp, rfl, h⟩
theorem getM_of_mem {S : Vol} (h : (S.M.map (·.1)).Nodup) {x : Int × Pg} (hx : x ∈ S.M) : getM S x.1 = some x.2 := by
  obtain ⟨base, M⟩ := S
  simp only [getM] at *
  induction M with
  | nil => cases hx
  | cons y r ih =>
    simp only [List.find?_cons]
    have hn := List.nodup_cons.1 h
    by_cases hy : (y.1 == x.1) = true
    · rw [hy]
      rcases List.mem_cons.1 hx with e | e
      · subst e; rfl
      · exfalso
        have : y.1 = x.1 := by simpa using hy
        exact hn.1 (List.mem_map.2 ⟨x, e, this.symm⟩)
    · simp only [Bool.not_eq_true] at hy
      rw [hy]
      rcases List.mem_cons.1 hx with e | e
      · subst e; simp at hy
      · exact ih hn.2 e
theorem imgs_fit {S : Vol} {N : Nat} (h : S.Fit N) : Fits S.base (imgs S S.keys) := by
  intro x hx
  unfold imgs at hx
  obtain ⟨id, hid, rfl⟩ := List.mem_map.1 hx
  have hk := (Vol.mem_keys S id).1 (List.mem_filter.1 hid).1
  obtain ⟨y, hy, rfl⟩ := List.mem_map.1 hk
  have hf := h.fit y hy
  have hg := getM_of_mem h.once hy
  have e : stPg S y.1 = y.2 := by unfold stPg; rw [hg]
  simp only [e]
  rw [h.len]
  exact hf

theorem appl_get (l : List Pg) (I : List (Int × Pg)) (f : Int → Pg) (hI : ∀ x ∈ I, 0 ≤ x.1 ∧ x.2 = f x.1) (i : Nat) (hi : i < l.length) : (appl l I).getD i Pg.zero = if (i : Int) ∈ I.map (·.1) then f i else l.getD i Pg.zero := by
  induction I generalizing l with
  | nil => simp [appl]
  | cons x r ih =>
    have e : appl l (x :: r) = appl (l.set x.1.toNat x.2) r := rfl
    have hx := hI x (List.mem_cons_self ..)
    rw [e, ih _ (fun y hy => hI y (List.mem_cons_of_mem _ hy)) (by simpa using hi)]
    simp only [List.map_cons, List.mem_cons]
    by_cases h1 : (i : Int) ∈ r.map (·.1)
    · rw [if_pos h1, if_pos (Or.inr h1)]
    · rw [if_neg h1]
      by_cases h2 : (i : Int) = x.1
      · rw [if_pos (Or.inl h2)]
        have h3 : x.1.toNat = i := by omega
        rw [h3, hx.2, ← h2]
        simp [List.getD, hi]
      · rw [if_neg (by simp [h1, h2])]
        have h3 : ¬ x.1.toNat = i := by have := hx.1; omega
        simp [List.getD, List.getElem?_set, h3]

/-- the stage behind its landing -/
def Vol.landed (S : Vol) : Vol := ⟨appl S.base (imgs S S.keys), []⟩
theorem landed_pg {S : Vol} {N : Nat} (h : S.Fit N) (i : Nat) (hi : i < N) : stPg S.landed i = stPg S i := by
  have e1 : stPg S.landed i = (appl S.base (imgs S S.keys)).getD i Pg.zero := by
    show shelfPg (appl S.base (imgs S S.keys)) i = _
    unfold shelfPg
    rw [if_pos (by omega), Int.toNat_natCast]
  rw [e1, appl_get S.base (imgs S S.keys) (fun k => stPg S k) (fun x hx => ⟨(imgs_fit h x hx).1, by
    unfold imgs at hx
    obtain ⟨id, hid, rfl⟩ := List.mem_map.1 hx
    rfl⟩) i (by rw [h.len]; exact hi)]
  split
  · rfl
  · rename_i hn
    have e2 : S.base.getD i Pg.zero = shelfPg S.base i := by
      unfold shelfPg
      rw [if_pos (by omega), Int.toNat_natCast]
    rw [e2]
    cases hg : getM S i with
    | none => unfold stPg; rw [hg]
    | some p =>
      have hm : (i : Int) ∈ S.keys := by
        rw [Vol.mem_keys]
        unfold getM at hg
        cases hf : S.M.find? (fun x => x.1 == (i : Int)) with
        | none => rw [hf] at hg; cases hg
        | some x =>
          have h1 := List.mem_of_find?_eq_some hf
          have h2 := List.find?_some hf
          exact List.mem_map.2 ⟨x, h1, by simpa using h2⟩
      by_cases he : pgEq (shelfPg S.base i) (stPg S i) = true
      · exact (pgEq_iff _ _).1 he
      · exfalso
        refine hn (List.mem_map.2 ⟨((i : Int), stPg S i), ?_, rfl⟩)
        unfold imgs
        exact List.mem_map.2 ⟨(i : Int), List.mem_filter.2 ⟨hm, by simp [he]⟩, rfl⟩
theorem landed_fit {S : Vol} {N : Nat} (h : S.Fit N) : S.landed.Fit N :=
  ⟨by simp [Vol.landed], by simp [Vol.landed], by simp [Vol.landed, appl_length, h.len], h.hi⟩
theorem dropped_fit {S : Vol} {N : Nat} (h : S.Fit N) : Vol.Fit ⟨S.base, []⟩ N := ⟨by simp, by simp, h.len, h.hi⟩
theorem stE_nil {l : List Pg} {i N : Nat} (h : l.length = N) (hi : i < N) : stE ⟨l, []⟩ i = 0 := by
  show shelfE l i = 0
  exact if_pos ⟨by omega, by omega⟩
theorem VolOk.landed {S : Vol} {d m : Pg} {n N : Nat} (h : VolOk S d m n) (hf : S.Fit N) (hn : n ≤ N) : VolOk S.landed d m n := by
  have h2 := h.two
  have p0 := landed_pg hf 0 (by omega)
  have p1 := landed_pg hf 1 (by omega)
  have hl : (appl S.base (imgs S S.keys)).length = N := by rw [appl_length, hf.len]
  exact ⟨⟨stE_nil hl (i := 0) (by omega), p0.trans h.dir.p, h.dir.k⟩, h.dok, ⟨stE_nil hl (i := 1) (by omega), p1.trans h.map.p, h.map.k, h.map.cnt, h.map.lo, h.map.hi, h.map.sz, h.map.ok⟩, fun i hi => stE_nil hl (by omega), h.two, h.z0, h.z1⟩

theorem made_fit {S : Vol} {d m : Pg} {n N : Nat} (h : VolOk S d m n) (hf : S.Fit N) (hn : n ≤ N) (k id : Nat) (kind : Int) (hk : k < 6) (h2 : 2 ≤ id) (hid : id < n) : (S.made d m k id kind).Fit N := by
  have hn4 := h.map.hi
  have hok := ok_setC h.dok k hk 1 (entryD kind id) (okC_full (.inl rfl) (by rw [entry_size]; omega) (by rw [entry_size]; omega))
  refine ((hf.put 1 _ (by omega) (by omega) (mark_ok m id true (by omega) h.map.sz h.map.ok)).put id _ (by omega) (by omega) ?_).put 0 _ (by omega) (by omega) hok
  split
  · exact ok_root 3 k (by omega) (by omega) (by omega) (by omega)
  · exact ok_root 4 k (by omega) (by omega) (by omega) (by omega)
theorem frees_fit {S : Vol} {m : Pg} {n N : Nat} {l : List Nat} (st : Int) (h : Half S m n l) (hf : S.Fit N) (hN : 2 ≤ N) : (frees st l S m).1.Fit N := by
  induction l generalizing S m with
  | nil => exact hf
  | cons id r ih =>
    have hid := h.had id (List.mem_cons_self ..)
    have hn := h.map.hi
    unfold frees
    split
    · exact ih h.give (hf.put 1 _ (by omega) (by omega) (mark_ok m id false (by omega) h.map.sz h.map.ok))
    · exact ih h.skip hf
theorem forgot_fit {S : Vol} {d m : Pg} {n N : Nat} (h : VolOk S d m n) (hf : S.Fit N) (hn : n ≤ N) (k : Nat) (hk : k < 6) : (S.forgot d m n k).Fit N := by
  have h2 := h.two
  exact (frees_fit _ h.half hf (by omega)).put 0 _ (by omega) (by omega) (h.forget k hk).1
theorem formed_fit {S : Vol} {N n : Nat} (hf : S.Fit N) (h4 : 4 ≤ n) (hn : n ≤ N) : (S.formed n).Fit N := by
  have hh := hf.hi
  have z1 : ∀ i, i < 6 → ((markPg (mapPg ((n : Int) - 1)) 0 true).d i).size = 34 := fun j hj => mark_sz _ _ _ (by omega) (mapPg_sz _) j hj
  exact (hf.put 0 _ (by omega) (by omega) okDir).put 1 _ (by omega) (by omega) (mark_ok _ _ _ (by omega) z1 (mark_ok _ _ _ (by omega) (mapPg_sz _) (mapPg_ok _ (by omega) (by omega))))

/-- a page marked -/
theorem VolOk.mark {S : Vol} {d m : Pg} {n : Nat} (h : VolOk S d m n) (id : Nat) (y : Bool) (h2 : 2 ≤ id) (hid : id < n) : VolOk (S.put 1 (markPg m id y)) d (markPg m id y) n := by
  have hn := h.map.hi
  refine ⟨⟨by rw [stE_put, if_neg (by omega)]; exact h.dir.e, by rw [stPg_put, if_neg (by omega)]; exact h.dir.p, h.dir.k⟩, h.dok, h.map.mark id y (by omega), fun i hi => ?_, h.two, ?_, ?_⟩
  · rw [stE_put]
    split
    · rfl
    · exact h.there i hi
  · rw [bitAt_lt h _ _ _ (by have := h.two; omega) hid, if_neg (by omega)]; exact h.z0
  · rw [bitAt_lt h _ _ _ (by have := h.two; omega) hid, if_neg (by omega)]; exact h.z1
theorem mark_fit {S : Vol} {d m : Pg} {n N : Nat} (h : VolOk S d m n) (hf : S.Fit N) (hn : n ≤ N) (id : Nat) (y : Bool) (hid : id < n) : (S.put 1 (markPg m id y)).Fit N := by
  have := h.map.hi
  have := h.two
  exact hf.put 1 _ (by omega) (by omega) (mark_ok m id y (by omega) h.map.sz h.map.ok)

section
variable {P : Nat → Prop} {w0 w : World} {b hb : Nat} {S : Vol} {d m : Pg} {n : Nat}
theorem take_lay (L : Lay P w0 w b hb S) (h : VolOk S d m n) (id : Nat) (hid : id < n) (hf : bitAt m id = false) (hbelow : ∀ j, j < id → bitAt m j = true) :
    Calls Try.prog 41 #[.pointer (some ⟨b, 0, none⟩)] w fun e w' => e = .returned (.tuple #[.int .i64 id, .int .i64 0]) ∧ Lay P w0 w' b hb (S.put 1 (markPg m id true)) := by
  obtain ⟨mb, pb, hs, h4⟩ := L.at'
  exact (take_some S b mb hb pb m n w hs h.map id hid hf hbelow).mono fun e w' ⟨he, hg, hs'⟩ => ⟨he, Lay.write L.keep L.dom h4 hg hs'⟩
theorem takeNone_lay (L : Lay P w0 w b hb S) (h : VolOk S d m n) (hbelow : ∀ j, j < n → bitAt m j = true) :
    Calls Try.prog 41 #[.pointer (some ⟨b, 0, none⟩)] w fun e w' => e = .returned (.tuple #[.int .i64 0, .int .i64 140]) ∧ Lay P w0 w' b hb S := by
  obtain ⟨mb, pb, hs, h4⟩ := L.at'
  exact (take_none S b mb hb pb m n w hs h.map hbelow).mono fun e w' ⟨he, hbl⟩ => ⟨he, L.step hbl⟩
theorem give_lay (L : Lay P w0 w b hb S) (h : VolOk S d m n) (id : Nat) (h2 : 2 ≤ id) (hid : id < n) (hf : bitAt m id = true) :
    Calls Try.prog 43 #[.pointer (some ⟨b, 0, none⟩), .int .i64 id] w fun e w' => e = .returned (.int .i64 0) ∧ Lay P w0 w' b hb (S.put 1 (markPg m id false)) := by
  obtain ⟨mb, pb, hs, h4⟩ := L.at'
  exact (give_ok S b mb hb pb m n w hs h.map id h2 hid hf).mono fun e w' ⟨he, hg, hs'⟩ => ⟨he, Lay.write L.keep L.dom h4 hg hs'⟩
theorem giveBad_lay (L : Lay P w0 w b hb S) (h : VolOk S d m n) (id : Int) (hbad : id < 2 ∨ (n : Int) ≤ id ∨ bitAt m id.toNat = false) :
    Calls Try.prog 43 #[.pointer (some ⟨b, 0, none⟩), .int .i64 id] w fun e w' => e = .returned (.int .i64 1) ∧ Lay P w0 w' b hb S := by
  obtain ⟨mb, pb, hs, h4⟩ := L.at'
  exact (give_bad S b mb hb pb m n w hs h.map id hbad).mono fun e w' ⟨he, hbl⟩ => ⟨he, L.step hbl⟩
theorem used_lay (L : Lay P w0 w b hb S) (h : VolOk S d m n) :
    Calls Try.prog 57 #[.pointer (some ⟨b, 0, none⟩)] w fun e w' => ∃ v, e = .returned (.tuple #[v, .int .i64 n, .int .i64 0]) ∧ Lay P w0 w' b hb S ∧ Below w.heap.size w w' ∧ w'.ownsRow w.heap.size 3 1 v (usedTo m n).length (idVals (usedTo m n)) := by
  obtain ⟨mb, pb, hs, h4⟩ := L.at'
  exact (used_any S b mb hb pb m n w hs h.map).mono fun e w' ⟨v, he, hbl, ho⟩ => ⟨v, he, L.step hbl, hbl, ho⟩
theorem images_lay {N : Nat} (L : Lay P w0 w b hb S) (hf : S.Fit N) :
    Calls Try.prog 72 #[.pointer (some ⟨b, 0, none⟩)] w fun e w' => ∃ v, e = .returned (.tuple #[v, .int .i64 0]) ∧ Lay P w0 w' b hb S ∧ Below w.heap.size w w' ∧ w'.ownsRow w.heap.size 184 17 v (imgs S S.keys).length (imgRow (imgs S S.keys)) := by
  obtain ⟨mb, pb, hs, h4⟩ := L.at'
  refine (images_ok S b mb hb pb w hs hf.ok (fun x hx => ?_)).mono fun e w' ⟨v, he, hbl, ho⟩ => ⟨v, he, L.step hbl, hbl, ho⟩
  have hx' := hf.fit x hx
  exact if_pos ⟨hx'.1, by rw [hf.len]; exact hx'.2.1⟩
theorem apply_lay {N : Nat} (L : Lay P w0 w b hb S) (hf : S.Fit N) (v : Value) (B' : Nat) (hv : w.ownsRow B' 184 17 v (imgs S S.keys).length (imgRow (imgs S S.keys))) :
    Calls Try.prog 73 #[.pointer (some ⟨hb, 0, none⟩), v] w fun e w' => e = .returned (.int .i64 0) ∧ Lay P w0 w' b hb ⟨appl S.base (imgs S S.keys), S.M⟩ := by
  obtain ⟨mb, pb, hs, h4⟩ := L.at'
  have hl : (imgs S S.keys).length ≤ 2000 := by
    have h1 := imgs_len S S.keys
    have h2 := Vol.keys_len S
    have h3 := hf.ok.len
    omega
  refine (apply_ok hb pb S.base (imgs S S.keys) v B' w hs.2.2.1 (imgs_fit hf) hv hl).mono fun e w' ⟨he, hg, hs'⟩ => ⟨he, ?_⟩
  obtain ⟨q1, q2, q3, q4⟩ := hs.lt
  refine ⟨L.keep.trans ⟨hg.os, hg.tape, hg.output, hg.size, fun k hk => hg.block k (Nat.lt_of_lt_of_le (L.dom k hk) L.keep.size) (fun e => h4.2.2.2 (by cases e; exact hk))⟩, L.dom, mb, pb, ⟨?_, ?_, hs', hs.2.2.2⟩, h4⟩
  · exact (hg.block b q1 (by have := hs.2.2.2.2.2.2.2; simpa using this)).trans hs.1
  · obtain ⟨es, c, h1, h2⟩ := hs.2.1
    exact ⟨es, c, (hg.block mb q2 (by have := hs.2.2.2.2.2.1; simpa using this)).trans h1, h2⟩
end
end
end Go.Proofs.Ytljommhbhpappaa
